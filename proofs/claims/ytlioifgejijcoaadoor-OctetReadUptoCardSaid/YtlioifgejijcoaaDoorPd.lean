/- Texts of a walk over heaps, printed by program and by hand: lemmas for the law that is proved in this claim. No condition. -/
import Derived.Test.YtlioifgejijcoaaDoorProg
import Derived.Test.YtlioifgejijcoaaDoorPc
set_option linter.unusedVariables false
set_option maxRecDepth 100000
namespace Go.Proofs.YtlioifgejijcoaaDoor
open Go Go.Hw

/-- the functions that have a body -/
def E : Nat → Bool := fun f => Nat.blt 2 f && Nat.blt f 75
theorem hE : EnterOk Tryd.prog E := by
  have all : ∀ f ∈ List.range' 3 72, (!E f || match Tryd.prog.funcs[f]? with | some fn => !fn.body.isNone && !(fn.name == "runtime.NumGoroutine") | none => false) = true := by
    rw [← List.all_eq_true]
    kernel_rfl
  intro f h
  have hm : f ∈ List.range' 3 72 := by
    simp only [E, Bool.and_eq_true, Bool.or_eq_true, Nat.blt_eq] at h
    simp only [List.mem_range'_1]; omega
  have := all f hm
  rw [h] at this
  simp only [Bool.not_true, Bool.false_or] at this
  split at this
  · rename_i fn hf
    simp only [Bool.and_eq_true, Bool.not_eq_true'] at this
    exact ⟨fn, hf, this.1, this.2⟩
  · cases this
theorem hm : Tryd.prog.follows .mixedOrders = true := by kernel_rfl
/-- gosem.cut.init -/
def C2  (h : Hp) (K : Hp → Prop) : Prop :=
  HCalls Tryd.prog 2 ⟨[]⟩ h fun _ h' => K h'

/-- slipway/slipwaylaw01.OctetPuts -/
def C3 (x0 : Int) (x1 : Int) (h : Hp) (K : Bool → Hp → Prop) : Prop :=
  HCalls Tryd.prog 3 ⟨[.int .u64 x0, .int .i64 x1]⟩ h fun v h' => VT.on (.c (.bool)) (some v) fun r => K r h'

/-- slipway/slipwaylaw01.OctetGets -/
def C4 (x0 : Sl) (x1 : Int) (x2 : Int) (h : Hp) (K : Bool → Hp → Prop) : Prop :=
  HCalls Tryd.prog 4 ⟨[.slice x0.p x0.n x0.c, .int .i64 x1, .int .i64 x2]⟩ h fun v h' => VT.on (.c (.bool)) (some v) fun r => K r h'

/-- slipway/slipwaylaw01.OctetBack -/
def C5 (x0 : Sl) (x1 : Int) (x2 : Int) (x3 : Sl) (h : Hp) (K : Bool → Hp → Prop) : Prop :=
  HCalls Tryd.prog 5 ⟨[.slice x0.p x0.n x0.c, .int .u64 x1, .int .i64 x2, .slice x3.p x3.n x3.c]⟩ h fun v h' => VT.on (.c (.bool)) (some v) fun r => K r h'

/-- slipway/slipwaylaw01.OctetSums -/
def C6 (x0 : Sl) (h : Hp) (K : Bool → Hp → Prop) : Prop :=
  HCalls Tryd.prog 6 ⟨[.slice x0.p x0.n x0.c]⟩ h fun v h' => VT.on (.c (.bool)) (some v) fun r => K r h'

/-- slipway/slipwaylaw01.OctetJoined -/
def C7 (x0 : Sl) (x1 : Sl) (h : Hp) (K : Bool → Hp → Prop) : Prop :=
  HCalls Tryd.prog 7 ⟨[.slice x0.p x0.n x0.c, .slice x1.p x1.n x1.c]⟩ h fun v h' => VT.on (.c (.bool)) (some v) fun r => K r h'

/-- slipway/slipwaylaw01.OctetLaid -/
def C8 (x0 : Sl) (x1 : Sl) (h : Hp) (K : Bool → Hp → Prop) : Prop :=
  HCalls Tryd.prog 8 ⟨[.slice x0.p x0.n x0.c, .slice x1.p x1.n x1.c]⟩ h fun v h' => VT.on (.c (.bool)) (some v) fun r => K r h'

/-- slipway/slipwaylaw01.OctetTexts -/
def C9 (x0 : Int) (x1_0 : Int) (x1_1 : Int) (x1_2 : Int) (x1_3 : Int) (x1_4 : Int) (x1_5 : Int) (x2 : ByteArray) (h : Hp) (K : Bool → Hp → Prop) : Prop :=
  HCalls Tryd.prog 9 ⟨[.int .u32 x0, .agg ⟨[.int .u8 x1_0, .int .u8 x1_1, .int .u8 x1_2, .int .u8 x1_3, .int .u8 x1_4, .int .u8 x1_5]⟩, .string x2]⟩ h fun v h' => VT.on (.c (.bool)) (some v) fun r => K r h'

/-- slipway/slipwaylaw01.OctetRead -/
def C10 (x0 : Int) (x1_0 : Int) (x1_1 : Int) (x1_2 : Int) (x1_3 : Int) (x1_4 : Int) (x1_5 : Int) (x2 : ByteArray) (h : Hp) (K : Bool → Hp → Prop) : Prop :=
  HCalls Tryd.prog 10 ⟨[.int .u32 x0, .agg ⟨[.int .u8 x1_0, .int .u8 x1_1, .int .u8 x1_2, .int .u8 x1_3, .int .u8 x1_4, .int .u8 x1_5]⟩, .string x2]⟩ h fun v h' => VT.on (.c (.bool)) (some v) fun r => K r h'

/-- slipway/slipwaylaw01.OctetNumbers -/
def C11  (h : Hp) (K : Bool → Hp → Prop) : Prop :=
  HCalls Tryd.prog 11 ⟨[]⟩ h fun v h' => VT.on (.c (.bool)) (some v) fun r => K r h'

/-- slipway/slipwaylaw01.OctetMasks -/
def C12 (x0 : Int) (x1_0 : Int) (x1_1 : Int) (x1_2 : Int) (x1_3 : Int) (x1_4 : Int) (x1_5 : Int) (h : Hp) (K : Bool → Hp → Prop) : Prop :=
  HCalls Tryd.prog 12 ⟨[.int .u32 x0, .agg ⟨[.int .u8 x1_0, .int .u8 x1_1, .int .u8 x1_2, .int .u8 x1_3, .int .u8 x1_4, .int .u8 x1_5]⟩]⟩ h fun v h' => VT.on (.c (.bool)) (some v) fun r => K r h'

/-- slipway/slipwaylaw01.OctetTurns -/
def C13 (x0 : Int) (x1 : Int) (x2 : Int) (h : Hp) (K : Bool → Hp → Prop) : Prop :=
  HCalls Tryd.prog 13 ⟨[.int .u16 x0, .int .u16 x1, .int .u16 x2]⟩ h fun v h' => VT.on (.c (.bool)) (some v) fun r => K r h'

/-- slipway/slipwaylaw01.OctetTurned -/
def C14 (x0 : Sl) (x1 : Int) (x2 : Int) (h : Hp) (K : Bool → Hp → Prop) : Prop :=
  HCalls Tryd.prog 14 ⟨[.slice x0.p x0.n x0.c, .int .i64 x1, .int .u16 x2]⟩ h fun v h' => VT.on (.c (.bool)) (some v) fun r => K r h'

/-- slipway/slipwaylaw01.live -/
def C15  (h : Hp) (K : Bool → Hp → Prop) : Prop :=
  HCalls Tryd.prog 15 ⟨[]⟩ h fun v h' => VT.on (.c (.bool)) (some v) fun r => K r h'

/-- slipway/octet.Put -/
def C16 (x0 : Int) (x1 : Int) (h : Hp) (K : Sl → Hp → Prop) : Prop :=
  HCalls Tryd.prog 16 ⟨[.int .u64 x0, .int .i64 x1]⟩ h fun v h' => VT.on (.c (.slice)) (some v) fun r => K r h'

/-- slipway/slipwayref01.Put -/
def C17 (x0 : Int) (x1 : Int) (h : Hp) (K : Sl → Hp → Prop) : Prop :=
  HCalls Tryd.prog 17 ⟨[.int .u64 x0, .int .i64 x1]⟩ h fun v h' => VT.on (.c (.slice)) (some v) fun r => K r h'

/-- (*slipway/slipwayref01.Book).Take -/
def C18 (x0 : Option Addr) (x1 : Sl) (h : Hp) (K : Hp → Prop) : Prop :=
  HCalls Tryd.prog 18 ⟨[.pointer x0, .slice x1.p x1.n x1.c]⟩ h fun _ h' => K h'

/-- (*slipway/slipwayref01.Book).Owned -/
def C19 (x0 : Option Addr) (h : Hp) (K : Bool → Hp → Prop) : Prop :=
  HCalls Tryd.prog 19 ⟨[.pointer x0]⟩ h fun v h' => VT.on (.c (.bool)) (some v) fun r => K r h'

/-- slipway/slipwayref01.Lent -/
def C20 (x0 : Sl) (h : Hp) (K : Sl → Hp → Prop) : Prop :=
  HCalls Tryd.prog 20 ⟨[.slice x0.p x0.n x0.c]⟩ h fun v h' => VT.on (.c (.slice)) (some v) fun r => K r h'

/-- slipway/octet.Get -/
def C21 (x0 : Sl) (x1 : Int) (x2 : Int) (h : Hp) (K : Int → Int → Hp → Prop) : Prop :=
  HCalls Tryd.prog 21 ⟨[.slice x0.p x0.n x0.c, .int .i64 x1, .int .i64 x2]⟩ h fun v h' => tupOn [.c (.int .u64), .c (.int .i64)] v fun r => K r.1 r.2 h'

/-- slipway/slipwayref01.Get -/
def C22 (x0 : Sl) (x1 : Int) (x2 : Int) (h : Hp) (K : Int → Int → Hp → Prop) : Prop :=
  HCalls Tryd.prog 22 ⟨[.slice x0.p x0.n x0.c, .int .i64 x1, .int .i64 x2]⟩ h fun v h' => tupOn [.c (.int .u64), .c (.int .i64)] v fun r => K r.1 r.2 h'

/-- slipway/slipwayref01.AsLent -/
def C23 (x0 : Sl) (x1 : Sl) (h : Hp) (K : Bool → Hp → Prop) : Prop :=
  HCalls Tryd.prog 23 ⟨[.slice x0.p x0.n x0.c, .slice x1.p x1.n x1.c]⟩ h fun v h' => VT.on (.c (.bool)) (some v) fun r => K r h'

/-- slipway/slipwayref01.Beyond -/
def C24 (x0 : Sl) (h : Hp) (K : Bool → Hp → Prop) : Prop :=
  HCalls Tryd.prog 24 ⟨[.slice x0.p x0.n x0.c]⟩ h fun v h' => VT.on (.c (.bool)) (some v) fun r => K r h'

/-- slipway/octet.Sum -/
def C25 (x0 : Sl) (h : Hp) (K : Int → Hp → Prop) : Prop :=
  HCalls Tryd.prog 25 ⟨[.slice x0.p x0.n x0.c]⟩ h fun v h' => VT.on (.c (.int .u16)) (some v) fun r => K r h'

/-- slipway/slipwayref01.Sum -/
def C26 (x0 : Sl) (h : Hp) (K : Int → Hp → Prop) : Prop :=
  HCalls Tryd.prog 26 ⟨[.slice x0.p x0.n x0.c]⟩ h fun v h' => VT.on (.c (.int .u16)) (some v) fun r => K r h'

/-- slipway/octet.Undotted -/
def C27 (x0 : ByteArray) (h : Hp) (K : Int → Int → Hp → Prop) : Prop :=
  HCalls Tryd.prog 27 ⟨[.string x0]⟩ h fun v h' => tupOn [.c (.int .u32), .c (.int .i64)] v fun r => K r.1 r.2 h'

/-- slipway/slipwayref01.Undotted -/
def C28 (x0 : ByteArray) (h : Hp) (K : Int → Int → Hp → Prop) : Prop :=
  HCalls Tryd.prog 28 ⟨[.string x0]⟩ h fun v h' => tupOn [.c (.int .u32), .c (.int .i64)] v fun r => K r.1 r.2 h'

/-- slipway/octet.Uncolons -/
def C29 (x0 : ByteArray) (h : Hp) (K : Int → Int → Int → Int → Int → Int → Int → Hp → Prop) : Prop :=
  HCalls Tryd.prog 29 ⟨[.string x0]⟩ h fun v h' => tupOn [.agg [.int .u8, .int .u8, .int .u8, .int .u8, .int .u8, .int .u8], .c (.int .i64)] v fun r => K r.1.1 r.1.2.1 r.1.2.2.1 r.1.2.2.2.1 r.1.2.2.2.2.1 r.1.2.2.2.2.2 r.2 h'

/-- slipway/slipwayref01.Uncolons -/
def C30 (x0 : ByteArray) (h : Hp) (K : Int → Int → Int → Int → Int → Int → Int → Hp → Prop) : Prop :=
  HCalls Tryd.prog 30 ⟨[.string x0]⟩ h fun v h' => tupOn [.agg [.int .u8, .int .u8, .int .u8, .int .u8, .int .u8, .int .u8], .c (.int .i64)] v fun r => K r.1.1 r.1.2.1 r.1.2.2.1 r.1.2.2.2.1 r.1.2.2.2.2.1 r.1.2.2.2.2.2 r.2 h'

/-- slipway/octet.Dotted -/
def C31 (x0 : Int) (h : Hp) (K : ByteArray → Hp → Prop) : Prop :=
  HCalls Tryd.prog 31 ⟨[.int .u32 x0]⟩ h fun v h' => VT.on (.c (.str)) (some v) fun r => K r h'

/-- slipway/slipwayref01.Dotted -/
def C32 (x0 : Int) (h : Hp) (K : ByteArray → Hp → Prop) : Prop :=
  HCalls Tryd.prog 32 ⟨[.int .u32 x0]⟩ h fun v h' => VT.on (.c (.str)) (some v) fun r => K r h'

/-- slipway/octet.Colons -/
def C33 (x0_0 : Int) (x0_1 : Int) (x0_2 : Int) (x0_3 : Int) (x0_4 : Int) (x0_5 : Int) (h : Hp) (K : ByteArray → Hp → Prop) : Prop :=
  HCalls Tryd.prog 33 ⟨[.agg ⟨[.int .u8 x0_0, .int .u8 x0_1, .int .u8 x0_2, .int .u8 x0_3, .int .u8 x0_4, .int .u8 x0_5]⟩]⟩ h fun v h' => VT.on (.c (.str)) (some v) fun r => K r h'

/-- slipway/slipwayref01.Colons -/
def C34 (x0_0 : Int) (x0_1 : Int) (x0_2 : Int) (x0_3 : Int) (x0_4 : Int) (x0_5 : Int) (h : Hp) (K : ByteArray → Hp → Prop) : Prop :=
  HCalls Tryd.prog 34 ⟨[.agg ⟨[.int .u8 x0_0, .int .u8 x0_1, .int .u8 x0_2, .int .u8 x0_3, .int .u8 x0_4, .int .u8 x0_5]⟩]⟩ h fun v h' => VT.on (.c (.str)) (some v) fun r => K r h'

/-- slipway/octet.Everyone -/
def C35  (h : Hp) (K : Int → Int → Int → Int → Int → Int → Hp → Prop) : Prop :=
  HCalls Tryd.prog 35 ⟨[]⟩ h fun v h' => VT.on (.agg [.int .u8, .int .u8, .int .u8, .int .u8, .int .u8, .int .u8]) (some v) fun r => K r.1 r.2.1 r.2.2.1 r.2.2.2.1 r.2.2.2.2.1 r.2.2.2.2.2 h'

/-- slipway/octet.Group -/
def C36 (x0_0 : Int) (x0_1 : Int) (x0_2 : Int) (x0_3 : Int) (x0_4 : Int) (x0_5 : Int) (h : Hp) (K : Bool → Hp → Prop) : Prop :=
  HCalls Tryd.prog 36 ⟨[.agg ⟨[.int .u8 x0_0, .int .u8 x0_1, .int .u8 x0_2, .int .u8 x0_3, .int .u8 x0_4, .int .u8 x0_5]⟩]⟩ h fun v h' => VT.on (.c (.bool)) (some v) fun r => K r h'

/-- slipway/slipwayref01.Ones -/
def C37 (x0 : Int) (h : Hp) (K : Int → Hp → Prop) : Prop :=
  HCalls Tryd.prog 37 ⟨[.int .u32 x0]⟩ h fun v h' => VT.on (.c (.int .i64)) (some v) fun r => K r h'

/-- slipway/octet.Ones -/
def C38 (x0 : Int) (h : Hp) (K : Int → Hp → Prop) : Prop :=
  HCalls Tryd.prog 38 ⟨[.int .u32 x0]⟩ h fun v h' => VT.on (.c (.int .i64)) (some v) fun r => K r h'

/-- slipway/octet.IsMask -/
def C39 (x0 : Int) (h : Hp) (K : Bool → Hp → Prop) : Prop :=
  HCalls Tryd.prog 39 ⟨[.int .u32 x0]⟩ h fun v h' => VT.on (.c (.bool)) (some v) fun r => K r h'

/-- slipway/octet.IsHost -/
def C40 (x0 : Int) (h : Hp) (K : Bool → Hp → Prop) : Prop :=
  HCalls Tryd.prog 40 ⟨[.int .u32 x0]⟩ h fun v h' => VT.on (.c (.bool)) (some v) fun r => K r h'

/-- slipway/slipwayref01.IsHost -/
def C41 (x0 : Int) (h : Hp) (K : Bool → Hp → Prop) : Prop :=
  HCalls Tryd.prog 41 ⟨[.int .u32 x0]⟩ h fun v h' => VT.on (.c (.bool)) (some v) fun r => K r h'

/-- slipway/slipwayref01.Group -/
def C42 (x0_0 : Int) (x0_1 : Int) (x0_2 : Int) (x0_3 : Int) (x0_4 : Int) (x0_5 : Int) (h : Hp) (K : Bool → Hp → Prop) : Prop :=
  HCalls Tryd.prog 42 ⟨[.agg ⟨[.int .u8 x0_0, .int .u8 x0_1, .int .u8 x0_2, .int .u8 x0_3, .int .u8 x0_4, .int .u8 x0_5]⟩]⟩ h fun v h' => VT.on (.c (.bool)) (some v) fun r => K r h'

/-- slipway/octet.Turn -/
def C43 (x0 : Int) (x1 : Int) (x2 : Int) (h : Hp) (K : Int → Hp → Prop) : Prop :=
  HCalls Tryd.prog 43 ⟨[.int .u16 x0, .int .u16 x1, .int .u16 x2]⟩ h fun v h' => VT.on (.c (.int .u16)) (some v) fun r => K r h'

/-- slipway/slipwayref01.Turn -/
def C44 (x0 : Int) (x1 : Int) (x2 : Int) (h : Hp) (K : Int → Hp → Prop) : Prop :=
  HCalls Tryd.prog 44 ⟨[.int .u16 x0, .int .u16 x1, .int .u16 x2]⟩ h fun v h' => VT.on (.c (.int .u16)) (some v) fun r => K r h'

/-- slipway/slipwayref01.mark -/
def C45 (x0 : Int) (x1 : Int) (h : Hp) (K : Int → Hp → Prop) : Prop :=
  HCalls Tryd.prog 45 ⟨[.int .i64 x0, .int .i64 x1]⟩ h fun v h' => VT.on (.c (.int .u8)) (some v) fun r => K r h'

/-- slipway/octet.folded -/
def C46 (x0 : Int) (h : Hp) (K : Int → Hp → Prop) : Prop :=
  HCalls Tryd.prog 46 ⟨[.int .u64 x0]⟩ h fun v h' => VT.on (.c (.int .u16)) (some v) fun r => K r h'

/-- slipway/slipwayref01.Folded -/
def C47 (x0 : Int) (h : Hp) (K : Int → Hp → Prop) : Prop :=
  HCalls Tryd.prog 47 ⟨[.int .u64 x0]⟩ h fun v h' => VT.on (.c (.int .u64)) (some v) fun r => K r h'

/-- strings.Split -/
def C48 (x0 : ByteArray) (x1 : ByteArray) (h : Hp) (K : Sl → Hp → Prop) : Prop :=
  HCalls Tryd.prog 48 ⟨[.string x0, .string x1]⟩ h fun v h' => VT.on (.c (.slice)) (some v) fun r => K r h'

/-- strconv.ParseUint -/
def C49 (x0 : ByteArray) (x1 : Int) (x2 : Int) (h : Hp) (K : Int → Value → Hp → Prop) : Prop :=
  HCalls Tryd.prog 49 ⟨[.string x0, .int .i64 x1, .int .i64 x2]⟩ h fun v h' => tupOn [.c (.int .u64), .c (.any)] v fun r => K r.1 r.2 h'

/-- strconv.Itoa -/
def C50 (x0 : Int) (h : Hp) (K : ByteArray → Hp → Prop) : Prop :=
  HCalls Tryd.prog 50 ⟨[.int .i64 x0]⟩ h fun v h' => VT.on (.c (.str)) (some v) fun r => K r h'

/-- strings.IndexByte -/
def C51 (x0 : ByteArray) (x1 : Int) (h : Hp) (K : Int → Hp → Prop) : Prop :=
  HCalls Tryd.prog 51 ⟨[.string x0, .int .u8 x1]⟩ h fun v h' => VT.on (.c (.int .i64)) (some v) fun r => K r h'

/-- slipway/slipwayref01.value -/
def C52 (x0 : Int) (h : Hp) (K : Int → Hp → Prop) : Prop :=
  HCalls Tryd.prog 52 ⟨[.int .u8 x0]⟩ h fun v h' => VT.on (.c (.int .i64)) (some v) fun r => K r h'

/-- strings.Join -/
def C53 (x0 : Sl) (x1 : ByteArray) (h : Hp) (K : ByteArray → Hp → Prop) : Prop :=
  HCalls Tryd.prog 53 ⟨[.slice x0.p x0.n x0.c, .string x1]⟩ h fun v h' => VT.on (.c (.str)) (some v) fun r => K r h'

/-- slipway/slipwayref01.Decimal -/
def C54 (x0 : Int) (h : Hp) (K : ByteArray → Hp → Prop) : Prop :=
  HCalls Tryd.prog 54 ⟨[.int .i64 x0]⟩ h fun v h' => VT.on (.c (.str)) (some v) fun r => K r h'

/-- math/bits.LeadingZeros32 -/
def C55 (x0 : Int) (h : Hp) (K : Int → Hp → Prop) : Prop :=
  HCalls Tryd.prog 55 ⟨[.int .u32 x0]⟩ h fun v h' => VT.on (.c (.int .i64)) (some v) fun r => K r h'

/-- strings.genSplit -/
def C56 (x0 : ByteArray) (x1 : ByteArray) (x2 : Int) (x3 : Int) (h : Hp) (K : Sl → Hp → Prop) : Prop :=
  HCalls Tryd.prog 56 ⟨[.string x0, .string x1, .int .i64 x2, .int .i64 x3]⟩ h fun v h' => VT.on (.c (.slice)) (some v) fun r => K r h'

/-- internal/strconv.ParseUint -/
def C57 (x0 : ByteArray) (x1 : Int) (x2 : Int) (h : Hp) (K : Int → Value → Hp → Prop) : Prop :=
  HCalls Tryd.prog 57 ⟨[.string x0, .int .i64 x1, .int .i64 x2]⟩ h fun v h' => tupOn [.c (.int .u64), .c (.any)] v fun r => K r.1 r.2 h'

/-- strconv.toError -/
def C58 (x0 : ByteArray) (x1 : ByteArray) (x2 : Int) (x3 : Int) (x4 : Value) (h : Hp) (K : Value → Hp → Prop) : Prop :=
  HCalls Tryd.prog 58 ⟨[.string x0, .string x1, .int .i64 x2, .int .i64 x3, x4]⟩ h fun v h' => VT.on (.c (.any)) (some v) fun r => K r h'

/-- internal/strconv.Itoa -/
def C59 (x0 : Int) (h : Hp) (K : ByteArray → Hp → Prop) : Prop :=
  HCalls Tryd.prog 59 ⟨[.int .i64 x0]⟩ h fun v h' => VT.on (.c (.str)) (some v) fun r => K r h'

/-- internal/stringslite.IndexByte -/
def C60 (x0 : ByteArray) (x1 : Int) (h : Hp) (K : Int → Hp → Prop) : Prop :=
  HCalls Tryd.prog 60 ⟨[.string x0, .int .u8 x1]⟩ h fun v h' => VT.on (.c (.int .i64)) (some v) fun r => K r h'

/-- (*strings.Builder).Grow -/
def C61 (x0 : Option Addr) (x1 : Int) (h : Hp) (K : Hp → Prop) : Prop :=
  HCalls Tryd.prog 61 ⟨[.pointer x0, .int .i64 x1]⟩ h fun _ h' => K h'

/-- (*strings.Builder).WriteString -/
def C62 (x0 : Option Addr) (x1 : ByteArray) (h : Hp) (K : Int → Value → Hp → Prop) : Prop :=
  HCalls Tryd.prog 62 ⟨[.pointer x0, .string x1]⟩ h fun v h' => tupOn [.c (.int .i64), .c (.any)] v fun r => K r.1 r.2 h'

/-- (*strings.Builder).String -/
def C63 (x0 : Option Addr) (h : Hp) (K : ByteArray → Hp → Prop) : Prop :=
  HCalls Tryd.prog 63 ⟨[.pointer x0]⟩ h fun v h' => VT.on (.c (.str)) (some v) fun r => K r h'

/-- math/bits.Len32 -/
def C64 (x0 : Int) (h : Hp) (K : Int → Hp → Prop) : Prop :=
  HCalls Tryd.prog 64 ⟨[.int .u32 x0]⟩ h fun v h' => VT.on (.c (.int .i64)) (some v) fun r => K r h'

/-- strings.explode -/
def C65 (x0 : ByteArray) (x1 : Int) (h : Hp) (K : Sl → Hp → Prop) : Prop :=
  HCalls Tryd.prog 65 ⟨[.string x0, .int .i64 x1]⟩ h fun v h' => VT.on (.c (.slice)) (some v) fun r => K r h'

/-- strings.Count -/
def C66 (x0 : ByteArray) (x1 : ByteArray) (h : Hp) (K : Int → Hp → Prop) : Prop :=
  HCalls Tryd.prog 66 ⟨[.string x0, .string x1]⟩ h fun v h' => VT.on (.c (.int .i64)) (some v) fun r => K r h'

/-- strings.Index -/
def C67 (x0 : ByteArray) (x1 : ByteArray) (h : Hp) (K : Int → Hp → Prop) : Prop :=
  HCalls Tryd.prog 67 ⟨[.string x0, .string x1]⟩ h fun v h' => VT.on (.c (.int .i64)) (some v) fun r => K r h'

/-- internal/strconv.lower -/
def C68 (x0 : Int) (h : Hp) (K : Int → Hp → Prop) : Prop :=
  HCalls Tryd.prog 68 ⟨[.int .u8 x0]⟩ h fun v h' => VT.on (.c (.int .u8)) (some v) fun r => K r h'

/-- internal/strconv.underscoreOK -/
def C69 (x0 : ByteArray) (h : Hp) (K : Bool → Hp → Prop) : Prop :=
  HCalls Tryd.prog 69 ⟨[.string x0]⟩ h fun v h' => VT.on (.c (.bool)) (some v) fun r => K r h'

/-- strconv.syntaxError -/
def C70 (x0 : ByteArray) (x1 : ByteArray) (h : Hp) (K : Option Addr → Hp → Prop) : Prop :=
  HCalls Tryd.prog 70 ⟨[.string x0, .string x1]⟩ h fun v h' => VT.on (.c (.ptr)) (some v) fun r => K r h'

/-- strconv.rangeError -/
def C71 (x0 : ByteArray) (x1 : ByteArray) (h : Hp) (K : Option Addr → Hp → Prop) : Prop :=
  HCalls Tryd.prog 71 ⟨[.string x0, .string x1]⟩ h fun v h' => VT.on (.c (.ptr)) (some v) fun r => K r h'

/-- strconv.baseError -/
def C72 (x0 : ByteArray) (x1 : ByteArray) (x2 : Int) (h : Hp) (K : Option Addr → Hp → Prop) : Prop :=
  HCalls Tryd.prog 72 ⟨[.string x0, .string x1, .int .i64 x2]⟩ h fun v h' => VT.on (.c (.ptr)) (some v) fun r => K r h'

/-- strconv.bitSizeError -/
def C73 (x0 : ByteArray) (x1 : ByteArray) (x2 : Int) (h : Hp) (K : Option Addr → Hp → Prop) : Prop :=
  HCalls Tryd.prog 73 ⟨[.string x0, .string x1, .int .i64 x2]⟩ h fun v h' => VT.on (.c (.ptr)) (some v) fun r => K r h'

/-- internal/strconv.FormatInt -/
def C74 (x0 : Int) (x1 : Int) (h : Hp) (K : ByteArray → Hp → Prop) : Prop :=
  HCalls Tryd.prog 74 ⟨[.int .i64 x0, .int .i64 x1]⟩ h fun v h' => VT.on (.c (.str)) (some v) fun r => K r h'

/-- (*strings.Builder).copyCheck -/
def C76 (x0 : Option Addr) (h : Hp) (K : Hp → Prop) : Prop :=
  HCalls Tryd.prog 76 ⟨[.pointer x0]⟩ h fun _ h' => K h'

/-- (*strings.Builder).grow -/
def C77 (x0 : Option Addr) (x1 : Int) (h : Hp) (K : Hp → Prop) : Prop :=
  HCalls Tryd.prog 77 ⟨[.pointer x0, .int .i64 x1]⟩ h fun _ h' => K h'

/-- unicode/utf8.RuneCountInString -/
def C78 (x0 : ByteArray) (h : Hp) (K : Int → Hp → Prop) : Prop :=
  HCalls Tryd.prog 78 ⟨[.string x0]⟩ h fun v h' => VT.on (.c (.int .i64)) (some v) fun r => K r h'

/-- unicode/utf8.DecodeRuneInString -/
def C79 (x0 : ByteArray) (h : Hp) (K : Int → Int → Hp → Prop) : Prop :=
  HCalls Tryd.prog 79 ⟨[.string x0]⟩ h fun v h' => tupOn [.c (.int .i32), .c (.int .i64)] v fun r => K r.1 r.2 h'

/-- internal/stringslite.Index -/
def C81 (x0 : ByteArray) (x1 : ByteArray) (h : Hp) (K : Int → Hp → Prop) : Prop :=
  HCalls Tryd.prog 81 ⟨[.string x0, .string x1]⟩ h fun v h' => VT.on (.c (.int .i64)) (some v) fun r => K r h'

/-- internal/stringslite.Clone -/
def C82 (x0 : ByteArray) (h : Hp) (K : ByteArray → Hp → Prop) : Prop :=
  HCalls Tryd.prog 82 ⟨[.string x0]⟩ h fun v h' => VT.on (.c (.str)) (some v) fun r => K r h'

/-- errors.New -/
def C83 (x0 : ByteArray) (h : Hp) (K : Value → Hp → Prop) : Prop :=
  HCalls Tryd.prog 83 ⟨[.string x0]⟩ h fun v h' => VT.on (.c (.any)) (some v) fun r => K r h'

/-- internal/strconv.small -/
def C84 (x0 : Int) (h : Hp) (K : ByteArray → Hp → Prop) : Prop :=
  HCalls Tryd.prog 84 ⟨[.int .i64 x0]⟩ h fun v h' => VT.on (.c (.str)) (some v) fun r => K r h'

/-- internal/strconv.numDigits -/
def C85 (x0 : Int) (h : Hp) (K : Int → Hp → Prop) : Prop :=
  HCalls Tryd.prog 85 ⟨[.int .u64 x0]⟩ h fun v h' => VT.on (.c (.int .i64)) (some v) fun r => K r h'

/-- internal/strconv.formatBase10 -/
def C86 (x0 : Sl) (x1 : Int) (h : Hp) (K : Hp → Prop) : Prop :=
  HCalls Tryd.prog 86 ⟨[.slice x0.p x0.n x0.c, .int .u64 x1]⟩ h fun _ h' => K h'

/-- internal/strconv.formatBits -/
def C87 (x0 : Sl) (x1 : Int) (x2 : Int) (x3 : Bool) (x4 : Bool) (h : Hp) (K : Sl → ByteArray → Hp → Prop) : Prop :=
  HCalls Tryd.prog 87 ⟨[.slice x0.p x0.n x0.c, .int .u64 x1, .int .i64 x2, .bool x3, .bool x4]⟩ h fun v h' => tupOn [.c (.slice), .c (.str)] v fun r => K r.1 r.2 h'

/-- unicode/utf8.decodeRuneInStringSlow -/
def C90 (x0 : ByteArray) (h : Hp) (K : Int → Int → Hp → Prop) : Prop :=
  HCalls Tryd.prog 90 ⟨[.string x0]⟩ h fun v h' => tupOn [.c (.int .i32), .c (.int .i64)] v fun r => K r.1 r.2 h'

/-- internal/bytealg.Cutover -/
def C92 (x0 : Int) (h : Hp) (K : Int → Hp → Prop) : Prop :=
  HCalls Tryd.prog 92 ⟨[.int .i64 x0]⟩ h fun v h' => VT.on (.c (.int .i64)) (some v) fun r => K r h'

/-- internal/bytealg.IndexRabinKarp[string] -/
def C93 (x0 : ByteArray) (x1 : ByteArray) (h : Hp) (K : Int → Hp → Prop) : Prop :=
  HCalls Tryd.prog 93 ⟨[.string x0, .string x1]⟩ h fun v h' => VT.on (.c (.int .i64)) (some v) fun r => K r h'

/-- internal/strconv.log10Pow2 -/
def C94 (x0 : Int) (h : Hp) (K : Int → Hp → Prop) : Prop :=
  HCalls Tryd.prog 94 ⟨[.int .i64 x0]⟩ h fun v h' => VT.on (.c (.int .i64)) (some v) fun r => K r h'

/-- math/bits.Len64 -/
def C95 (x0 : Int) (h : Hp) (K : Int → Hp → Prop) : Prop :=
  HCalls Tryd.prog 95 ⟨[.int .u64 x0]⟩ h fun v h' => VT.on (.c (.int .i64)) (some v) fun r => K r h'

/-- internal/strconv.bool2[int] -/
def C96 (x0 : Bool) (h : Hp) (K : Int → Hp → Prop) : Prop :=
  HCalls Tryd.prog 96 ⟨[.bool x0]⟩ h fun v h' => VT.on (.c (.int .i64)) (some v) fun r => K r h'

/-- internal/strconv.isPowerOfTwo -/
def C97 (x0 : Int) (h : Hp) (K : Bool → Hp → Prop) : Prop :=
  HCalls Tryd.prog 97 ⟨[.int .i64 x0]⟩ h fun v h' => VT.on (.c (.bool)) (some v) fun r => K r h'

/-- math/bits.TrailingZeros -/
def C98 (x0 : Int) (h : Hp) (K : Int → Hp → Prop) : Prop :=
  HCalls Tryd.prog 98 ⟨[.int .u64 x0]⟩ h fun v h' => VT.on (.c (.int .i64)) (some v) fun r => K r h'

/-- internal/bytealg.hashStr[string] -/
def C99 (x0 : ByteArray) (h : Hp) (K : Int → Int → Hp → Prop) : Prop :=
  HCalls Tryd.prog 99 ⟨[.string x0]⟩ h fun v h' => tupOn [.c (.int .u32), .c (.int .u32)] v fun r => K r.1 r.2 h'

/-- math/bits.TrailingZeros32 -/
def C100 (x0 : Int) (h : Hp) (K : Int → Hp → Prop) : Prop :=
  HCalls Tryd.prog 100 ⟨[.int .u32 x0]⟩ h fun v h' => VT.on (.c (.int .i64)) (some v) fun r => K r h'

/-- math/bits.TrailingZeros64 -/
def C101 (x0 : Int) (h : Hp) (K : Int → Hp → Prop) : Prop :=
  HCalls Tryd.prog 101 ⟨[.int .u64 x0]⟩ h fun v h' => VT.on (.c (.int .i64)) (some v) fun r => K r h'

/-- gosem.cut.vars -/
def C131  (h : Hp) (K : Hp → Prop) : Prop :=
  HCalls Tryd.prog 131 ⟨[]⟩ h fun _ h' => K h'

end Go.Proofs.YtlioifgejijcoaaDoor

set_option linter.unusedVariables false
set_option maxRecDepth 100000
namespace Go.Proofs.YtlioifgejijcoaaDoor
open Go Go.Hw
/-! ### 46 slipway/octet.folded -/
noncomputable def B46 : Code := match Tryd.f46.body with | some c => c | none => .skip
def N46_l0_b  (Φ : Int → Hp → Prop) (x0_u : Int) (h : Hp) (K_e0 : Int → Hp → Prop) : Prop :=
  bif (decide (x0_u > 65535)) then
    Φ (IntKind.wrap .u64 ((IntKind.wrap .u64 (BitVec.ofInt 64 x0_u &&& BitVec.ofInt 64 65535).toNat) + (Int.fdiv x0_u (2 ^ 16)))) h
  else
    K_e0 x0_u h
def N46_l0_B  (K_e0 : Int → Hp → Prop) (s : Sg.T [(0, .c (.int .u64))]) (h : Hp) (Φ : Sg.T [(0, .c (.int .u64))] → Hp → Prop) : Prop :=
  N46_l0_b  (fun x0_u h => Φ x0_u h) s h K_e0
def N46_l0  (x0_u : Int) (h : Hp) (K_e0 : Int → Hp → Prop) : Prop :=
  loopP (N46_l0_B  K_e0) x0_u h
noncomputable def N46_l0_t : Xf := loopT [] [(0, .c (.int .u64))] (codeAt B46 [1, 0, 0, 0]) fun F Q => N46_l0_B  (fun o0 h' => Q (.exit 0) (Sg.env [(0, .c (.int .u64))] o0) h')
theorem N46_l0_ok : Sound Tryd.prog Tryd.f46.ntmps N46_l0_t (codeAt B46 [1, 0, 0]) := by
  refine loop_sound (fun e => match e with | .exit 0 => [0] | _ => []) (by kernel_rfl) ?_
  intro F Q s h Φ hb
  refine den_sound hE hm _ .leaf _ _ _ (annOk_leaf) ?_
  refine cast ?_ hb
  kernel_rfl
def N46 (x0 : Int) (h : Hp) (K : Int → Hp → Prop) : Prop :=
  N46_l0 x0 h
    (fun n0 h0 =>
      K (IntKind.wrap .u16 n0) h0)
theorem S46 {x0 : Int} {h : Hp} {K : Int → Hp → Prop} (hn : N46 x0 h K) : C46 x0 h K := by
  refine calls_of_D Tryd.func46 (c := B46) rfl (by kernel_rfl) ?_
  refine den_sound hE hm _ (.two .leaf (.two (.one (.xf N46_l0_t)) .leaf)) _ _ _ (⟨annOk_leaf, ⟨N46_l0_ok, annOk_leaf⟩⟩) ?_
  refine cast ?_ hn
  kernel_rfl
end Go.Proofs.YtlioifgejijcoaaDoor

set_option linter.unusedVariables false
set_option maxRecDepth 100000
namespace Go.Proofs.YtlioifgejijcoaaDoor
open Go Go.Hw
/-! ### 47 slipway/slipwayref01.Folded -/
noncomputable def B47 : Code := match Tryd.f47.body with | some c => c | none => .skip
def N47_l0_b  (Φ : Int → Hp → Prop) (x0_u : Int) (h : Hp) (K_e0 : Int → Hp → Prop) : Prop :=
  bif (decide (x0_u > 65535)) then
    Φ (IntKind.wrap .u64 ((Int.tmod x0_u 65536) + (IntKind.wrap .u64 (Int.tdiv x0_u 65536)))) h
  else
    K_e0 x0_u h
def N47_l0_B  (K_e0 : Int → Hp → Prop) (s : Sg.T [(0, .c (.int .u64))]) (h : Hp) (Φ : Sg.T [(0, .c (.int .u64))] → Hp → Prop) : Prop :=
  N47_l0_b  (fun x0_u h => Φ x0_u h) s h K_e0
def N47_l0  (x0_u : Int) (h : Hp) (K_e0 : Int → Hp → Prop) : Prop :=
  loopP (N47_l0_B  K_e0) x0_u h
noncomputable def N47_l0_t : Xf := loopT [] [(0, .c (.int .u64))] (codeAt B47 [1, 0, 0, 0]) fun F Q => N47_l0_B  (fun o0 h' => Q (.exit 0) (Sg.env [(0, .c (.int .u64))] o0) h')
theorem N47_l0_ok : Sound Tryd.prog Tryd.f47.ntmps N47_l0_t (codeAt B47 [1, 0, 0]) := by
  refine loop_sound (fun e => match e with | .exit 0 => [0] | _ => []) (by kernel_rfl) ?_
  intro F Q s h Φ hb
  refine den_sound hE hm _ .leaf _ _ _ (annOk_leaf) ?_
  refine cast ?_ hb
  kernel_rfl
def N47 (x0 : Int) (h : Hp) (K : Int → Hp → Prop) : Prop :=
  N47_l0 x0 h
    (fun n0 h0 =>
      K n0 h0)
theorem S47 {x0 : Int} {h : Hp} {K : Int → Hp → Prop} (hn : N47 x0 h K) : C47 x0 h K := by
  refine calls_of_D Tryd.func47 (c := B47) rfl (by kernel_rfl) ?_
  refine den_sound hE hm _ (.two .leaf (.two (.one (.xf N47_l0_t)) .leaf)) _ _ _ (⟨annOk_leaf, ⟨N47_l0_ok, annOk_leaf⟩⟩) ?_
  refine cast ?_ hn
  kernel_rfl
end Go.Proofs.YtlioifgejijcoaaDoor

set_option linter.unusedVariables false
set_option maxRecDepth 100000
namespace Go.Proofs.YtlioifgejijcoaaDoor
open Go Go.Hw
/-! ### 43 slipway/octet.Turn -/
noncomputable def B43 : Code := match Tryd.f43.body with | some c => c | none => .skip
def N43 (x0 : Int) (x1 : Int) (x2 : Int) (h : Hp) (K : Int → Hp → Prop) : Prop :=
  C46 (IntKind.wrap .u64 ((IntKind.wrap .u64 ((IntKind.wrap .u64 (IntKind.wrap .u16 (BitVec.ofInt 16 65535 ^^^ BitVec.ofInt 16 x0).toNat)) + (IntKind.wrap .u64 (IntKind.wrap .u16 (BitVec.ofInt 16 65535 ^^^ BitVec.ofInt 16 x1).toNat)))) + (IntKind.wrap .u64 x2))) h fun n0 h0 =>
  K (IntKind.wrap .u16 (BitVec.ofInt 16 65535 ^^^ BitVec.ofInt 16 n0).toNat) h0
theorem S43 {x0 : Int} {x1 : Int} {x2 : Int} {h : Hp} {K : Int → Hp → Prop} (hn : N43 x0 x1 x2 h K) : C43 x0 x1 x2 h K := by
  refine calls_of_D Tryd.func43 (c := B43) rfl (by kernel_rfl) ?_
  refine den_sound hE hm _ .leaf _ _ _ (annOk_leaf) ?_
  refine cast ?_ hn
  kernel_rfl
end Go.Proofs.YtlioifgejijcoaaDoor

set_option linter.unusedVariables false
set_option maxRecDepth 100000
namespace Go.Proofs.YtlioifgejijcoaaDoor
open Go Go.Hw
/-! ### 44 slipway/slipwayref01.Turn -/
noncomputable def B44 : Code := match Tryd.f44.body with | some c => c | none => .skip
def N44 (x0 : Int) (x1 : Int) (x2 : Int) (h : Hp) (K : Int → Hp → Prop) : Prop :=
  C47 (IntKind.wrap .u64 ((IntKind.wrap .u64 ((IntKind.wrap .u64 ((IntKind.wrap .u64 (65535 - (IntKind.wrap .u64 x0))) + 65535)) - (IntKind.wrap .u64 x1))) + (IntKind.wrap .u64 x2))) h fun n0 h0 =>
  K (IntKind.wrap .u16 (IntKind.wrap .u64 (65535 - n0))) h0
theorem S44 {x0 : Int} {x1 : Int} {x2 : Int} {h : Hp} {K : Int → Hp → Prop} (hn : N44 x0 x1 x2 h K) : C44 x0 x1 x2 h K := by
  refine calls_of_D Tryd.func44 (c := B44) rfl (by kernel_rfl) ?_
  refine den_sound hE hm _ .leaf _ _ _ (annOk_leaf) ?_
  refine cast ?_ hn
  kernel_rfl
end Go.Proofs.YtlioifgejijcoaaDoor

set_option linter.unusedVariables false
set_option maxRecDepth 100000
namespace Go.Proofs.YtlioifgejijcoaaDoor
open Go Go.Hw
/-! ### 40 slipway/octet.IsHost -/
noncomputable def B40 : Code := match Tryd.f40.body with | some c => c | none => .skip
def N40 (x0 : Int) (h : Hp) (K : Bool → Hp → Prop) : Prop :=
  bif (decide ((Int.fdiv x0 (2 ^ 24)) > 0)) then
    bif (decide ((Int.fdiv x0 (2 ^ 24)) < 224)) then
      K ((Int.fdiv x0 (2 ^ 24)) != 127) h
    else
      K false h
  else
    K false h
theorem S40 {x0 : Int} {h : Hp} {K : Bool → Hp → Prop} (hn : N40 x0 h K) : C40 x0 h K := by
  refine calls_of_D Tryd.func40 (c := B40) rfl (by kernel_rfl) ?_
  refine den_sound hE hm _ .leaf _ _ _ (annOk_leaf) ?_
  refine cast ?_ hn
  kernel_rfl
end Go.Proofs.YtlioifgejijcoaaDoor

set_option linter.unusedVariables false
set_option maxRecDepth 100000
namespace Go.Proofs.YtlioifgejijcoaaDoor
open Go Go.Hw
/-! ### 41 slipway/slipwayref01.IsHost -/
noncomputable def B41 : Code := match Tryd.f41.body with | some c => c | none => .skip
def N41 (x0 : Int) (h : Hp) (K : Bool → Hp → Prop) : Prop :=
  bif (decide ((IntKind.wrap .u32 (Int.tdiv x0 16777216)) ≥ 1)) then
    bif (decide ((IntKind.wrap .u32 (Int.tdiv x0 16777216)) ≤ 223)) then
      K ((IntKind.wrap .u32 (Int.tdiv x0 16777216)) != 127) h
    else
      K false h
  else
    K false h
theorem S41 {x0 : Int} {h : Hp} {K : Bool → Hp → Prop} (hn : N41 x0 h K) : C41 x0 h K := by
  refine calls_of_D Tryd.func41 (c := B41) rfl (by kernel_rfl) ?_
  refine den_sound hE hm _ .leaf _ _ _ (annOk_leaf) ?_
  refine cast ?_ hn
  kernel_rfl
end Go.Proofs.YtlioifgejijcoaaDoor

set_option linter.unusedVariables false
set_option maxRecDepth 100000
namespace Go.Proofs.YtlioifgejijcoaaDoor
open Go Go.Hw
/-! ### 36 slipway/octet.Group -/
noncomputable def B36 : Code := match Tryd.f36.body with | some c => c | none => .skip
def N36 (x0_0 : Int) (x0_1 : Int) (x0_2 : Int) (x0_3 : Int) (x0_4 : Int) (x0_5 : Int) (h : Hp) (K : Bool → Hp → Prop) : Prop :=
  nw h (.cells ⟨[.int .u8 x0_0, .int .u8 x0_1, .int .u8 x0_2, .int .u8 x0_3, .int .u8 x0_4, .int .u8 x0_5]⟩ 49) fun b0 h0 =>
  xI .u8 (cell h0 (bk b0)) fun n0 =>
  K ((IntKind.wrap .u8 (BitVec.ofInt 8 n0 &&& BitVec.ofInt 8 1).toNat) == 1) h0
theorem S36 {x0_0 : Int} {x0_1 : Int} {x0_2 : Int} {x0_3 : Int} {x0_4 : Int} {x0_5 : Int} {h : Hp} {K : Bool → Hp → Prop} (hn : N36 x0_0 x0_1 x0_2 x0_3 x0_4 x0_5 h K) : C36 x0_0 x0_1 x0_2 x0_3 x0_4 x0_5 h K := by
  refine calls_of_D Tryd.func36 (c := B36) rfl (by kernel_rfl) ?_
  refine den_sound hE hm _ .leaf _ _ _ (annOk_leaf) ?_
  refine cast ?_ hn
  kernel_rfl
end Go.Proofs.YtlioifgejijcoaaDoor

set_option linter.unusedVariables false
set_option maxRecDepth 100000
namespace Go.Proofs.YtlioifgejijcoaaDoor
open Go Go.Hw
/-! ### 42 slipway/slipwayref01.Group -/
noncomputable def B42 : Code := match Tryd.f42.body with | some c => c | none => .skip
def N42 (x0_0 : Int) (x0_1 : Int) (x0_2 : Int) (x0_3 : Int) (x0_4 : Int) (x0_5 : Int) (h : Hp) (K : Bool → Hp → Prop) : Prop :=
  nw h (.cells ⟨[.int .u8 x0_0, .int .u8 x0_1, .int .u8 x0_2, .int .u8 x0_3, .int .u8 x0_4, .int .u8 x0_5]⟩ 49) fun b0 h0 =>
  xI .u8 (cell h0 (bk b0)) fun n0 =>
  K ((Int.tmod n0 2) == 1) h0
theorem S42 {x0_0 : Int} {x0_1 : Int} {x0_2 : Int} {x0_3 : Int} {x0_4 : Int} {x0_5 : Int} {h : Hp} {K : Bool → Hp → Prop} (hn : N42 x0_0 x0_1 x0_2 x0_3 x0_4 x0_5 h K) : C42 x0_0 x0_1 x0_2 x0_3 x0_4 x0_5 h K := by
  refine calls_of_D Tryd.func42 (c := B42) rfl (by kernel_rfl) ?_
  refine den_sound hE hm _ .leaf _ _ _ (annOk_leaf) ?_
  refine cast ?_ hn
  kernel_rfl
end Go.Proofs.YtlioifgejijcoaaDoor

set_option linter.unusedVariables false
set_option maxRecDepth 100000
namespace Go.Proofs.YtlioifgejijcoaaDoor
open Go Go.Hw
/-! ### 35 slipway/octet.Everyone -/
noncomputable def B35 : Code := match Tryd.f35.body with | some c => c | none => .skip
def N35  (h : Hp) (K : Int → Int → Int → Int → Int → Int → Hp → Prop) : Prop :=
  nw h (.cells ⟨[.int .u8 0, .int .u8 0, .int .u8 0, .int .u8 0, .int .u8 0, .int .u8 0]⟩ 49) fun b0 h0 =>
  st h0 (bk b0) (.int .u8 255) fun h1 =>
  st h1 ((bk b0).add 1) (.int .u8 255) fun h2 =>
  st h2 ((bk b0).add 2) (.int .u8 255) fun h3 =>
  st h3 ((bk b0).add 3) (.int .u8 255) fun h4 =>
  st h4 ((bk b0).add 4) (.int .u8 255) fun h5 =>
  st h5 ((bk b0).add 5) (.int .u8 255) fun h6 =>
  xI .u8 (cell h6 (bk b0)) fun n0 =>
  xI .u8 (cell h6 ((bk b0).add 1)) fun n1 =>
  xI .u8 (cell h6 ((bk b0).add 2)) fun n2 =>
  xI .u8 (cell h6 ((bk b0).add 3)) fun n3 =>
  xI .u8 (cell h6 ((bk b0).add 4)) fun n4 =>
  xI .u8 (cell h6 ((bk b0).add 5)) fun n5 =>
  K n0 n1 n2 n3 n4 n5 h6
theorem S35 {h : Hp} {K : Int → Int → Int → Int → Int → Int → Hp → Prop} (hn : N35 h K) : C35 h K := by
  refine calls_of_M Tryd.func35 (c := B35) rfl (by kernel_rfl) ?_
  refine den_sound hE hm _ .leaf _ _ _ (annOk_leaf) ?_
  refine cast ?_ hn
  kernel_rfl
end Go.Proofs.YtlioifgejijcoaaDoor

set_option linter.unusedVariables false
set_option maxRecDepth 100000
namespace Go.Proofs.YtlioifgejijcoaaDoor
open Go Go.Hw
/-! ### 45 slipway/slipwayref01.mark -/
noncomputable def B45 : Code := match Tryd.f45.body with | some c => c | none => .skip
def N45 (x0 : Int) (x1 : Int) (h : Hp) (K : Int → Hp → Prop) : Prop :=
  K (IntKind.wrap .u8 (IntKind.wrap .i64 ((IntKind.wrap .i64 ((IntKind.wrap .i64 ((IntKind.wrap .i64 (x0 * 7)) + (IntKind.wrap .i64 (x1 * 13)))) + (IntKind.wrap .i64 (Int.tdiv x0 256)))) + 1))) h
theorem S45 {x0 : Int} {x1 : Int} {h : Hp} {K : Int → Hp → Prop} (hn : N45 x0 x1 h K) : C45 x0 x1 h K := by
  refine calls_of_D Tryd.func45 (c := B45) rfl (by kernel_rfl) ?_
  refine den_sound hE hm _ .leaf _ _ _ (annOk_leaf) ?_
  refine cast ?_ hn
  kernel_rfl
end Go.Proofs.YtlioifgejijcoaaDoor

/-
  Numbers of Go: what wraps, what bits do, in Lean's numbers.
-/
set_option linter.unusedSimpArgs false
set_option linter.unusedVariables false
namespace Go.Hw
open Go

theorem wu8 (x : Int) : IntKind.wrap .u8 x = x % 256 := by unfold IntKind.wrap; rfl
theorem wu16 (x : Int) : IntKind.wrap .u16 x = x % 65536 := by unfold IntKind.wrap; rfl
theorem wu32 (x : Int) : IntKind.wrap .u32 x = x % 4294967296 := by unfold IntKind.wrap; rfl
theorem wu64 (x : Int) : IntKind.wrap .u64 x = x % 18446744073709551616 := by unfold IntKind.wrap; rfl
theorem wu8i {x : Int} (h0 : 0 ≤ x) (h1 : x < 256) : IntKind.wrap .u8 x = x := by rw [wu8]; omega
theorem wu16i {x : Int} (h0 : 0 ≤ x) (h1 : x < 65536) : IntKind.wrap .u16 x = x := by rw [wu16]; omega
theorem wu32i {x : Int} (h0 : 0 ≤ x) (h1 : x < 4294967296) : IntKind.wrap .u32 x = x := by rw [wu32]; omega
theorem wu64i {x : Int} (h0 : 0 ≤ x) (h1 : x < 18446744073709551616) : IntKind.wrap .u64 x = x := by rw [wu64]; omega
theorem wi64i {x : Int} (h0 : -9223372036854775808 ≤ x) (h1 : x < 9223372036854775808) : IntKind.wrap .i64 x = x := wrap_id h0 (by omega)

theorem bvn (w : Nat) (n : Nat) (h : n < 2 ^ w) : (BitVec.ofInt w (n : Int)).toNat = n := by
  rw [BitVec.toNat_ofInt]
  have h2 : ((n : Int)) % ((2 ^ w : Nat) : Int) = n := Int.emod_eq_of_lt (by omega) (by exact_mod_cast h)
  simp only [h2]; simp
/-- and with ones below k -/
theorem band_low {w : Nat} {x : Int} (k : Nat) (h0 : 0 ≤ x) (h1 : x < 2 ^ w) (hk : k ≤ w) : ((BitVec.ofInt w x &&& BitVec.ofInt w (2 ^ k - 1)).toNat : Int) = x % 2 ^ k := by
  obtain ⟨n, rfl⟩ := Int.eq_ofNat_of_zero_le h0
  have hn : n < 2 ^ w := by exact_mod_cast h1
  have hm : (2 ^ k - 1 : Int) = ((2 ^ k - 1 : Nat) : Int) := by
    have : 1 ≤ 2 ^ k := Nat.one_le_two_pow
    rw [Int.natCast_sub this]; push_cast; rfl
  have hm2 : 2 ^ k - 1 < 2 ^ w := by
    have : 2 ^ k ≤ 2 ^ w := Nat.pow_le_pow_right (by omega) hk
    have : 1 ≤ 2 ^ k := Nat.one_le_two_pow
    omega
  rw [hm, BitVec.toNat_and, bvn w n hn, bvn w _ hm2, Nat.and_two_pow_sub_one_eq_mod]
  push_cast; rfl
/-- or with what is below -/
theorem bor_low {w : Nat} {x y : Int} (k : Nat) (hx0 : 0 ≤ x) (hx : x * 2 ^ k < 2 ^ w) (hy0 : 0 ≤ y) (hy : y < 2 ^ k) (hk : k ≤ w) : ((BitVec.ofInt w (x * 2 ^ k) ||| BitVec.ofInt w y).toNat : Int) = x * 2 ^ k + y := by
  obtain ⟨a, rfl⟩ := Int.eq_ofNat_of_zero_le hx0
  obtain ⟨b, rfl⟩ := Int.eq_ofNat_of_zero_le hy0
  have ha : a * 2 ^ k < 2 ^ w := by exact_mod_cast hx
  have hb : b < 2 ^ k := by exact_mod_cast hy
  have hb2 : b < 2 ^ w := Nat.lt_of_lt_of_le hb (Nat.pow_le_pow_right (by omega) hk)
  have e : ((a : Int) * 2 ^ k) = ((a * 2 ^ k : Nat) : Int) := by push_cast; rfl
  rw [e, BitVec.toNat_or, bvn w _ ha, bvn w b hb2]
  rw [← Nat.shiftLeft_eq, ← Nat.shiftLeft_add_eq_or_of_lt hb, Nat.shiftLeft_eq]
  push_cast; rfl
/-- xor with all ones -/
theorem bxor_all {w : Nat} {x : Int} (h0 : 0 ≤ x) (h1 : x < 2 ^ w) : ((BitVec.ofInt w (2 ^ w - 1) ^^^ BitVec.ofInt w x).toNat : Int) = 2 ^ w - 1 - x := by
  obtain ⟨n, rfl⟩ := Int.eq_ofNat_of_zero_le h0
  have hn : n < 2 ^ w := by exact_mod_cast h1
  have e1 : BitVec.ofInt w (2 ^ w - 1) = BitVec.allOnes w := by
    apply BitVec.eq_of_toNat_eq
    have h1 : 1 ≤ 2 ^ w := Nat.one_le_two_pow
    have hm : (2 ^ w - 1 : Int) = ((2 ^ w - 1 : Nat) : Int) := by rw [Int.natCast_sub h1]; push_cast; rfl
    rw [hm, bvn w _ (by omega), BitVec.toNat_allOnes]
  rw [e1, BitVec.allOnes_xor, BitVec.toNat_not, bvn w n hn]
  have h1 : 1 ≤ 2 ^ w := Nat.one_le_two_pow
  have : n ≤ 2 ^ w - 1 := by omega
  rw [Int.natCast_sub this, Int.natCast_sub h1]
  push_cast; rfl
theorem not16 {x : Int} (h0 : 0 ≤ x) (h1 : x < 65536) : IntKind.wrap .u16 (BitVec.ofInt 16 65535 ^^^ BitVec.ofInt 16 x).toNat = 65535 - x := by
  have := bxor_all (w := 16) h0 h1
  rw [show ((2 : Int) ^ 16 - 1) = 65535 from rfl] at this
  rw [this, wu16]; omega
theorem not32 {x : Int} (h0 : 0 ≤ x) (h1 : x < 4294967296) : IntKind.wrap .u32 (BitVec.ofInt 32 4294967295 ^^^ BitVec.ofInt 32 x).toNat = 4294967295 - x := by
  have := bxor_all (w := 32) h0 h1
  rw [show ((2 : Int) ^ 32 - 1) = 4294967295 from rfl] at this
  rw [this, wu32]; omega
theorem u8r (b : UInt8) : 0 ≤ (b.toNat : Int) ∧ (b.toNat : Int) < 256 := by have := b.toNat_lt; omega
/-- a loop over places 0 .. n -/
theorem nat_succ64 {i : Nat} (h : i < 9223372036854775807) : IntKind.wrap .i64 ((i : Int) + 1) = ((i + 1 : Nat) : Int) := by rw [wi64i (by omega) (by omega)]; omega

end Go.Hw

/-
  What stands in separate blocks: a list of assertions, each with blocks of its own.
-/
set_option linter.unusedSimpArgs false
set_option linter.unusedVariables false
namespace Go.Hw
open Go

structure Asn where
  on : (Nat → Prop) → Hp → Prop
  loc : ∀ {F : Nat → Prop} {h h' : Hp}, (∀ x, F x → h' x = h x) → on F h → on F h'
  dom : ∀ {F : Nat → Prop} {h : Hp} {x : Nat}, on F h → F x → h x ≠ none

def Sat (L : List Asn) (h : Hp) : Prop :=
  ∃ F : Nat → Nat → Prop, (∀ (i : Nat) (A : Asn), L[i]? = some A → A.on (F i) h) ∧ ∀ i j x, i < L.length → j < L.length → F i x → F j x → i = j

theorem Sat.nil {h : Hp} : Sat [] h := ⟨fun _ _ => False, by simp, by simp⟩
theorem Sat.get {L : List Asn} {h : Hp} (hs : Sat L h) {i : Nat} {A : Asn} (hi : L[i]? = some A) : ∃ F, A.on F h := let ⟨F, h1, _⟩ := hs; ⟨F i, h1 i A hi⟩
theorem lt_of_get {α : Type} {l : List α} {i : Nat} {x : α} (h : l[i]? = some x) : i < l.length := (List.getElem?_eq_some_iff.1 h).1
theorem get_of_lt {α : Type} {l : List α} {i : Nat} (h : i < l.length) : ∃ x, l[i]? = some x := ⟨l[i], List.getElem?_eq_getElem h⟩

/-- one of them changes -/
theorem Sat.step {L : List Asn} {h h' : Hp} {i : Nat} {A A' : Asn} (hs : Sat L h) (hi : L[i]? = some A)
    (hst : ∀ F, A.on F h → ∃ F', A'.on F' h' ∧ (∀ x, F' x → F x ∨ h x = none) ∧ ∀ x, ¬ F x → h x ≠ none → h' x = h x) : Sat (L.set i A') h' := by
  obtain ⟨F, h1, h2⟩ := hs
  obtain ⟨F', g1, g2, g3⟩ := hst _ (h1 i A hi)
  have hil := lt_of_get hi
  have dm : ∀ j x, j < L.length → F j x → h x ≠ none := fun j x hj hx => let ⟨B, hB⟩ := get_of_lt hj; B.dom (h1 j B hB) hx
  refine ⟨fun j => if j = i then F' else F j, ?_, ?_⟩
  · intro j B hj
    by_cases e : j = i
    · subst e
      rw [List.getElem?_set_self hil] at hj
      cases hj; simpa using g1
    · rw [List.getElem?_set_ne (fun q => e q.symm)] at hj
      simp only [if_neg e]
      refine B.loc ?_ (h1 j B hj)
      intro x hx
      refine g3 x (fun hq => e (h2 j i x (lt_of_get hj) hil hx hq)) (dm j x (lt_of_get hj) hx)
  · intro j k x hj hk hx hy
    rw [List.length_set] at hj hk
    by_cases e : j = i
    · subst e
      simp only [if_true] at hx
      by_cases e2 : k = j
      · exact e2.symm
      · simp only [if_neg e2] at hy
        rcases g2 x hx with q | q
        · exact h2 j k x hj hk q hy
        · exact (dm k x hk hy q).elim
    · simp only [if_neg e] at hx
      by_cases e2 : k = i
      · subst e2
        simp only [if_true] at hy
        rcases g2 x hy with q | q
        · exact h2 j k x hj hk hx q
        · exact (dm j x hj hx q).elim
      · simp only [if_neg e2] at hy
        exact h2 j k x hj hk hx hy

/-- all stay where only new blocks come -/
theorem Sat.ext {L : List Asn} {h h' : Hp} (hs : Sat L h) (he : Ext none' h h') : Sat L h' := by
  obtain ⟨F, h1, h2⟩ := hs
  refine ⟨F, fun i A hi => ?_, h2⟩
  refine A.loc (fun x hx => ?_) (h1 i A hi)
  cases hq : h x with
  | none => exact (A.dom (h1 i A hi) hx hq).elim
  | some o => exact he x o hq (fun e => e)

/-- a new one -/
theorem Sat.more {L : List Asn} {h h' : Hp} {A : Asn} {F' : Nat → Prop} (hs : Sat L h) (he : Ext none' h h') (ha : A.on F' h') (hf : ∀ x, F' x → h x = none) : Sat (L ++ [A]) h' := by
  have hs' := hs.ext he
  obtain ⟨F, h1, h2⟩ := hs
  have dm : ∀ j x, j < L.length → F j x → h x ≠ none := fun j x hj hx => let ⟨B, hB⟩ := get_of_lt hj; B.dom (h1 j B hB) hx
  refine ⟨fun j => if j = L.length then F' else F j, ?_, ?_⟩
  · intro j B hj
    by_cases e : j = L.length
    · subst e
      simp at hj; subst hj; simpa using ha
    · have hlt : j < L.length := by have := lt_of_get hj; simp at this; omega
      rw [List.getElem?_append_left hlt] at hj
      simp only [if_neg e]
      refine B.loc (fun x hx => ?_) (h1 j B hj)
      cases hq : h x with
      | none => exact (dm j x hlt hx hq).elim
      | some o => exact he x o hq (fun e => e)
  · intro j k x hj hk hx hy
    simp at hj hk
    by_cases e : j = L.length
    · simp only [e, if_true] at hx
      by_cases e2 : k = L.length
      · omega
      · simp only [if_neg e2] at hy; exact (dm k x (by omega) hy (hf x hx)).elim
    · simp only [if_neg e] at hx
      by_cases e2 : k = L.length
      · simp only [e2, if_true] at hy; exact (dm j x (by omega) hx (hf x hy)).elim
      · simp only [if_neg e2] at hy; exact h2 j k x (by omega) (by omega) hx hy

/-- fewer, in another order -/
theorem Sat.pick {L M : List Asn} {h : Hp} (hs : Sat L h) (f : Nat → Nat) (hf : ∀ (i : Nat) (A : Asn), M[i]? = some A → L[f i]? = some A) (hi : ∀ i j, i < M.length → j < M.length → f i = f j → i = j) : Sat M h := by
  obtain ⟨F, h1, h2⟩ := hs
  refine ⟨fun i => F (f i), fun i A hA => h1 _ A (hf i A hA), fun i j x hil hjl hx hy => ?_⟩
  obtain ⟨A, hA⟩ := get_of_lt hil
  obtain ⟨B, hB⟩ := get_of_lt hjl
  exact hi i j hil hjl (h2 _ _ x (lt_of_get (hf i A hA)) (lt_of_get (hf j B hB)) hx hy)
theorem Sat.left {L M : List Asn} {h : Hp} (hs : Sat (L ++ M) h) : Sat L h :=
  hs.pick (fun i => i) (fun i A hA => by rw [List.getElem?_append_left (lt_of_get hA)]; exact hA) (fun _ _ _ _ e => e)

/-- nothing -/
def emp : Asn := ⟨fun F _ => ∀ x, ¬ F x, fun _ h => h, fun h hx => (h _ hx).elim⟩
/-- a heap that stays -/
def was (h0 : Hp) : Asn := ⟨fun F h => ∀ x, (F x ↔ h0 x ≠ none) ∧ (F x → h x = h0 x), fun hl h x => ⟨(h x).1, fun hx => (hl x hx).trans ((h x).2 hx)⟩, fun {F h x} hh hx => by rw [(hh x).2 hx]; exact ((hh x).1).1 hx⟩
/-- a block with an object -/
def pt (b : Nat) (o : Obj) : Asn := ⟨fun F h => (∀ x, F x ↔ x = b) ∧ h b = some o, fun hl h => ⟨h.1, (hl b ((h.1 b).2 rfl)).trans h.2⟩, fun {F h x} hh hx => by rw [(hh.1 x).1 hx, hh.2]; simp⟩
/-- a row of cells -/
def row (b : Nat) (T : TypeId) (cs : List Value) : Asn := pt b (.cells ⟨cs⟩ T (0, 0))
/-- a slice that owns its row -/
def own (T : TypeId) (sz : Nat) (s : Sl) (vs : List Value) : Asn :=
  ⟨fun F h => (∀ x, F x ↔ s.p = some (bk x)) ∧ Own h T sz s vs,
   fun {F h h'} hl hh => ⟨hh.1, by
    obtain ⟨h1, h2, h3⟩ := hh.2
    refine ⟨h1, h2, ?_⟩
    cases hp : s.p with
    | none => rw [hp] at h3; exact h3
    | some a =>
      rw [hp] at h3
      obtain ⟨e, cs, hb, hr⟩ := h3
      exact ⟨e, cs, (hl a.block ((hh.1 _).2 (by rw [hp, e]))).trans hb, hr⟩⟩,
   fun {F h x} hh hx => by
    have hp := (hh.1 x).1 hx
    have h3 := hh.2.2.2
    rw [hp] at h3
    obtain ⟨_, cs, hb, _⟩ := h3
    rw [show h x = _ from hb]; simp⟩
/-- what is true -/
def pur (p : Prop) : Asn := ⟨fun F _ => (∀ x, ¬ F x) ∧ p, fun _ h => h, fun h hx => (h.1 _ hx).elim⟩
/-- some of a kind -/
def exs {α : Type} (A : α → Asn) : Asn := ⟨fun F h => ∃ a, (A a).on F h, fun hl ⟨a, h⟩ => ⟨a, (A a).loc hl h⟩, fun ⟨a, h⟩ hx => (A a).dom h hx⟩
/-- all of a list, apart -/
def star (M : List Asn) : Asn :=
  ⟨fun F h => ∃ G : Nat → Nat → Prop, (∀ (i : Nat) (A : Asn), M[i]? = some A → A.on (G i) h) ∧ (∀ i j x, i < M.length → j < M.length → G i x → G j x → i = j) ∧ ∀ x, F x ↔ ∃ i, i < M.length ∧ G i x,
   fun hl ⟨G, h1, h2, h3⟩ => ⟨G, fun i A hi => A.loc (fun x hx => hl x ((h3 x).2 ⟨i, lt_of_get hi, hx⟩)) (h1 i A hi), h2, h3⟩,
   fun {F h x} ⟨G, h1, h2, h3⟩ hx => by
    obtain ⟨i, hi, hg⟩ := (h3 x).1 hx
    obtain ⟨A, hA⟩ := get_of_lt hi
    exact A.dom (h1 i A hA) hg⟩

/-- taken apart -/
theorem Sat.open {L M : List Asn} {h : Hp} (hs : Sat (L ++ [star M]) h) : Sat (L ++ M) h := by
  obtain ⟨F, h1, h2⟩ := hs
  obtain ⟨G, g1, g2, g3⟩ := h1 L.length (star M) (by simp)
  refine ⟨fun i => if i < L.length then F i else G (i - L.length), ?_, ?_⟩
  · intro i A hi
    by_cases e : i < L.length
    · simp only [if_pos e]
      rw [List.getElem?_append_left e] at hi
      exact h1 i A (by rw [List.getElem?_append_left e]; exact hi)
    · simp only [if_neg e]
      rw [List.getElem?_append_right (by omega)] at hi
      exact g1 _ A hi
  · intro i j x hi hj hx hy
    simp only [List.length_append] at hi hj
    have key : ∀ i, i < L.length → ∀ j, ¬ j < L.length → j < L.length + M.length → F i x → G (j - L.length) x → False := by
      intro i hi j hj hj2 hx hy
      have := h2 i L.length x (by simp; omega) (by simp) hx ((g3 x).2 ⟨_, by omega, hy⟩)
      omega
    by_cases e : i < L.length
    · simp only [if_pos e] at hx
      by_cases e2 : j < L.length
      · simp only [if_pos e2] at hy
        exact h2 i j x (by simp; omega) (by simp; omega) hx hy
      · simp only [if_neg e2] at hy
        exact (key i e j e2 hj hx hy).elim
    · simp only [if_neg e] at hx
      by_cases e2 : j < L.length
      · simp only [if_pos e2] at hy
        exact (key j e2 i e hi hy hx).elim
      · simp only [if_neg e2] at hy
        have := g2 _ _ x (by omega) (by omega) hx hy
        omega
/-- put together -/
theorem Sat.close {L M : List Asn} {h : Hp} (hs : Sat (L ++ M) h) : Sat (L ++ [star M]) h := by
  obtain ⟨F, h1, h2⟩ := hs
  refine ⟨fun i => if i < L.length then F i else fun x => ∃ k, k < M.length ∧ F (L.length + k) x, ?_, ?_⟩
  · intro i A hi
    by_cases e : i < L.length
    · simp only [if_pos e]
      rw [List.getElem?_append_left e] at hi
      exact h1 i A (by rw [List.getElem?_append_left e]; exact hi)
    · simp only [if_neg e]
      have hlt := lt_of_get hi
      simp at hlt
      have : i = L.length := by omega
      subst this
      simp at hi; subst hi
      refine ⟨fun k => F (L.length + k), fun k A hk => h1 _ A (by rw [List.getElem?_append_right (by omega)]; simpa using hk), fun k l x hk hl hx hy => ?_, fun x => Iff.rfl⟩
      have := h2 _ _ x (by simp; omega) (by simp; omega) hx hy
      omega
  · intro i j x hi hj hx hy
    simp at hi hj
    by_cases e : i < L.length
    · simp only [if_pos e] at hx
      by_cases e2 : j < L.length
      · simp only [if_pos e2] at hy
        exact h2 i j x (by simp; omega) (by simp; omega) hx hy
      · simp only [if_neg e2] at hy
        obtain ⟨k, hk, hy⟩ := hy
        have := h2 _ _ x (by simp; omega) (by simp; omega) hx hy
        omega
    · simp only [if_neg e] at hx
      by_cases e2 : j < L.length
      · simp only [if_pos e2] at hy
        obtain ⟨k, hk, hx⟩ := hx
        have := h2 _ _ x (by simp; omega) (by simp; omega) hx hy
        omega
      · omega

/-- the j-th to the end; and back to its place -/
theorem Sat.rot {L M : List Asn} {h : Hp} (hs : Sat (L ++ M) h) (j : Nat) {A : Asn} (hj : M[j]? = some A) : Sat ((L ++ M.eraseIdx j) ++ [A]) h := by
  have hjl := lt_of_get hj
  have hel : (M.eraseIdx j).length + 1 = M.length := by rw [List.length_eraseIdx_of_lt hjl]; omega
  refine hs.pick (fun i => if i < L.length + j then i else if i = L.length + (M.length - 1) then L.length + j else i + 1) ?_ ?_
  · intro i B hi
    have hlt := lt_of_get hi
    simp only [List.length_append, List.length_singleton] at hlt
    by_cases e : i < L.length + j
    · simp only [if_pos e]
      rw [List.getElem?_append_left (by simp; omega)] at hi
      by_cases e2 : i < L.length
      · rw [List.getElem?_append_left e2] at hi ⊢; exact hi
      · rw [List.getElem?_append_right (by omega)] at hi ⊢
        rw [List.getElem?_eraseIdx_of_lt (by omega)] at hi; exact hi
    · simp only [if_neg e]
      by_cases e2 : i = L.length + (M.length - 1)
      · simp only [if_pos e2]
        rw [List.getElem?_append_right (by simp; omega)] at hi
        have : i - (L ++ M.eraseIdx j).length = 0 := by simp; omega
        rw [this] at hi
        simp at hi
        rw [List.getElem?_append_right (by omega)]
        simp only [Nat.add_sub_cancel_left]
        rw [hj, hi]
      · simp only [if_neg e2]
        rw [List.getElem?_append_left (by simp; omega)] at hi
        rw [List.getElem?_append_right (by omega)] at hi ⊢
        rw [List.getElem?_eraseIdx_of_ge (by omega)] at hi
        rw [show i + 1 - L.length = i - L.length + 1 by omega]; exact hi
  · intro i k hi hk e
    simp only [List.length_append, List.length_singleton] at hi hk
    split at e <;> split at e <;> (try split at e) <;> (try split at e) <;> omega
theorem Sat.back {L M : List Asn} {h : Hp} {j : Nat} {A' : Asn} (hs : Sat ((L ++ M.eraseIdx j) ++ [A']) h) (hjl : j < M.length) : Sat (L ++ M.set j A') h := by
  have hel : (M.eraseIdx j).length + 1 = M.length := by rw [List.length_eraseIdx_of_lt hjl]; omega
  refine hs.pick (fun i => if i < L.length + j then i else if i = L.length + j then L.length + (M.length - 1) else i - 1) ?_ ?_
  · intro i B hi
    have hlt := lt_of_get hi
    simp only [List.length_append, List.length_set] at hlt
    by_cases e : i < L.length + j
    · simp only [if_pos e]
      rw [List.getElem?_append_left (by simp; omega)]
      by_cases e2 : i < L.length
      · rw [List.getElem?_append_left e2] at hi ⊢; exact hi
      · rw [List.getElem?_append_right (by omega)] at hi ⊢
        rw [List.getElem?_eraseIdx_of_lt (by omega)]
        rw [List.getElem?_set_ne (by omega)] at hi; exact hi
    · simp only [if_neg e]
      by_cases e2 : i = L.length + j
      · simp only [if_pos e2]
        rw [List.getElem?_append_right (by simp; omega)]
        have : L.length + (M.length - 1) - (L ++ M.eraseIdx j).length = 0 := by simp; omega
        rw [this]
        rw [List.getElem?_append_right (by omega)] at hi
        rw [show i - L.length = j by omega, List.getElem?_set_self hjl] at hi
        simpa using hi
      · simp only [if_neg e2]
        rw [List.getElem?_append_left (by simp; omega)]
        rw [List.getElem?_append_right (by omega)] at hi ⊢
        rw [List.getElem?_eraseIdx_of_ge (by omega)]
        rw [List.getElem?_set_ne (by omega)] at hi
        rw [show i - 1 - L.length + 1 = i - L.length by omega]; exact hi
  · intro i k hi hk e
    simp only [List.length_append, List.length_set] at hi hk
    split at e <;> split at e <;> (try split at e) <;> (try split at e) <;> omega

/-- one turns into what follows of it -/
theorem Sat.imp {L M : List Asn} {h : Hp} (hs : Sat (L ++ M) h) (j : Nat) {A A' : Asn} (hj : M[j]? = some A) (hi : ∀ F, A.on F h → A'.on F h) : Sat (L ++ M.set j A') h := by
  have hjl := lt_of_get hj
  have := Sat.step (i := L.length + j) (A := A) (A' := A') (h' := h) hs (by rw [List.getElem?_append_right (by omega)]; simpa using hj) (fun F hF => ⟨F, hi F hF, fun x hx => .inl hx, fun _ _ _ => rfl⟩)
  rwa [List.set_append_right _ _ (by omega), Nat.add_sub_cancel_left] at this
/-- one changes, of the working list -/
theorem Sat.at {L M : List Asn} {h h' : Hp} (hs : Sat (L ++ M) h) (j : Nat) {A A' : Asn} (hj : M[j]? = some A)
    (hst : ∀ F, A.on F h → ∃ F', A'.on F' h' ∧ (∀ x, F' x → F x ∨ h x = none) ∧ ∀ x, ¬ F x → h x ≠ none → h' x = h x) : Sat (L ++ M.set j A') h' := by
  have hjl := lt_of_get hj
  have := Sat.step (i := L.length + j) (A := A) (A' := A') (h' := h') hs (by rw [List.getElem?_append_right (by omega)]; simpa using hj) hst
  rwa [List.set_append_right _ _ (by omega), Nat.add_sub_cancel_left] at this
theorem Sat.get' {L M : List Asn} {h : Hp} (hs : Sat (L ++ M) h) (j : Nat) {A : Asn} (hj : M[j]? = some A) : ∃ F, A.on F h :=
  hs.get (i := L.length + j) (by rw [List.getElem?_append_right (by omega)]; simpa using hj)
theorem Sat.add {L M : List Asn} {h h' : Hp} {A : Asn} {F' : Nat → Prop} (hs : Sat (L ++ M) h) (he : Ext none' h h') (ha : A.on F' h') (hf : ∀ x, F' x → h x = none) : Sat (L ++ (M ++ [A])) h' := by
  rw [← List.append_assoc]; exact hs.more he ha hf

/-! ### reading and writing -/
theorem Sat.pt {L M : List Asn} {h : Hp} (hs : Sat (L ++ M) h) (j : Nat) {b : Nat} {o : Obj} (hj : M[j]? = some (Hw.pt b o)) : h b = some o := let ⟨_, hF⟩ := hs.get' j hj; hF.2
theorem Sat.blk {L M : List Asn} {h : Hp} (hs : Sat (L ++ M) h) (j : Nat) {b : Nat} {T : TypeId} {cs : List Value} (hj : M[j]? = some (row b T cs)) : Blk h b T cs := let ⟨_, hF⟩ := hs.get' j hj; hF.2
theorem Sat.own {L M : List Asn} {h : Hp} (hs : Sat (L ++ M) h) (j : Nat) {T : TypeId} {sz : Nat} {s : Sl} {vs : List Value} (hj : M[j]? = some (Hw.own T sz s vs)) : Own h T sz s vs := let ⟨_, hF⟩ := hs.get' j hj; hF.2
theorem Sat.was {L M : List Asn} {h h0 : Hp} (hs : Sat (L ++ M) h) (j : Nat) (hj : M[j]? = some (Hw.was h0)) : Ext none' h0 h := by
  obtain ⟨F, hF⟩ := hs.get' j hj
  intro b o hb _
  have := (hF b).2 ((hF b).1.2 (by rw [hb]; simp))
  rw [this]; exact hb
theorem Sat.pur {L M : List Asn} {h : Hp} (hs : Sat (L ++ M) h) (j : Nat) {p : Prop} (hj : M[j]? = some (Hw.pur p)) : p := let ⟨_, hF⟩ := hs.get' j hj; hF.2
theorem Sat.put {L M : List Asn} {h : Hp} (hs : Sat (L ++ M) h) (j : Nat) {b : Nat} {o o' : Obj} (hj : M[j]? = some (Hw.pt b o)) : Sat (L ++ M.set j (Hw.pt b o')) (upd h b o') :=
  hs.at j hj fun F hF => ⟨F, ⟨hF.1, upd_same⟩, fun x hx => .inl hx, fun x hx _ => upd_ne (fun e => hx ((hF.1 x).2 e))⟩
theorem Sat.new {L M : List Asn} {h : Hp} {b : Nat} (hs : Sat (L ++ M) h) (hb : h b = none) (o : Obj) : Sat (L ++ (M ++ [Hw.pt b o])) (upd h b o) :=
  hs.add (Ext.new hb) (F' := fun x => x = b) ⟨fun _ => Iff.rfl, upd_same⟩ (fun x hx => by rw [hx]; exact hb)
/-- a store into a row -/
theorem Sat.st {L M : List Asn} {h : Hp} {b k : Nat} {T : TypeId} {cs : List Value} {v : Value} {F : Hp → Prop} (hs : Sat (L ++ M) h) (j : Nat) (hj : M[j]? = some (row b T cs)) (hk : k < cs.length) (hp : plain v = true)
    (hF : ∀ h', Sat (L ++ M.set j (row b T (cs.set k v))) h' → F h') : Hw.st h ⟨b, k, none⟩ v F :=
  (hs.blk j hj).st hk hp (hF _ (hs.put j hj))
/-- a slice that came as new -/
theorem Sat.addOwn {L M : List Asn} {h h' : Hp} {T : TypeId} {sz : Nat} {s : Sl} {vs : List Value} (hs : Sat (L ++ M) h) (he : Ext none' h h') (ho : Own h' T sz s vs) (hf : ∀ b, s.p = some (bk b) → h b = none) : Sat (L ++ (M ++ [Hw.own T sz s vs])) h' :=
  hs.add he (F' := fun x => s.p = some (bk x)) ⟨fun _ => Iff.rfl, ho⟩ hf
/-- append -/
theorem Sat.ap {P : Program} {L M : List Asn} {T : TypeId} {sz : Nat} {s : Sl} {vs ns : List Value} {y : Value} {h : Hp} {F : Sl → Hp → Prop} {n : Nat} (hs : Sat (L ++ M) h) (j : Nat) (hj : M[j]? = some (Hw.own T sz s vs))
    (hsz : P.cellsOf T = sz) (hz : (zc P T).length = sz) (hln : ∀ G : Nat → Prop, lnK y G = G n) (hsrc : ∀ G : List Value → Prop, G ns → srcK h sz n y G)
    (hns : ns.length = n * sz) (hpl : ∀ v ∈ ns, plain v = true) (hby : (s.n + n) * 2 * P.bytesOf T ≤ 2 ^ 48)
    (hF : ∀ s' h', Sat (L ++ M.set j (Hw.own T sz s' (vs ++ ns))) h' → s'.n = s.n + n → F s' h') : apK P T s y h F := by
  refine apK_own (hs.own j hj) hsz hz hln hsrc hns hpl hby ?_
  intro s' h' ho hn he hr
  refine hF s' h' (hs.at j hj fun G hG => ⟨fun x => s'.p = some (bk x), ⟨fun _ => Iff.rfl, ho⟩, fun x hx => ?_, fun x hx hne => ?_⟩) hn
  · rcases hr x hx with e | e
    · exact .inl ((hG.1 x).2 e)
    · exact .inr e
  · cases hq : h x with
    | none => exact (hne hq).elim
    | some o => exact he x o hq (fun e => hx ((hG.1 x).2 e))

/-- append, told apart: in its place, or in a new row beside the old one -/
theorem Sat.ap2 {P : Program} {L M : List Asn} {T : TypeId} {sz : Nat} {s : Sl} {vs ns : List Value} {y : Value} {h : Hp} {F : Sl → Hp → Prop} {n : Nat} (hs : Sat (L ++ M) h) (j : Nat) (hj : M[j]? = some (Hw.own T sz s vs))
    (hsz : P.cellsOf T = sz) (hz : (zc P T).length = sz) (hln : ∀ G : Nat → Prop, lnK y G = G n) (hsrc : ∀ G : List Value → Prop, G ns → srcK h sz n y G)
    (hns : ns.length = n * sz) (hpl : ∀ v ∈ ns, plain v = true) (hby : (s.n + n) * 2 * P.bytesOf T ≤ 2 ^ 48)
    (hin : s.n + n ≤ s.c → ∀ h', Sat (L ++ M.set j (Hw.own T sz ⟨s.p, s.n + n, s.c⟩ (vs ++ ns))) h' → F ⟨s.p, s.n + n, s.c⟩ h')
    (hnew : ∀ s' h', s'.n = s.n + n → Sat (L ++ (M ++ [Hw.own T sz s' (vs ++ ns)])) h' → F s' h') : apK P T s y h F := by
  have ho := hs.own j hj
  unfold apK
  rw [hln]
  obtain ⟨h1, h2, h3⟩ := ho
  refine ⟨fun hc => ?_, fun hc => ⟨?_, ?_⟩⟩
  · rw [hsz]
    refine hsrc _ ?_
    cases hp : s.p with
    | none =>
      rw [hp] at h3
      have h3' : s.c = 0 := h3
      have : n = 0 := by omega
      subst this
      rw [Nat.zero_mul] at hns
      have : ns = [] := List.length_eq_zero_iff.1 hns
      subst this
      simp only []
      have := hin hc h (hs.imp j hj fun F' hF' => ?_)
      · rw [hp] at this; exact this
      · rw [List.append_nil]; exact hF'
    | some a =>
      rw [hp] at h3
      obtain ⟨e, cs, hb, hl, ht⟩ := h3
      simp only []
      have hmul : (s.n + n) * sz ≤ s.c * sz := Nat.mul_le_mul_right _ hc
      rw [Nat.add_mul] at hmul
      have e2 : a.add (s.n * sz) = ⟨a.block, s.n * sz, none⟩ := by rw [e, add_bk]
      rw [e2]
      refine wrL_blk (o := s.n * sz) ns 0 h cs hb (by omega) hpl ?_
      intro h' hb' hf
      rw [Nat.add_zero, setL_eq (by omega)] at hb'
      have := hin hc h' (hs.at j hj fun G hG => ⟨G, ⟨hG.1, by simp [h1, hns, Nat.add_mul], hc, ?_⟩, fun x hx => .inl hx, fun x hx _ => hf x (fun q => hx ((hG.1 x).2 (by rw [hp, e, q])))⟩)
      · rw [hp] at this; exact this
      · show match s.p with | none => _ | some a => _
        rw [hp]
        refine ⟨e, _, hb', ?_, ?_⟩
        · simp; omega
        · rw [← h1, ht]
          rw [List.append_assoc, ← List.append_assoc vs, List.take_left']
          simp
  · have := nextcap_le (s.n + n) s.c hc
    calc _ ≤ 2 * (s.n + n) * P.bytesOf T := Nat.mul_le_mul_right _ this
      _ = (s.n + n) * 2 * P.bytesOf T := by rw [Nat.mul_comm 2]
      _ ≤ 2 ^ 48 := hby
  · rw [hsz]
    refine srcK_own ⟨h1, h2, h3⟩ (Nat.le_refl _) ?_
    refine hsrc _ ?_
    intro c b hcb hb
    rw [← h1, List.take_length]
    have harr : (⟨vs ++ ns⟩ : Array Value) ++ zeros P T (c - (s.n + n)) = ⟨(vs ++ ns) ++ (zeros P T (c - (s.n + n))).toList⟩ := by apply Array.ext'; simp
    rw [harr]
    refine hnew ⟨some (bk b), s.n + n, c⟩ _ rfl (hs.addOwn (Ext.new hb) ⟨by simp [h1, hns, Nat.add_mul], hcb, rfl, _, Blk.upd_same, ?_, ?_⟩ ?_)
    · show _ = c * sz
      rw [List.length_append, zeros_len, hz, List.length_append, h1, hns, ← Nat.add_mul, ← Nat.add_mul]; congr 1; omega
    · exact List.take_left
    · intro b' hb'
      simp only [Option.some.injEq] at hb'
      have : b = b' := congrArg Addr.block hb'
      subst this; exact hb
/-- one more into a star -/
theorem Sat.into {L X : List Asn} {A : Asn} {h : Hp} (hs : Sat (L ++ [star X, A]) h) : Sat (L ++ [star (X ++ [A])]) h := by
  have h1 := hs.rot 0 rfl
  have h2 := h1.open
  rw [show (L ++ [star X, A].eraseIdx 0) ++ X = L ++ (A :: X) by simp] at h2
  have h3 := h2.rot 0 rfl
  rw [show (L ++ (A :: X).eraseIdx 0) ++ [A] = L ++ (X ++ [A]) by simp] at h3
  exact h3.close
theorem Sat.drop {L M : List Asn} {h : Hp} (hs : Sat (L ++ M) h) : Sat L h := hs.left
/-- either -/
def orA (A B : Asn) : Asn := ⟨fun F h => A.on F h ∨ B.on F h, fun hl hh => hh.imp (A.loc hl) (B.loc hl), fun hh hx => hh.elim (fun h => A.dom h hx) (fun h => B.dom h hx)⟩

end Go.Hw

/-
  Bytes: slices that read as lists of bytes; rows that are pushed to; new slices.
-/
set_option linter.unusedSimpArgs false
set_option linter.unusedVariables false
namespace Go.Hw
open Go

theorem cellx {h h' : Hp} (he : Ext none' h h') {a : Addr} {v : Value} (hc : cell h a = some v) : cell h' a = some v := by
  unfold cell at hc ⊢
  cases hb : h a.block with
  | none => rw [hb] at hc; cases hc
  | some o => rw [hb] at hc; rw [he _ _ hb (fun e => e)]; exact hc
theorem addadd (a : Addr) (m n : Nat) : (a.add m).add n = a.add (m + n) := by
  unfold Addr.add
  by_cases h1 : m = 0
  · subst h1; simp
  · by_cases h2 : n = 0
    · subst h2; simp
    · simp [h1, h2, Nat.add_assoc]
@[simp] theorem addzero (a : Addr) : a.add 0 = a := by simp [Addr.add]

/-- what stands behind an address -/
def Rdc (h : Hp) (p : Option Addr) (vs : List Value) : Prop := ∀ (i : Nat) (v : Value), vs[i]? = some v → ∃ a, p = some a ∧ cell h (a.add i) = some v
theorem Rdc.ext {h h' : Hp} {p : Option Addr} {vs : List Value} (H : Rdc h p vs) (he : Ext none' h h') : Rdc h' p vs := fun i v hi => let ⟨a, hp, hc⟩ := H i v hi; ⟨a, hp, cellx he hc⟩
theorem Rdc.drop {h : Hp} {a : Addr} {vs : List Value} (H : Rdc h (some a) vs) (k : Nat) : Rdc h (some (a.add k)) (vs.drop k) := by
  intro i v hi
  rw [List.getElem?_drop] at hi
  obtain ⟨b, hb, hc⟩ := H _ v hi
  cases hb
  exact ⟨_, rfl, by rw [addadd]; exact hc⟩
theorem Rdc.take {h : Hp} {p : Option Addr} {vs : List Value} (H : Rdc h p vs) (k : Nat) : Rdc h p (vs.take k) := by
  intro i v hi
  rw [List.getElem?_take] at hi
  split at hi
  · exact H i v hi
  · cases hi
theorem Rdc.rdN {h : Hp} {a : Addr} {vs : List Value} (H : Rdc h (some a) vs) : ∀ (n i : Nat), i + n ≤ vs.length → Hw.rdN h a i n = some ((vs.drop i).take n) := by
  intro n
  induction n with
  | zero => intro i _; simp [Hw.rdN]
  | succ n ih =>
    intro i hi
    have hlt : i < vs.length := by omega
    obtain ⟨b, hb, hc⟩ := H i vs[i] (List.getElem?_eq_getElem hlt)
    cases hb
    simp only [Hw.rdN, hc, ih (i + 1) (by omega)]
    rw [List.drop_eq_getElem_cons hlt, List.take_succ_cons]
theorem Blk.rdc {h : Hp} {b : Nat} {T : TypeId} {cs : List Value} (hb : Blk h b T cs) : Rdc h (some (bk b)) cs := fun i v hi => ⟨_, rfl, by rw [add_bk, hb.cell]; exact hi⟩
theorem Own.rdc {h : Hp} {T : TypeId} {sz : Nat} {s : Sl} {vs : List Value} (ho : Own h T sz s vs) : Rdc h s.p vs := by
  intro i v hi
  obtain ⟨b, hp, hc⟩ := ho.get hi
  exact ⟨bk b, hp, by rw [add_bk]; exact hc⟩

/-- bytes as cells -/
def bc (l : List UInt8) : List Value := l.map fun b => .int .u8 b.toNat
@[simp] theorem bc_len (l : List UInt8) : (bc l).length = l.length := by simp [bc]
@[simp] theorem bc_nil : bc [] = [] := rfl
@[simp] theorem bc_cons (b : UInt8) (l : List UInt8) : bc (b :: l) = .int .u8 b.toNat :: bc l := rfl
theorem bc_app (l m : List UInt8) : bc (l ++ m) = bc l ++ bc m := by simp [bc]
theorem bc_get (l : List UInt8) (i : Nat) : (bc l)[i]? = l[i]?.map fun b => .int .u8 b.toNat := by simp [bc]
theorem bc_take (l : List UInt8) (n : Nat) : bc (l.take n) = (bc l).take n := by simp [bc, List.map_take]
theorem bc_drop (l : List UInt8) (n : Nat) : bc (l.drop n) = (bc l).drop n := by simp [bc, List.map_drop]
theorem bc_set (l : List UInt8) (n : Nat) (b : UInt8) : bc (l.set n b) = (bc l).set n (.int .u8 b.toNat) := by simp [bc, List.map_set]
theorem bcells_bc (s : ByteArray) : bcells s = bc s.data.toList := rfl
theorem bc_plain {l : List UInt8} : ∀ v ∈ bc l, plain v = true := by
  intro v hv
  obtain ⟨b, _, rfl⟩ := List.mem_map.1 hv
  rfl
theorem cbytes_bc : ∀ (l : List UInt8), cbytes (bc l) = some l := by
  intro l
  induction l with
  | nil => rfl
  | cons b l ih => simp only [bc_cons, cbytes, ih]; simp

/-- a slice that reads so -/
structure RdB (h : Hp) (s : Sl) (l : List UInt8) : Prop where
  n : s.n = l.length
  c : s.n ≤ s.c
  r : Rdc h s.p (bc l)
theorem RdB.ext {h h' : Hp} {s : Sl} {l : List UInt8} (H : RdB h s l) (he : Ext none' h h') : RdB h' s l := ⟨H.n, H.c, H.r.ext he⟩
theorem Own.rdb {h : Hp} {T : TypeId} {s : Sl} {l : List UInt8} (ho : Own h T 1 s (bc l)) : RdB h s l := ⟨by have := ho.1; simpa using this.symm, ho.2.1, ho.rdc⟩
theorem RdB.nil {h : Hp} {p : Option Addr} {c : Nat} : RdB h ⟨p, 0, c⟩ [] := ⟨rfl, Nat.zero_le _, by intro i v hi; simp at hi⟩
theorem RdB.get {h : Hp} {s : Sl} {l : List UInt8} (H : RdB h s l) {i : Nat} (hi : i < l.length) : ∃ a, s.p = some a ∧ cell h (a.add i) = some (.int .u8 (l[i]'hi).toNat) :=
  H.r i _ (by rw [bc_get, List.getElem?_eq_getElem hi]; rfl)
/-- an element is read -/
theorem RdB.at {h : Hp} {s : Sl} {l : List UInt8} (H : RdB h s l) {x : Int} {i : Nat} (hx : x = i) (hi : i < l.length) {F : Int → Prop} (hF : F ((l[i]'hi).toNat : Int)) :
    idx x s.n (nn s.p fun a => xI .u8 (cell h (a.add (x.toNat * 1))) F) := by
  obtain ⟨a, hp, hc⟩ := H.get hi
  refine idx_of (by omega) (by have := H.n; omega) ?_
  rw [hp]
  subst hx
  simp only [nn_some', Nat.mul_one, Int.toNat_natCast, hc, xI_some]
  exact hF
theorem RdB.at' {h : Hp} {s : Sl} {l : List UInt8} (H : RdB h s l) {i : Nat} (hi : i < l.length) {F : Int → Prop} (hF : F ((l[i]'hi).toNat : Int)) :
    idx (i : Int) s.n (nn s.p fun a => xI .u8 (cell h (a.add i)) F) := by
  have := H.at (x := (i : Int)) rfl hi hF
  simpa only [Int.toNat_natCast, Nat.mul_one] using this
theorem RdB.b2s {h : Hp} {s : Sl} {l : List UInt8} (H : RdB h s l) {F : ByteArray → Prop} (hF : F ⟨⟨l⟩⟩) : Hw.b2s h s.p s.n F := by
  unfold Hw.b2s
  cases hp : s.p with
  | none =>
    have : l = [] := by
      cases l with
      | nil => rfl
      | cons b l => obtain ⟨a, ha, _⟩ := H.get (i := 0) (by simp); rw [hp] at ha; cases ha
    subst this; exact hF
  | some a =>
    have hr := H.r
    rw [hp] at hr
    simp only []
    rw [hr.rdN _ _ (by rw [H.n]; simp), H.n]
    simp only [List.drop_zero]
    rw [← bc_len, List.take_length, cbytes_bc]
    exact hF
theorem RdB.srcK {h : Hp} {s : Sl} {l : List UInt8} (H : RdB h s l) {n : Nat} (hn : n ≤ l.length) {F : List Value → Prop} (hF : F (bc (l.take n))) : Hw.srcK h 1 n s.v F := by
  unfold Hw.srcK Sl.v
  simp only []
  cases hp : s.p with
  | none =>
    have : l = [] := by
      cases l with
      | nil => rfl
      | cons b l => obtain ⟨a, ha, _⟩ := H.get (i := 0) (by simp); rw [hp] at ha; cases ha
    subst this; simpa using hF
  | some a =>
    have hr := H.r
    rw [hp] at hr
    simp only []
    rw [hr.rdN _ _ (by simp; omega)]
    simp only [List.drop_zero, Nat.mul_one]
    rw [← bc_take]; exact hF
theorem RdB.sub {h : Hp} {s : Sl} {l : List UInt8} (H : RdB h s l) {lo hi : Nat} (h1 : lo ≤ hi) (h2 : hi ≤ l.length) : RdB h ⟨sadr s.p s.c lo 1, hi - lo, s.c - lo⟩ ((l.drop lo).take (hi - lo)) := by
  have hn := H.n
  have hc := H.c
  refine ⟨by simp; omega, by simp; omega, ?_⟩
  show Rdc h (sadr s.p s.c lo 1) _
  unfold sadr
  split
  · have : hi - lo = 0 := by omega
    rw [this]
    intro i v hi; simp at hi
  · cases hp : s.p with
    | none =>
      intro i v hi
      obtain ⟨a, ha, _⟩ := H.get (i := 0) (by
        rw [bc_get] at hi
        simp only [Option.map_eq_some_iff] at hi
        obtain ⟨b, hb, _⟩ := hi
        have := lt_of_get hb
        simp at this; omega)
      rw [hp] at ha; cases ha
    | some a =>
      have hr := H.r
      rw [hp] at hr
      have := (hr.drop (lo * 1)).take (hi - lo)
      rw [Nat.mul_one] at this ⊢
      rw [bc_take, bc_drop]
      exact this

/-! ### new ones -/
theorem Sat.start {h : Hp} : Sat ([] ++ [Hw.was h]) h :=
  ⟨fun _ x => h x ≠ none, fun i A hi => by
    have : i = 0 := by have := lt_of_get hi; simp at this; omega
    subst this
    simp at hi; subst hi
    exact fun x => ⟨Iff.rfl, fun _ => rfl⟩, fun i j x hi hj _ _ => by simp at hi hj; omega⟩
/-- a slice that owns its row, all of it new -/
def NewO (h h' : Hp) (T : TypeId) (sz : Nat) (s : Sl) (vs : List Value) : Prop := Ext none' h h' ∧ Own h' T sz s vs ∧ ∀ b, s.p = some (bk b) → h b = none
theorem Sat.newO {L M : List Asn} {h h0 : Hp} (hs : Sat (L ++ M) h) (i j : Nat) {T : TypeId} {sz : Nat} {s : Sl} {vs : List Value} (hi : M[i]? = some (Hw.was h0)) (hj : M[j]? = some (Hw.own T sz s vs)) (hij : i ≠ j) : NewO h0 h T sz s vs := by
  refine ⟨hs.was i hi, hs.own j hj, ?_⟩
  obtain ⟨F, h1, h2⟩ := hs
  intro b hb
  cases hq : h0 b with
  | none => rfl
  | some o =>
    have w := h1 (L.length + i) (Hw.was h0) (by rw [List.getElem?_append_right (by omega)]; simpa using hi)
    have u := h1 (L.length + j) (Hw.own T sz s vs) (by rw [List.getElem?_append_right (by omega)]; simpa using hj)
    have li := lt_of_get hi
    have lj := lt_of_get hj
    have := h2 (L.length + i) (L.length + j) b (by simp; omega) (by simp; omega) ((w b).1.2 (by rw [hq]; simp)) ((u.1 b).2 hb)
    omega
theorem NewO.nil {h : Hp} {T : TypeId} {sz : Nat} : NewO h h T sz ⟨none, 0, 0⟩ [] := ⟨Ext.refl, Own.nil, by intro b hb; cases hb⟩
theorem Sat.addNew {L M : List Asn} {h h' : Hp} {T : TypeId} {sz : Nat} {s : Sl} {vs : List Value} (hs : Sat (L ++ M) h) (hn : NewO h h' T sz s vs) : Sat (L ++ (M ++ [Hw.own T sz s vs])) h' := hs.addOwn hn.1 hn.2.1 hn.2.2
theorem Sat.addNil {L M : List Asn} {h : Hp} (T : TypeId) (sz : Nat) (hs : Sat (L ++ M) h) : Sat (L ++ (M ++ [Hw.own T sz ⟨none, 0, 0⟩ []])) h := hs.addNew NewO.nil
theorem NewO.trans {h h1 h' : Hp} {T : TypeId} {sz : Nat} {s : Sl} {vs : List Value} (he : Ext none' h h1) (hn : NewO h1 h' T sz s vs) : NewO h h' T sz s vs := by
  refine ⟨he.trans hn.1, hn.2.1, fun b hb => ?_⟩
  cases hq : h b with
  | none => rfl
  | some o => have := he b o hq (fun e => e); rw [hn.2.2 b hb] at this; cases this
theorem NewO.ext {h h1 h' : Hp} {T : TypeId} {sz : Nat} {s : Sl} {vs : List Value} (hn : NewO h h1 T sz s vs) (he : Ext none' h1 h') : NewO h h' T sz s vs :=
  ⟨hn.1.trans he, hn.2.1.ext he (fun _ _ e => e), hn.2.2⟩

/-- a row is pushed to: elements in a row of their own, then append -/
theorem Sat.push {P : Program} {L M : List Asn} {T : TypeId} {sz k : Nat} {s : Sl} {vs ns : List Value} {h : Hp} {F : Sl → Hp → Prop} (hs : Sat (L ++ M) h) (j : Nat) (hj : M[j]? = some (Hw.own T sz s vs))
    (hsz : P.cellsOf T = sz) (hz : (zc P T).length = sz) (hns : ns.length = k * sz) (hpl : ∀ v ∈ ns, plain v = true) (hby : (s.n + k) * 2 * P.bytesOf T ≤ 2 ^ 48)
    (hF : ∀ s' h', Sat (L ++ M.set j (Hw.own T sz s' (vs ++ ns))) h' → s'.n = s.n + k → F s' h') :
    nw h (.cells ⟨ns⟩ T) fun b0 h0 => apK P T s (.slice (some (bk b0)) k k) h0 F := by
  intro b0 e0
  have hs1 := hs.ext (Ext.new (o := .cells ⟨ns⟩ T (0, 0)) e0)
  refine hs1.ap j hj hsz hz (n := k) (fun _ => rfl) ?_ hns hpl hby hF
  intro G hG
  unfold srcK
  simp only []
  rw [rdN_blk (T := T) (cs := ns) Blk.upd_same _ _ (by omega)]
  simp only [List.drop_zero]
  rw [← hns, List.take_length]; exact hG
/-- the same, told apart -/
theorem Sat.push2 {P : Program} {L M : List Asn} {T : TypeId} {sz k : Nat} {s : Sl} {vs ns : List Value} {h : Hp} {F : Sl → Hp → Prop} (hs : Sat (L ++ M) h) (j : Nat) (hj : M[j]? = some (Hw.own T sz s vs))
    (hsz : P.cellsOf T = sz) (hz : (zc P T).length = sz) (hns : ns.length = k * sz) (hpl : ∀ v ∈ ns, plain v = true) (hby : (s.n + k) * 2 * P.bytesOf T ≤ 2 ^ 48)
    (hin : s.n + k ≤ s.c → ∀ h', Sat (L ++ M.set j (Hw.own T sz ⟨s.p, s.n + k, s.c⟩ (vs ++ ns))) h' → F ⟨s.p, s.n + k, s.c⟩ h')
    (hnew : ∀ s' h', s'.n = s.n + k → Sat (L ++ (M ++ [Hw.own T sz s' (vs ++ ns)])) h' → F s' h') :
    nw h (.cells ⟨ns⟩ T) fun b0 h0 => apK P T s (.slice (some (bk b0)) k k) h0 F := by
  intro b0 e0
  have hs1 := hs.ext (Ext.new (o := .cells ⟨ns⟩ T (0, 0)) e0)
  refine hs1.ap2 j hj hsz hz (n := k) (fun _ => rfl) ?_ hns hpl hby hin hnew
  intro G hG
  unfold srcK
  simp only []
  rw [rdN_blk (T := T) (cs := ns) Blk.upd_same _ _ (by omega)]
  simp only [List.drop_zero]
  rw [← hns, List.take_length]; exact hG
/-- make -/
theorem Sat.mk {P : Program} {L M : List Asn} {T : TypeId} {sz : Nat} {l c : Int} {h : Hp} {F : Sl → Hp → Prop} (hs : Sat (L ++ M) h) (hz : (zc P T).length = sz) (h0 : 0 ≤ l) (h1 : l ≤ c) (h2 : P.bytesOf T * c ≤ 2 ^ 48) (h3 : c ≤ 9223372036854775807)
    (hF : ∀ s' h' , s'.n = l.toNat → s'.c = c.toNat → Sat (L ++ (M ++ [Hw.own T sz s' (zeros P T l.toNat).toList])) h' → F s' h') : mkK P T l c h F := by
  unfold mkK
  simp only [h0, h1, h2, h3, decide_true, Bool.and_self, cond_true]
  intro b hb
  have split : (zeros P T c.toNat).toList.take (l.toNat * (zc P T).length) = (zeros P T l.toNat).toList := by
    unfold zeros Builtin.zeroCells
    have : min (l.toNat * (zc P T).length) (c.toNat * (zc P T).length) = l.toNat * (zc P T).length := Nat.min_eq_left (Nat.mul_le_mul_right _ (by omega))
    simp [← List.map_take, List.take_range, this]
  refine hF ⟨some (bk b), l.toNat, c.toNat⟩ _ rfl rfl (hs.addOwn (Ext.new hb) ⟨?_, ?_, rfl, (zeros P T c.toNat).toList, ?_, ?_, ?_⟩ ?_)
  · rw [zeros_len, hz]
  · show l.toNat ≤ c.toNat; omega
  · show upd h b _ b = some (.cells ⟨(zeros P T c.toNat).toList⟩ T (0, 0))
    rw [upd_same]
  · rw [zeros_len, hz]
  · rw [zeros_len]; exact split
  · intro b' hb'
    simp only [Option.some.injEq] at hb'
    have : b = b' := congrArg Addr.block hb'
    subst this; exact hb
/-- a store into a slice's row -/
theorem Sat.sto {L M : List Asn} {h : Hp} {T : TypeId} {sz k : Nat} {s : Sl} {vs : List Value} {v : Value} {F : Hp → Prop} (hs : Sat (L ++ M) h) (j : Nat) (hj : M[j]? = some (Hw.own T sz s vs)) (hk : k < vs.length) (hp : plain v = true)
    (hF : ∀ b h', s.p = some (bk b) → Sat (L ++ M.set j (Hw.own T sz s (vs.set k v))) h' → F h') : ∃ b, s.p = some (bk b) ∧ Hw.st h ⟨b, k, none⟩ v F := by
  have ho := hs.own j hj
  obtain ⟨b, cs, hsp, hb, hl, ht⟩ := ho.row (by intro e; rw [e] at hk; simp at hk)
  refine ⟨b, hsp, ?_⟩
  have hlen : vs.length ≤ cs.length := by rw [← ht]; simp; omega
  refine hb.st (by omega) hp ?_
  refine hF b _ hsp (hs.at j hj fun G hG => ⟨G, ⟨hG.1, ?_⟩, fun x hx => .inl hx, fun x hx _ => upd_ne (fun e => hx ((hG.1 x).2 (by rw [hsp, e])))⟩)
  refine ⟨by simpa using ho.1, ho.2.1, ?_⟩
  show match s.p with | none => _ | some a => _
  rw [hsp]
  refine ⟨rfl, cs.set k v, upd_same, by simpa using hl, ?_⟩
  rw [List.length_set, List.take_set, ht]
theorem Sat.stAt {L M : List Asn} {h : Hp} {T : TypeId} {k : Nat} {x : Int} {s : Sl} {vs : List Value} {v : Value} {F : Hp → Prop} (hs : Sat (L ++ M) h) (j : Nat) (hj : M[j]? = some (Hw.own T 1 s vs)) (hx : x = k) (hk : k < vs.length) (hp : plain v = true)
    (hF : ∀ h', Sat (L ++ M.set j (Hw.own T 1 s (vs.set k v))) h' → F h') : idx x s.n (nn s.p fun a => Hw.st h (a.add (x.toNat * 1)) v F) := by
  have ho := hs.own j hj
  refine idx_of (by omega) (by have := ho.1; omega) ?_
  obtain ⟨b, hb, hst⟩ := hs.sto (F := F) j hj hk hp (fun b h' _ hs' => hF h' hs')
  rw [hb]
  subst hx
  simp only [nn_some', add_bk, Int.toNat_natCast, Nat.mul_one]
  exact hst
/-- copy -/
theorem Sat.cp {P : Program} {L M : List Asn} {T : TypeId} {s : Sl} {vs ns : List Value} {y : Value} {h : Hp} {F : Nat → Hp → Prop} {n : Nat} (hs : Sat (L ++ M) h) (j : Nat) (hj : M[j]? = some (Hw.own T 1 s vs))
    (hsz : P.cellsOf T = 1) (hln : ∀ G : Nat → Prop, lnK y G = G n) (hsrc : ∀ G : List Value → Prop, G ns → srcK h 1 (Nat.min n s.n) y G) (hns : ns.length = Nat.min n s.n) (hpl : ∀ v ∈ ns, plain v = true)
    (hF : ∀ h', Sat (L ++ M.set j (Hw.own T 1 s (ns ++ vs.drop ns.length))) h' → F (Nat.min n s.n) h') : cpK P T s y h F := by
  unfold cpK
  rw [hln, hsz]
  refine hsrc _ ?_
  have hmin : ns.length ≤ s.n := by rw [hns]; exact Nat.min_le_right _ _
  obtain ⟨ho1, ho2, ho3⟩ := hs.own j hj
  rw [Nat.mul_one] at ho1
  cases hp : s.p with
  | none =>
    rw [hp] at ho3
    have hc : s.c = 0 := ho3
    have : ns = [] := by apply List.length_eq_zero_iff.1; omega
    subst this
    have hv : vs = [] := by apply List.length_eq_zero_iff.1; omega
    subst hv
    simp only []
    refine hF h ?_
    have := hs.imp j hj (A' := Hw.own T 1 s []) (fun F h => h)
    simpa using this
  | some a =>
    rw [hp] at ho3
    obtain ⟨ea, cs, hcs, hcl, hct⟩ := ho3
    rw [Nat.mul_one] at hcl
    simp only []
    rw [ea]
    refine wrL_blk (b := a.block) (o := 0) ns 0 _ cs hcs (by omega) hpl ?_
    intro h2 hb2 hf2
    refine hF h2 (hs.at j hj fun G hG => ⟨G, ⟨hG.1, by simp; omega, ho2, ?_⟩, fun x hx => .inl hx, fun x hx _ => hf2 x (fun e => hx ((hG.1 x).2 (by rw [hp, ea, e])))⟩)
    rw [hp]
    refine ⟨ea, _, hb2, by rw [setL_length]; omega, ?_⟩
    rw [setL_eq (by omega)]
    simp only [Nat.zero_add, List.take_zero, List.nil_append]
    rw [← hct]
    have : (cs.take vs.length).drop ns.length = (cs.drop ns.length).take (vs.length - ns.length) := by rw [List.drop_take]
    rw [this, List.length_append, List.take_append]
    simp only [Nat.add_sub_cancel_left, List.length_take, List.length_drop]
    rw [List.take_of_length_le (l := ns) (by omega)]
    congr 1
    rw [show min (vs.length - ns.length) (cs.length - ns.length) = vs.length - ns.length by omega]
theorem putd_u8 {n : Int} (h0 : 0 ≤ n) (h1 : n < 256) : ((UInt8.ofNat n.toNat).toNat : Int) = n := by
  rw [UInt8.toNat_ofNat']
  omega

end Go.Hw

/-
  The small functions of layer 1 over numbers: folded words, changed words, hosts, groups.
-/
set_option linter.unusedSimpArgs false
set_option linter.unusedVariables false
namespace Go.Proofs.YtlioifgejijcoaaDoor
open Go Go.Hw

/-- a number whose higher words were added to the lowest one -/
def fold16 (u : Nat) : Nat := if u = 0 then 0 else (u - 1) % 65535 + 1
theorem fold16_step {u : Nat} (h : 65535 < u) : fold16 (u % 65536 + u / 65536) = fold16 u := by unfold fold16; rw [if_neg (by omega), if_neg (by omega)]; omega
theorem fold16_low {u : Nat} (h : u ≤ 65535) : fold16 u = u := by unfold fold16; split <;> omega
theorem fold16_le (u : Nat) : fold16 u ≤ 65535 := by unfold fold16; split <;> omega
theorem fold16_add (a b : Nat) : fold16 (fold16 a + b) = fold16 (a + b) := by unfold fold16; split <;> split <;> (try split) <;> (try split) <;> omega
theorem fold16_zero (u : Nat) : fold16 u = 0 ↔ u = 0 := by unfold fold16; split <;> omega

theorem c_folded {u : Int} {h : Hp} {K : Int → Hp → Prop} (h0 : 0 ≤ u) (h1 : u < 18446744073709551616) (hK : K ((fold16 u.toNat : Nat) : Int) h) : C46 u h K := by
  apply S46; unfold N46 N46_l0
  refine loopP_inv (fun (x : Int) hc => hc = h ∧ 0 ≤ x ∧ x < 18446744073709551616 ∧ fold16 x.toNat = fold16 u.toNat) (fun x _ => x.toNat) ?_ ⟨rfl, h0, h1, rfl⟩
  rintro x hc ⟨rfl, g0, g1, ge⟩
  unfold N46_l0_B N46_l0_b
  by_cases hx : x > 65535
  · simp only [hx, decide_true, cond_true]
    have e1 := band_low (w := 64) (x := x) 16 g0 g1 (by omega)
    rw [show ((2 : Int) ^ 16 - 1) = 65535 from rfl, show ((2 : Int) ^ 16) = 65536 from rfl] at e1
    rw [e1, Int.fdiv_eq_ediv_of_nonneg _ (by decide), show ((2 : Int) ^ 16) = 65536 from rfl, wu64i (x := x % 65536) (by omega) (by omega), wu64i (by omega) (by omega)]
    refine ⟨⟨trivial, by omega, by omega, ?_⟩, by omega⟩
    have : (x % 65536 + x / 65536).toNat = x.toNat % 65536 + x.toNat / 65536 := by omega
    rw [this, fold16_step (by omega)]; exact ge
  · simp only [hx, decide_false, cond_false]
    rw [wu16i g0 (by omega)]
    have : x = ((fold16 u.toNat : Nat) : Int) := by rw [← ge, fold16_low (by omega)]; omega
    rw [this]; exact hK
theorem c_Folded {u : Int} {h : Hp} {K : Int → Hp → Prop} (h0 : 0 ≤ u) (h1 : u < 18446744073709551616) (hK : K ((fold16 u.toNat : Nat) : Int) h) : C47 u h K := by
  apply S47; unfold N47 N47_l0
  refine loopP_inv (fun (x : Int) hc => hc = h ∧ 0 ≤ x ∧ x < 18446744073709551616 ∧ fold16 x.toNat = fold16 u.toNat) (fun x _ => x.toNat) ?_ ⟨rfl, h0, h1, rfl⟩
  rintro x hc ⟨rfl, g0, g1, ge⟩
  unfold N47_l0_B N47_l0_b
  by_cases hx : x > 65535
  · simp only [hx, decide_true, cond_true]
    rw [Int.tmod_eq_emod_of_nonneg g0, Int.tdiv_eq_ediv_of_nonneg g0, wu64i (x := x / 65536) (by omega) (by omega), wu64i (by omega) (by omega)]
    refine ⟨⟨trivial, by omega, by omega, ?_⟩, by omega⟩
    have : (x % 65536 + x / 65536).toNat = x.toNat % 65536 + x.toNat / 65536 := by omega
    rw [this, fold16_step (by omega)]; exact ge
  · simp only [hx, decide_false, cond_false]
    have : x = ((fold16 u.toNat : Nat) : Int) := by rw [← ge, fold16_low (by omega)]; omega
    rw [this]; exact hK

/-- Turn: what the sum becomes when two bytes change -/
def turn (s o n : Nat) : Nat := 65535 - fold16 (65535 - s + (65535 - o) + n)
theorem c_turn {s o n : Int} {h : Hp} {K : Int → Hp → Prop} (s0 : 0 ≤ s) (s1 : s < 65536) (o0 : 0 ≤ o) (o1 : o < 65536) (n0 : 0 ≤ n) (n1 : n < 65536) (hK : K ((turn s.toNat o.toNat n.toNat : Nat) : Int) h) : C43 s o n h K := by
  apply S43; unfold N43
  rw [not16 s0 s1, not16 o0 o1, wu64i (x := 65535 - s) (by omega) (by omega), wu64i (x := 65535 - o) (by omega) (by omega), wu64i (x := n) (by omega) (by omega), wu64i (x := 65535 - s + (65535 - o)) (by omega) (by omega), wu64i (by omega) (by omega)]
  refine c_folded (by omega) (by omega) ?_
  have hl := fold16_le (65535 - s + (65535 - o) + n).toNat
  rw [not16 (by omega) (by omega)]
  have : (65535 - s + (65535 - o) + n).toNat = 65535 - s.toNat + (65535 - o.toNat) + n.toNat := by omega
  have e : (65535 : Int) - ((fold16 (65535 - s + (65535 - o) + n).toNat : Nat) : Int) = ((turn s.toNat o.toNat n.toNat : Nat) : Int) := by unfold turn; rw [← this]; omega
  rw [e]; exact hK
theorem c_Turn {s o n : Int} {h : Hp} {K : Int → Hp → Prop} (s0 : 0 ≤ s) (s1 : s < 65536) (o0 : 0 ≤ o) (o1 : o < 65536) (n0 : 0 ≤ n) (n1 : n < 65536) (hK : K ((turn s.toNat o.toNat n.toNat : Nat) : Int) h) : C44 s o n h K := by
  apply S44; unfold N44
  rw [wu64i (x := s) (by omega) (by omega), wu64i (x := o) (by omega) (by omega), wu64i (x := n) (by omega) (by omega), wu64i (x := 65535 - s) (by omega) (by omega), wu64i (x := 65535 - s + 65535) (by omega) (by omega), wu64i (x := 65535 - s + 65535 - o) (by omega) (by omega), wu64i (by omega) (by omega)]
  refine c_Folded (by omega) (by omega) ?_
  have hl := fold16_le (65535 - s + 65535 - o + n).toNat
  rw [wu64i (by omega) (by omega), wu16i (by omega) (by omega)]
  have : (65535 - s + 65535 - o + n).toNat = 65535 - s.toNat + (65535 - o.toNat) + n.toNat := by omega
  have e : (65535 : Int) - ((fold16 (65535 - s + 65535 - o + n).toNat : Nat) : Int) = ((turn s.toNat o.toNat n.toNat : Nat) : Int) := by unfold turn; rw [← this]; omega
  rw [e]; exact hK

def isHost (ip : Int) : Bool := decide (1 ≤ ip / 16777216) && decide (ip / 16777216 ≤ 223) && decide (ip / 16777216 ≠ 127)
theorem c_isHost {ip : Int} {h : Hp} {K : Bool → Hp → Prop} (hK : K (isHost ip) h) : C40 ip h K := by
  apply S40; unfold N40
  rw [Int.fdiv_eq_ediv_of_nonneg _ (by decide), show ((2 : Int) ^ 24) = 16777216 from rfl]
  unfold isHost at hK
  by_cases h1 : ip / 16777216 > 0
  · by_cases h2 : ip / 16777216 < 224
    · have e1 : (1 : Int) ≤ ip / 16777216 := by omega
      have e2 : ip / 16777216 ≤ 223 := by omega
      have e3 : (ip / 16777216 != 127) = decide (ip / 16777216 ≠ 127) := by by_cases e : ip / 16777216 = 127 <;> simp [e]
      simp only [h1, h2, e1, e2, decide_true, cond_true, Bool.true_and] at hK ⊢
      rw [e3]; exact hK
    · have e2 : ¬ ip / 16777216 ≤ 223 := by omega
      simp only [h1, h2, e2, decide_true, decide_false, cond_true, cond_false, Bool.and_false, Bool.false_and] at hK ⊢; exact hK
  · have e1 : ¬ (1 : Int) ≤ ip / 16777216 := by omega
    simp only [h1, e1, decide_false, cond_false, Bool.false_and] at hK ⊢; exact hK
theorem c_IsHost {ip : Int} {h : Hp} {K : Bool → Hp → Prop} (h0 : 0 ≤ ip) (h1 : ip < 4294967296) (hK : K (isHost ip) h) : C41 ip h K := by
  apply S41; unfold N41
  rw [Int.tdiv_eq_ediv_of_nonneg h0, wu32i (by omega) (by omega)]
  unfold isHost at hK
  by_cases h1 : ip / 16777216 ≥ 1
  · by_cases h2 : ip / 16777216 ≤ 223
    · have e1 : (1 : Int) ≤ ip / 16777216 := by omega
      have e3 : (ip / 16777216 != 127) = decide (ip / 16777216 ≠ 127) := by by_cases e : ip / 16777216 = 127 <;> simp [e]
      simp only [h1, h2, e1, decide_true, cond_true, Bool.true_and] at hK ⊢
      rw [e3]; exact hK
    · simp only [h1, h2, decide_true, decide_false, cond_true, cond_false, Bool.and_false, Bool.false_and] at hK ⊢; exact hK
  · have e1 : ¬ (1 : Int) ≤ ip / 16777216 := by omega
    simp only [h1, e1, decide_false, cond_false, Bool.false_and] at hK ⊢; exact hK

theorem c_group {a b c d e f : Int} {h : Hp} {K : Bool → Hp → Prop} (h0 : 0 ≤ a) (h1 : a < 256) (hK : ∀ h', Ext none' h h' → K (a % 2 == 1) h') : C36 a b c d e f h K := by
  apply S36; unfold N36
  intro b0 e0
  have hb : Blk (upd h b0 (.cells ⟨[.int .u8 a, .int .u8 b, .int .u8 c, .int .u8 d, .int .u8 e, .int .u8 f]⟩ 49)) b0 49 _ := Blk.upd_same
  simp only [hb.cell, List.getElem?_cons_zero, xI_some]
  have e1 := band_low (w := 8) (x := a) 1 h0 h1 (by omega)
  rw [show ((2 : Int) ^ 1 - 1) = 1 from rfl, show ((2 : Int) ^ 1) = 2 from rfl] at e1
  rw [e1, wu8i (by omega) (by omega)]
  exact hK _ (Ext.new e0)
theorem c_Group {a b c d e f : Int} {h : Hp} {K : Bool → Hp → Prop} (h0 : 0 ≤ a) (hK : ∀ h', Ext none' h h' → K (a % 2 == 1) h') : C42 a b c d e f h K := by
  apply S42; unfold N42
  intro b0 e0
  have hb : Blk (upd h b0 (.cells ⟨[.int .u8 a, .int .u8 b, .int .u8 c, .int .u8 d, .int .u8 e, .int .u8 f]⟩ 49)) b0 49 _ := Blk.upd_same
  simp only [hb.cell, List.getElem?_cons_zero, xI_some]
  rw [Int.tmod_eq_emod_of_nonneg h0]
  exact hK _ (Ext.new e0)

theorem c_everyone {h : Hp} {K : Int → Int → Int → Int → Int → Int → Hp → Prop} (hK : ∀ h', Ext none' h h' → K 255 255 255 255 255 255 h') : C35 h K := by
  apply S35; unfold N35
  intro b0 e0
  have hs : Sat ([] ++ [Hw.was h, row b0 49 [.int .u8 0, .int .u8 0, .int .u8 0, .int .u8 0, .int .u8 0, .int .u8 0]]) _ := Sat.start.new e0 _
  revert hs
  generalize upd h b0 _ = h1
  intro hs
  simp only [add_bk]
  refine hs.st 1 rfl (by simp) rfl ?_
  intro h2 hs
  refine hs.st 1 rfl (by simp) rfl ?_
  intro h3 hs
  refine hs.st 1 rfl (by simp) rfl ?_
  intro h4 hs
  refine hs.st 1 rfl (by simp) rfl ?_
  intro h5 hs
  refine hs.st 1 rfl (by simp) rfl ?_
  intro h6 hs
  refine hs.st 1 rfl (by simp) rfl ?_
  intro h7 hs
  have hb : Blk h7 b0 49 [.int .u8 255, .int .u8 255, .int .u8 255, .int .u8 255, .int .u8 255, .int .u8 255] := hs.blk 1 rfl
  have hw : Ext none' h h7 := hs.was 0 rfl
  simp only [hb.cell, List.getElem?_cons_zero, List.getElem?_cons_succ, xI_some]
  exact hK _ hw

/-- a book's mark -/
def markN (list place : Nat) : Nat := (list * 7 + place * 13 + list / 256 + 1) % 256
theorem c_mark {x y : Nat} {h : Hp} {K : Int → Hp → Prop} (hx : x ≤ 140737488355328) (hy : y ≤ 140737488355328) (hK : K ((markN x y : Nat) : Int) h) : C45 x y h K := by
  apply S45; unfold N45
  rw [Int.tdiv_eq_ediv_of_nonneg (by omega), wi64i (x := (x : Int) * 7) (by omega) (by omega), wi64i (x := (y : Int) * 13) (by omega) (by omega), wi64i (x := (x : Int) / 256) (by omega) (by omega), wi64i (x := (x : Int) * 7 + (y : Int) * 13) (by omega) (by omega), wi64i (x := (x : Int) * 7 + (y : Int) * 13 + (x : Int) / 256) (by omega) (by omega), wi64i (by omega) (by omega), wu8]
  have : ((x : Int) * 7 + (y : Int) * 13 + (x : Int) / 256 + 1) % 256 = ((markN x y : Nat) : Int) := by unfold markN; omega
  rw [this]; exact hK

end Go.Proofs.YtlioifgejijcoaaDoor

set_option linter.unusedVariables false
set_option maxRecDepth 100000
namespace Go.Proofs.YtlioifgejijcoaaDoor
open Go Go.Hw
/-! ### 16 slipway/octet.Put -/
noncomputable def B16 : Code := match Tryd.f16.body with | some c => c | none => .skip
def N16_l0_b (x0_n : Int) (Φ : Sl → Int → Hp → Prop) (x5_b : Sl) (x6_i : Int) (h : Hp) (K_e0 : Sl → Hp → Prop) : Prop :=
  bif (decide (x6_i ≥ 0)) then
    bif decide ((IntKind.wrap .i64 (8 * x6_i)) < 0) then False else
    nw h (.cells ⟨[.int .u8 (IntKind.wrap .u8 (Int.fdiv x0_n (2 ^ (min (IntKind.wrap .i64 (8 * x6_i)).toNat 64))))]⟩ 5) fun b0 h0 =>
    apK Tryd.prog 5 x5_b (.slice (some (bk b0)) 1 1) h0 fun s0 h1 =>
    Φ s0 (IntKind.wrap .i64 (x6_i - 1)) h1
  else
    K_e0 x5_b h
def N16_l0_B (x0_n : Int) (K_e0 : Sl → Hp → Prop) (s : Sg.T [(5, .c (.slice)), (6, .c (.int .i64))]) (h : Hp) (Φ : Sg.T [(5, .c (.slice)), (6, .c (.int .i64))] → Hp → Prop) : Prop :=
  N16_l0_b x0_n (fun x5_b x6_i h => Φ (x5_b, x6_i) h) s.1 s.2 h K_e0
def N16_l0 (x0_n : Int) (x5_b : Sl) (x6_i : Int) (h : Hp) (K_e0 : Sl → Hp → Prop) : Prop :=
  loopP (N16_l0_B x0_n K_e0) (x5_b, x6_i) h
noncomputable def N16_l0_t : Xf := loopT [(0, .c (.int .u64))] [(5, .c (.slice)), (6, .c (.int .i64))] (codeAt B16 [1, 1, 1, 0, 1, 0, 0]) fun F Q => N16_l0_B F (fun o0 h' => Q (.exit 0) (Sg.env [(5, .c (.slice))] o0) h')
theorem N16_l0_ok : Sound Tryd.prog Tryd.f16.ntmps N16_l0_t (codeAt B16 [1, 1, 1, 0, 1, 0]) := by
  refine loop_sound (fun e => match e with | .exit 0 => [5] | _ => []) (by kernel_rfl) ?_
  intro F Q s h Φ hb
  refine den_sound hE hm _ .leaf _ _ _ (annOk_leaf) ?_
  refine cast ?_ hb
  kernel_rfl
def N16 (x0 : Int) (x1 : Int) (h : Hp) (K : Sl → Hp → Prop) : Prop :=
  bif (decide (x1 < 1)) then
    K ⟨none, 0, 0⟩ h
  else
    bif (decide (x1 > 8)) then
      K ⟨none, 0, 0⟩ h
    else
      mkK Tryd.prog 5 0 x1 h fun s0 h0 =>
      N16_l0 x0 s0 (IntKind.wrap .i64 (x1 - 1)) h0
        (fun s1 h1 =>
          K s1 h1)
theorem S16 {x0 : Int} {x1 : Int} {h : Hp} {K : Sl → Hp → Prop} (hn : N16 x0 x1 h K) : C16 x0 x1 h K := by
  refine calls_of_D Tryd.func16 (c := B16) rfl (by kernel_rfl) ?_
  refine den_sound hE hm _ (.two .leaf (.two .leaf (.two .leaf (.two (.two .leaf (.one (.xf N16_l0_t))) .leaf)))) _ _ _ (⟨annOk_leaf, ⟨annOk_leaf, ⟨annOk_leaf, ⟨⟨annOk_leaf, N16_l0_ok⟩, annOk_leaf⟩⟩⟩⟩) ?_
  refine cast ?_ hn
  kernel_rfl
end Go.Proofs.YtlioifgejijcoaaDoor

set_option linter.unusedVariables false
set_option maxRecDepth 100000
namespace Go.Proofs.YtlioifgejijcoaaDoor
open Go Go.Hw
/-! ### 17 slipway/slipwayref01.Put -/
noncomputable def B17 : Code := match Tryd.f17.body with | some c => c | none => .skip
def N17_l0_b (x1_width : Int) (x5_out : Sl) (Φ : Int → Int → Hp → Prop) (x0_n : Int) (x6_i : Int) (h : Hp) (K_e0 : Hp → Prop) : Prop :=
  bif (decide (x6_i < x1_width)) then
    idx (IntKind.wrap .i64 ((IntKind.wrap .i64 (x1_width - 1)) - x6_i)) x5_out.n <|
    nn x5_out.p fun a0 =>
    st h (a0.add ((IntKind.wrap .i64 ((IntKind.wrap .i64 (x1_width - 1)) - x6_i)).toNat * 1)) (.int .u8 (IntKind.wrap .u8 (Int.tmod x0_n 256))) fun h0 =>
    Φ (IntKind.wrap .u64 (Int.tdiv x0_n 256)) (IntKind.wrap .i64 (x6_i + 1)) h0
  else
    K_e0 h
def N17_l0_B (x1_width : Int) (x5_out : Sl) (K_e0 : Hp → Prop) (s : Sg.T [(0, .c (.int .u64)), (6, .c (.int .i64))]) (h : Hp) (Φ : Sg.T [(0, .c (.int .u64)), (6, .c (.int .i64))] → Hp → Prop) : Prop :=
  N17_l0_b x1_width x5_out (fun x0_n x6_i h => Φ (x0_n, x6_i) h) s.1 s.2 h K_e0
def N17_l0 (x1_width : Int) (x5_out : Sl) (x0_n : Int) (x6_i : Int) (h : Hp) (K_e0 : Hp → Prop) : Prop :=
  loopP (N17_l0_B x1_width x5_out K_e0) (x0_n, x6_i) h
noncomputable def N17_l0_t : Xf := loopT [(1, .c (.int .i64)), (5, .c (.slice))] [(0, .c (.int .u64)), (6, .c (.int .i64))] (codeAt B17 [1, 1, 1, 0, 1, 0, 0]) fun F Q => N17_l0_B F.1 F.2 (fun h' => Q (.exit 0) (Sg.env [] ()) h')
theorem N17_l0_ok : Sound Tryd.prog Tryd.f17.ntmps N17_l0_t (codeAt B17 [1, 1, 1, 0, 1, 0]) := by
  refine loop_sound (fun e => match e with | .exit 0 => [] | _ => []) (by kernel_rfl) ?_
  intro F Q s h Φ hb
  refine den_sound hE hm _ .leaf _ _ _ (annOk_leaf) ?_
  refine cast ?_ hb
  kernel_rfl
def N17 (x0 : Int) (x1 : Int) (h : Hp) (K : Sl → Hp → Prop) : Prop :=
  bif (decide (x1 < 1)) then
    K ⟨none, 0, 0⟩ h
  else
    bif (decide (x1 > 8)) then
      K ⟨none, 0, 0⟩ h
    else
      mkK Tryd.prog 5 x1 x1 h fun s0 h0 =>
      N17_l0 x1 s0 x0 0 h0
        (fun h1 =>
          K s0 h1)
theorem S17 {x0 : Int} {x1 : Int} {h : Hp} {K : Sl → Hp → Prop} (hn : N17 x0 x1 h K) : C17 x0 x1 h K := by
  refine calls_of_D Tryd.func17 (c := B17) rfl (by kernel_rfl) ?_
  refine den_sound hE hm _ (.two .leaf (.two .leaf (.two .leaf (.two (.two .leaf (.one (.xf N17_l0_t))) .leaf)))) _ _ _ (⟨annOk_leaf, ⟨annOk_leaf, ⟨annOk_leaf, ⟨⟨annOk_leaf, N17_l0_ok⟩, annOk_leaf⟩⟩⟩⟩) ?_
  refine cast ?_ hn
  kernel_rfl
end Go.Proofs.YtlioifgejijcoaaDoor

set_option linter.unusedVariables false
set_option maxRecDepth 100000
namespace Go.Proofs.YtlioifgejijcoaaDoor
open Go Go.Hw
/-! ### 21 slipway/octet.Get -/
noncomputable def B21 : Code := match Tryd.f21.body with | some c => c | none => .skip
def N21_j0 (x0_b : Sl) (x1_at : Int) (x2_width : Int) (x11 : Bool) (h : Hp) (K_normal : Hp → Prop) (K_ret : Int → Int → Hp → Prop) : Prop :=
  bif x11 then
    K_ret 0 1 h
  else
    bif (decide (x1_at > ((x0_b.n : Nat) : Int))) then
      K_ret 0 5 h
    else
      bif (decide ((IntKind.wrap .i64 (((x0_b.n : Nat) : Int) - x1_at)) < x2_width)) then
        K_ret 0 5 h
      else
        K_normal h
noncomputable def N21_j0_t : Xf := pieceT [(0, .c (.slice)), (1, .c (.int .i64)), (2, .c (.int .i64)), (11, .c (.bool))] (codeAt B21 [1, 0, 0, 1]) fun x h Q => N21_j0 x.1 x.2.1 x.2.2.1 x.2.2.2 h (fun h' => Q .normal (Sg.env [] ()) h') (fun o0 o1 h' => Q .ret (Sg.env [(6, .c (.int .u64)), (7, .c (.int .i64))] (o0, o1)) h')
theorem N21_j0_ok : Sound Tryd.prog Tryd.f21.ntmps N21_j0_t (codeAt B21 [1, 0, 0, 1]) := by
  refine piece_sound (fun e => match e with | .normal => [] | .ret => [6, 7] | _ => []) ?_
  intro x h Q hb
  refine den_sound hE hm _ .leaf _ _ _ (annOk_leaf) ?_
  refine cast ?_ hb
  kernel_rfl
def N21_l2_b (x40 : Sl) (x41 : Int) (Φ : Int → Int → Hp → Prop) (x8_n : Int) (x42 : Int) (h : Hp) (K_e1 : Int → Hp → Prop) : Prop :=
  bif (decide (x42 < x41)) then
    idx x42 x40.n <|
    nn x40.p fun a0 =>
    xI .u8 (cell h (a0.add (x42.toNat * 1))) fun n0 =>
    Φ (IntKind.wrap .u64 (BitVec.ofInt 64 (IntKind.wrap .u64 (x8_n * 2 ^ 8)) ||| BitVec.ofInt 64 (IntKind.wrap .u64 n0)).toNat) (IntKind.wrap .i64 (x42 + 1)) h
  else
    K_e1 x8_n h
def N21_l2_B (x40 : Sl) (x41 : Int) (K_e1 : Int → Hp → Prop) (s : Sg.T [(8, .c (.int .u64)), (42, .c (.int .i64))]) (h : Hp) (Φ : Sg.T [(8, .c (.int .u64)), (42, .c (.int .i64))] → Hp → Prop) : Prop :=
  N21_l2_b x40 x41 (fun x8_n x42 h => Φ (x8_n, x42) h) s.1 s.2 h K_e1
def N21_l2 (x40 : Sl) (x41 : Int) (x8_n : Int) (x42 : Int) (h : Hp) (K_e1 : Int → Hp → Prop) : Prop :=
  loopP (N21_l2_B x40 x41 K_e1) (x8_n, x42) h
noncomputable def N21_l2_t : Xf := loopT [(40, .c (.slice)), (41, .c (.int .i64))] [(8, .c (.int .u64)), (42, .c (.int .i64))] (codeAt B21 [1, 1, 1, 0, 1, 0, 0]) fun F Q => N21_l2_B F.1 F.2 (fun o0 h' => Q (.exit 1) (Sg.env [(8, .c (.int .u64))] o0) h')
theorem N21_l2_ok : Sound Tryd.prog Tryd.f21.ntmps N21_l2_t (codeAt B21 [1, 1, 1, 0, 1, 0]) := by
  refine loop_sound (fun e => match e with | .exit 1 => [8] | _ => []) (by kernel_rfl) ?_
  intro F Q s h Φ hb
  refine den_sound hE hm _ .leaf _ _ _ (annOk_leaf) ?_
  refine cast ?_ hb
  kernel_rfl
def N21_j1 (x0_b : Sl) (x1_at : Int) (x2_width : Int) (h : Hp) (K_ret : Int → Int → Hp → Prop) : Prop :=
  bd (IntKind.wrap .i64 (x1_at + x2_width)) x0_b.c fun k0 =>
  bd x1_at k0 fun k1 =>
  N21_l2 ⟨sadr x0_b.p x0_b.c k1 1, k0 - k1, x0_b.c - k1⟩ ((k0 - k1 : Nat) : Int) 0 0 h
    (fun n0 h0 =>
      K_ret n0 0 h0)
noncomputable def N21_j1_t : Xf := pieceT [(0, .c (.slice)), (1, .c (.int .i64)), (2, .c (.int .i64))] (codeAt B21 [1, 1]) fun x h Q => N21_j1 x.1 x.2.1 x.2.2 h (fun o0 o1 h' => Q .ret (Sg.env [(6, .c (.int .u64)), (7, .c (.int .i64))] (o0, o1)) h')
theorem N21_j1_ok : Sound Tryd.prog Tryd.f21.ntmps N21_j1_t (codeAt B21 [1, 1]) := by
  refine piece_sound (fun e => match e with | .ret => [6, 7] | _ => []) ?_
  intro x h Q hb
  refine den_sound hE hm _ (.two .leaf (.two (.two .leaf (.one (.xf N21_l2_t))) .leaf)) _ _ _ (⟨annOk_leaf, ⟨⟨annOk_leaf, N21_l2_ok⟩, annOk_leaf⟩⟩) ?_
  refine cast ?_ hb
  kernel_rfl
def N21 (x0 : Sl) (x1 : Int) (x2 : Int) (h : Hp) (K : Int → Int → Hp → Prop) : Prop :=
  bif (decide (x2 < 1)) then
    N21_j0 x0 x1 x2 true h
      (fun h0 =>
        N21_j1 x0 x1 x2 h0
          (fun n0 n1 h1 =>
            K n0 n1 h1))
      (fun n2 n3 h2 =>
        K n2 n3 h2)
  else
    bif (decide (x2 > 8)) then
      N21_j0 x0 x1 x2 true h
        (fun h3 =>
          N21_j1 x0 x1 x2 h3
            (fun n4 n5 h4 =>
              K n4 n5 h4))
        (fun n6 n7 h5 =>
          K n6 n7 h5)
    else
      N21_j0 x0 x1 x2 (decide (x1 < 0)) h
        (fun h6 =>
          N21_j1 x0 x1 x2 h6
            (fun n8 n9 h7 =>
              K n8 n9 h7))
        (fun n10 n11 h8 =>
          K n10 n11 h8)
theorem S21 {x0 : Sl} {x1 : Int} {x2 : Int} {h : Hp} {K : Int → Int → Hp → Prop} (hn : N21 x0 x1 x2 h K) : C21 x0 x1 x2 h K := by
  refine calls_of_D Tryd.func21 (c := B21) rfl (by kernel_rfl) ?_
  refine den_sound hE hm _ (.two .leaf (.two (.one (.two .leaf (.xf N21_j0_t))) (.xf N21_j1_t))) _ _ _ (⟨annOk_leaf, ⟨⟨annOk_leaf, N21_j0_ok⟩, N21_j1_ok⟩⟩) ?_
  refine cast ?_ hn
  kernel_rfl
end Go.Proofs.YtlioifgejijcoaaDoor

set_option linter.unusedVariables false
set_option maxRecDepth 100000
namespace Go.Proofs.YtlioifgejijcoaaDoor
open Go Go.Hw
/-! ### 22 slipway/slipwayref01.Get -/
noncomputable def B22 : Code := match Tryd.f22.body with | some c => c | none => .skip
def N22_l0_b (x0_b : Sl) (x1_at : Int) (x2_width : Int) (Φ : Int → Int → Hp → Prop) (x8_n : Int) (x9_i : Int) (h : Hp) (K_e0 : Int → Hp → Prop) : Prop :=
  bif (decide (x9_i < x2_width)) then
    idx (IntKind.wrap .i64 (x1_at + x9_i)) x0_b.n <|
    nn x0_b.p fun a0 =>
    xI .u8 (cell h (a0.add ((IntKind.wrap .i64 (x1_at + x9_i)).toNat * 1))) fun n0 =>
    Φ (IntKind.wrap .u64 ((IntKind.wrap .u64 (x8_n * 256)) + (IntKind.wrap .u64 n0))) (IntKind.wrap .i64 (x9_i + 1)) h
  else
    K_e0 x8_n h
def N22_l0_B (x0_b : Sl) (x1_at : Int) (x2_width : Int) (K_e0 : Int → Hp → Prop) (s : Sg.T [(8, .c (.int .u64)), (9, .c (.int .i64))]) (h : Hp) (Φ : Sg.T [(8, .c (.int .u64)), (9, .c (.int .i64))] → Hp → Prop) : Prop :=
  N22_l0_b x0_b x1_at x2_width (fun x8_n x9_i h => Φ (x8_n, x9_i) h) s.1 s.2 h K_e0
def N22_l0 (x0_b : Sl) (x1_at : Int) (x2_width : Int) (x8_n : Int) (x9_i : Int) (h : Hp) (K_e0 : Int → Hp → Prop) : Prop :=
  loopP (N22_l0_B x0_b x1_at x2_width K_e0) (x8_n, x9_i) h
noncomputable def N22_l0_t : Xf := loopT [(0, .c (.slice)), (1, .c (.int .i64)), (2, .c (.int .i64))] [(8, .c (.int .u64)), (9, .c (.int .i64))] (codeAt B22 [1, 1, 1, 1, 0, 1, 0, 0]) fun F Q => N22_l0_B F.1 F.2.1 F.2.2 (fun o0 h' => Q (.exit 0) (Sg.env [(8, .c (.int .u64))] o0) h')
theorem N22_l0_ok : Sound Tryd.prog Tryd.f22.ntmps N22_l0_t (codeAt B22 [1, 1, 1, 1, 0, 1, 0]) := by
  refine loop_sound (fun e => match e with | .exit 0 => [8] | _ => []) (by kernel_rfl) ?_
  intro F Q s h Φ hb
  refine den_sound hE hm _ .leaf _ _ _ (annOk_leaf) ?_
  refine cast ?_ hb
  kernel_rfl
def N22 (x0 : Sl) (x1 : Int) (x2 : Int) (h : Hp) (K : Int → Int → Hp → Prop) : Prop :=
  bif (decide (x2 < 1)) then
    K 0 1 h
  else
    bif (decide (x2 > 8)) then
      K 0 1 h
    else
      bif (decide (x1 < 0)) then
        K 0 1 h
      else
        bif (decide (x1 > ((x0.n : Nat) : Int))) then
          K 0 5 h
        else
          bif (decide ((IntKind.wrap .i64 (((x0.n : Nat) : Int) - x1)) < x2)) then
            K 0 5 h
          else
            N22_l0 x0 x1 x2 0 0 h
              (fun n0 h0 =>
                K n0 0 h0)
theorem S22 {x0 : Sl} {x1 : Int} {x2 : Int} {h : Hp} {K : Int → Int → Hp → Prop} (hn : N22 x0 x1 x2 h K) : C22 x0 x1 x2 h K := by
  refine calls_of_D Tryd.func22 (c := B22) rfl (by kernel_rfl) ?_
  refine den_sound hE hm _ (.two .leaf (.two .leaf (.two .leaf (.two .leaf (.two (.two .leaf (.one (.xf N22_l0_t))) .leaf))))) _ _ _ (⟨annOk_leaf, ⟨annOk_leaf, ⟨annOk_leaf, ⟨annOk_leaf, ⟨⟨annOk_leaf, N22_l0_ok⟩, annOk_leaf⟩⟩⟩⟩⟩) ?_
  refine cast ?_ hn
  kernel_rfl
end Go.Proofs.YtlioifgejijcoaaDoor

/-
  Numbers as bytes: Put and Get, the program's and the document's.
-/
set_option linter.unusedSimpArgs false
set_option linter.unusedVariables false
namespace Go.Proofs.YtlioifgejijcoaaDoor
open Go Go.Hw

theorem y_a : Tryd.prog.cellsOf 5 = 1 := by kernel_rfl
theorem y_z : zc Tryd.prog 5 = [.int .u8 0] := by kernel_rfl
theorem y_zl : (zc Tryd.prog 5).length = 1 := by rw [y_z]; rfl
theorem y_b : Tryd.prog.bytesOf 5 = 1 := by kernel_rfl
theorem y_zeros (n : Nat) : (zeros Tryd.prog 5 n).toList = bc (List.replicate n 0) := by
  unfold zeros Builtin.zeroCells
  rw [y_z]
  simp only [bc, List.map_replicate]
  apply List.ext_getElem
  · simp
  · intro i h1 h2
    simp only [List.getElem_replicate]
    have : i % 1 = 0 := Nat.mod_one i
    simp [this]

/-- the lowest w bytes of a number, the highest first -/
def be (n : Nat) : Nat → List UInt8
  | 0 => []
  | w + 1 => UInt8.ofNat (n / 256 ^ w % 256) :: be n w
theorem be_len (n w : Nat) : (be n w).length = w := by induction w with | zero => rfl | succ w ih => simp [be, ih]
def putL (n : Nat) (w : Int) : List UInt8 := if w < 1 ∨ w > 8 then [] else be n w.toNat
theorem byte_of (n : Nat) : (((UInt8.ofNat (n % 256)).toNat : Nat) : Int) = ((n % 256 : Nat) : Int) := by rw [UInt8.toNat_ofNat']; omega

theorem c_put {n w : Int} {h : Hp} {K : Sl → Hp → Prop} (h0 : 0 ≤ n) (h1 : n < 18446744073709551616) (hK : ∀ h' s, NewO h h' 5 1 s (bc (putL n.toNat w)) → K s h') : C16 n w h K := by
  apply S16; unfold N16
  by_cases c1 : w < 1
  · simp only [c1, decide_true, cond_true]
    have e : putL n.toNat w = [] := by unfold putL; rw [if_pos (.inl c1)]
    rw [e] at hK
    exact hK h _ NewO.nil
  · by_cases c2 : w > 8
    · simp only [c1, c2, decide_true, decide_false, cond_true, cond_false]
      have e : putL n.toNat w = [] := by unfold putL; rw [if_pos (.inr c2)]
      rw [e] at hK
      exact hK h _ NewO.nil
    · simp only [c1, c2, decide_false, cond_false]
      have e : putL n.toNat w = be n.toNat w.toNat := by unfold putL; rw [if_neg (by omega)]
      rw [e] at hK
      refine (Sat.start (h := h)).mk (sz := 1) y_zl (by omega) (by omega) (by rw [y_b]; omega) (by omega) ?_
      intro s hb hn hc hs
      have z0 : (zeros Tryd.prog 5 (0 : Int).toNat).toList = bc [] := by rw [show (0 : Int).toNat = 0 from rfl, y_zeros]; rfl
      rw [z0] at hs
      unfold N16_l0
      refine loopP_inv (fun (x : Sl × Int) hc => ∃ (j : Nat) (c : List UInt8), x.2 = (j : Int) - 1 ∧ j ≤ w.toNat ∧ c ++ be n.toNat j = be n.toNat w.toNat ∧ x.1.n = c.length ∧ Sat ([] ++ [Hw.was h, Hw.own 5 1 x.1 (bc c)]) hc) (fun x _ => (x.2 + 1).toNat) ?_
        ⟨w.toNat, [], by rw [wi64i (by omega) (by omega)]; omega, Nat.le_refl _, rfl, by simpa using hn, hs⟩
      rintro ⟨t, x⟩ hc ⟨j, c, hx, hj, hcj, htn, hs⟩
      simp only at hx hs htn
      subst hx
      unfold N16_l0_B N16_l0_b
      dsimp only
      have clen : c.length + j = w.toNat := by have := congrArg List.length hcj; simpa [be_len] using this
      cases j with
      | zero =>
        simp only [Int.natCast_zero, show decide ((0 : Int) - 1 ≥ 0) = false from rfl, cond_false]
        refine hK _ t ?_
        have : c = be n.toNat w.toNat := by simpa [be] using hcj
        rw [← this]
        exact hs.newO 0 1 rfl rfl (by omega)
      | succ j =>
        have ex : ((j + 1 : Nat) : Int) - 1 = (j : Int) := by omega
        rw [ex]
        simp only [show decide ((j : Int) ≥ 0) = true by simp, cond_true]
        have e8 : IntKind.wrap .i64 (8 * (j : Int)) = ((8 * j : Nat) : Int) := by rw [wi64i (by omega) (by omega)]; omega
        have em : min (((8 * j : Nat) : Int)).toNat 64 = 8 * j := by omega
        rw [e8, em]
        simp only [show decide (((8 * j : Nat) : Int) < 0) = false by simp; omega, cond_false]
        have ep : (2 : Int) ^ (8 * j) = ((256 ^ j : Nat) : Int) := by rw [Int.pow_mul, show (2 : Int) ^ 8 = 256 from rfl, Int.natCast_pow]; rfl
        have ev : IntKind.wrap .u8 (Int.fdiv n (2 ^ (8 * j))) = (((UInt8.ofNat (n.toNat / 256 ^ j % 256)).toNat : Nat) : Int) := by
          rw [byte_of, ep, Int.fdiv_eq_ediv_of_nonneg _ (Int.natCast_nonneg _), wu8]
          obtain ⟨m, rfl⟩ := Int.eq_ofNat_of_zero_le h0
          simp only [Int.toNat_natCast]
          omega
        rw [ev]
        refine hs.push 1 rfl (k := 1) y_a y_zl rfl (by intro v hv; simp at hv; subst hv; rfl) (by rw [y_b]; omega) ?_
        intro s' h' hs' hn'
        have ew : IntKind.wrap .i64 ((j : Int) - 1) = (j : Int) - 1 := wi64i (by omega) (by omega)
        rw [ew]
        have ec : bc c ++ [Value.int .u8 (((UInt8.ofNat (n.toNat / 256 ^ j % 256)).toNat : Nat) : Int)] = bc (c ++ [UInt8.ofNat (n.toNat / 256 ^ j % 256)]) := by rw [bc_app]; rfl
        rw [ec] at hs'
        refine ⟨⟨j, _, rfl, by omega, ?_, ?_, hs'⟩, ?_⟩
        · rw [← hcj]; simp [be]
        · rw [hn', htn]; simp
        · show ((j : Int) - 1 + 1).toNat < ((j : Int) + 1).toNat; omega

theorem put_step (q : Nat) : IntKind.wrap .u8 (Int.tmod (q : Int) 256) = (((UInt8.ofNat (q % 256)).toNat : Nat) : Int) := by
  rw [byte_of, Int.tmod_eq_emod_of_nonneg (by omega), wu8]; omega
theorem put_next {q : Nat} (h : q < 18446744073709551616) : IntKind.wrap .u64 (Int.tdiv (q : Int) 256) = ((q / 256 : Nat) : Int) := by
  rw [Int.tdiv_eq_ediv_of_nonneg (by omega), wu64i (by omega) (by omega)]; omega
theorem c_Put {n w : Int} {h : Hp} {K : Sl → Hp → Prop} (h0 : 0 ≤ n) (h1 : n < 18446744073709551616) (hK : ∀ h' s, NewO h h' 5 1 s (bc (putL n.toNat w)) → K s h') : C17 n w h K := by
  apply S17; unfold N17
  by_cases c1 : w < 1
  · simp only [c1, decide_true, cond_true]
    have e : putL n.toNat w = [] := by unfold putL; rw [if_pos (.inl c1)]
    rw [e] at hK
    exact hK h _ NewO.nil
  · by_cases c2 : w > 8
    · simp only [c1, c2, decide_true, decide_false, cond_true, cond_false]
      have e : putL n.toNat w = [] := by unfold putL; rw [if_pos (.inr c2)]
      rw [e] at hK
      exact hK h _ NewO.nil
    · simp only [c1, c2, decide_false, cond_false]
      have e : putL n.toNat w = be n.toNat w.toNat := by unfold putL; rw [if_neg (by omega)]
      rw [e] at hK
      refine (Sat.start (h := h)).mk (sz := 1) y_zl (by omega) (by omega) (by rw [y_b]; omega) (by omega) ?_
      intro s hb hn hc hs
      rw [y_zeros] at hs
      unfold N17_l0
      refine loopP_inv (fun (x : Int × Int) hc => ∃ i : Nat, x.2 = i ∧ i ≤ w.toNat ∧ x.1 = ((n.toNat / 256 ^ i : Nat) : Int) ∧ Sat ([] ++ [Hw.was h, Hw.own 5 1 s (bc (List.replicate (w.toNat - i) 0 ++ be n.toNat i))]) hc) (fun x _ => w.toNat - x.2.toNat) ?_
        ⟨0, rfl, Nat.zero_le _, by simp; omega, by simpa [be] using hs⟩
      rintro ⟨m, x⟩ hc ⟨i, hx, hi, hm, hs⟩
      simp only at hx hm
      subst hx; subst hm
      unfold N17_l0_B N17_l0_b
      dsimp only
      by_cases hlt : i < w.toNat
      · have : decide ((i : Int) < w) = true := by simp; omega
        rw [this, cond_true]
        have e1 : IntKind.wrap .i64 (IntKind.wrap .i64 (w - 1) - (i : Int)) = ((w.toNat - 1 - i : Nat) : Int) := by rw [wi64i (x := w - 1) (by omega) (by omega), wi64i (by omega) (by omega)]; omega
        rw [e1]
        refine hs.stAt (k := w.toNat - 1 - i) 1 rfl rfl (by simp [be_len]; omega) rfl ?_
        · intro h' hs'
          have e2 := put_step (n.toNat / 256 ^ i)
          rw [e2] at hs'
          have e3 : (bc (List.replicate (w.toNat - i) 0 ++ be n.toNat i)).set (w.toNat - 1 - i) (.int .u8 (((UInt8.ofNat (n.toNat / 256 ^ i % 256)).toNat : Nat) : Int)) = bc (List.replicate (w.toNat - (i + 1)) 0 ++ be n.toNat (i + 1)) := by
            rw [← bc_set]
            congr 1
            have : w.toNat - i = (w.toNat - 1 - i) + 1 := by omega
            rw [this, List.replicate_succ', List.append_assoc, List.set_append_right _ _ (by simp)]
            simp [be, show w.toNat - (i + 1) = w.toNat - 1 - i by omega]
          have hs2 : Sat ([] ++ [Hw.was h, Hw.own 5 1 s (bc (List.replicate (w.toNat - (i + 1)) 0 ++ be n.toNat (i + 1)))]) h' := by rw [← e3]; exact hs'
          have e4 : IntKind.wrap .u64 (Int.tdiv ((n.toNat / 256 ^ i : Nat) : Int) 256) = ((n.toNat / 256 ^ (i + 1) : Nat) : Int) := by
            have hle : n.toNat / 256 ^ i ≤ n.toNat := Nat.div_le_self _ _
            rw [put_next (by omega), Nat.div_div_eq_div_mul, ← Nat.pow_succ]
          rw [nat_succ64 (by omega), e4]
          exact ⟨⟨i + 1, rfl, hlt, rfl, hs2⟩, by show w.toNat - (((i + 1 : Nat) : Int)).toNat < w.toNat - ((i : Nat) : Int).toNat; omega⟩
      · have : decide ((i : Int) < w) = false := by simp; omega
        rw [this, cond_false]
        have : i = w.toNat := by omega
        subst this
        refine hK _ s ?_
        have := hs.newO 0 1 rfl rfl (by omega)
        simpa using this

/-! ### Get -/
def nat256 (l : List UInt8) : Nat := l.foldl (fun a b => a * 256 + b.toNat) 0
theorem nat256_snoc (l : List UInt8) (b : UInt8) : nat256 (l ++ [b]) = nat256 l * 256 + b.toNat := by simp [nat256]
theorem nat256_lt (l : List UInt8) : nat256 l < 256 ^ l.length := by
  have key : ∀ (l : List UInt8) (a : Nat), l.foldl (fun a b => a * 256 + b.toNat) a < (a + 1) * 256 ^ l.length := by
    intro l
    induction l with
    | nil => intro a; simp
    | cons b l ih =>
      intro a
      have hb := b.toNat_lt
      have h1 := ih (a * 256 + b.toNat)
      have h2 : (a * 256 + b.toNat + 1) * 256 ^ l.length ≤ ((a + 1) * 256) * 256 ^ l.length := Nat.mul_le_mul_right _ (by omega)
      simp only [List.foldl_cons, List.length_cons]
      rw [Nat.pow_succ, Nat.mul_comm (256 ^ l.length) 256, ← Nat.mul_assoc]
      omega
  have := key l 0
  unfold nat256; omega
def getV (l : List UInt8) (at_ w : Int) : Nat := if w < 1 ∨ w > 8 ∨ at_ < 0 then 0 else if at_ > l.length ∨ l.length - at_ < w then 0 else nat256 ((l.drop at_.toNat).take w.toNat)
def getE (l : List UInt8) (at_ w : Int) : Int := if w < 1 ∨ w > 8 ∨ at_ < 0 then 1 else if at_ > l.length ∨ l.length - at_ < w then 5 else 0

theorem pow256_le {k : Nat} (hk : k ≤ 7) : 256 ^ k ≤ 72057594037927936 := by
  have : 256 ^ k ≤ 256 ^ 7 := Nat.pow_le_pow_right (by omega) hk
  exact this
/-- one round of reading -/
theorem get_step {m : Nat} {b : UInt8} (hm : m < 72057594037927936) : IntKind.wrap .u64 (BitVec.ofInt 64 (IntKind.wrap .u64 ((m : Int) * 2 ^ 8)) ||| BitVec.ofInt 64 (IntKind.wrap .u64 (b.toNat : Int))).toNat = ((m * 256 + b.toNat : Nat) : Int) := by
  have hb := b.toNat_lt
  rw [wu64i (x := (m : Int) * 2 ^ 8) (by omega) (by omega), wu64i (x := (b.toNat : Int)) (by omega) (by omega)]
  have := bor_low (w := 64) (x := (m : Int)) (y := (b.toNat : Int)) 8 (by omega) (by omega) (by omega) (by omega) (by omega)
  rw [this, wu64i (by omega) (by omega)]; omega

theorem c_get {s : Sl} {l : List UInt8} {at_ w : Int} {h : Hp} {K : Int → Int → Hp → Prop} (H : RdB h s l) (hl : l.length ≤ 140737488355328) (hK : K (getV l at_ w : Nat) (getE l at_ w) h) : C21 s at_ w h K := by
  apply S21; unfold N21
  have hn := H.n
  have hc := H.c
  by_cases c1 : w < 1
  · have e1 : getV l at_ w = 0 := by unfold getV; rw [if_pos (.inl c1)]
    have e2 : getE l at_ w = 1 := by unfold getE; rw [if_pos (.inl c1)]
    simp only [c1, decide_true, cond_true, N21_j0]
    rw [e1, e2] at hK; exact hK
  · by_cases c2 : w > 8
    · have e1 : getV l at_ w = 0 := by unfold getV; rw [if_pos (.inr (.inl c2))]
      have e2 : getE l at_ w = 1 := by unfold getE; rw [if_pos (.inr (.inl c2))]
      simp only [c1, c2, decide_true, decide_false, cond_true, cond_false, N21_j0]
      rw [e1, e2] at hK; exact hK
    · by_cases c3 : at_ < 0
      · have e1 : getV l at_ w = 0 := by unfold getV; rw [if_pos (.inr (.inr c3))]
        have e2 : getE l at_ w = 1 := by unfold getE; rw [if_pos (.inr (.inr c3))]
        simp only [c1, c2, c3, decide_true, decide_false, cond_true, cond_false, N21_j0]
        rw [e1, e2] at hK; exact hK
      · simp only [c1, c2, c3, decide_false, cond_false, N21_j0]
        rw [hn]
        by_cases c4 : at_ > (l.length : Int)
        · have e1 : getV l at_ w = 0 := by unfold getV; rw [if_neg (by omega), if_pos (.inl c4)]
          have e2 : getE l at_ w = 5 := by unfold getE; rw [if_neg (by omega), if_pos (.inl c4)]
          simp only [c4, decide_true, cond_true]
          rw [e1, e2] at hK; exact hK
        · simp only [c4, decide_false, cond_false]
          rw [wi64i (x := (l.length : Int) - at_) (by omega) (by omega)]
          by_cases c5 : (l.length : Int) - at_ < w
          · have e1 : getV l at_ w = 0 := by unfold getV; rw [if_neg (by omega), if_pos (.inr c5)]
            have e2 : getE l at_ w = 5 := by unfold getE; rw [if_neg (by omega), if_pos (.inr c5)]
            simp only [c5, decide_true, cond_true]
            rw [e1, e2] at hK; exact hK
          · have e1 : getV l at_ w = nat256 ((l.drop at_.toNat).take w.toNat) := by unfold getV; rw [if_neg (by omega), if_neg (by omega)]
            have e2 : getE l at_ w = 0 := by unfold getE; rw [if_neg (by omega), if_neg (by omega)]
            simp only [c5, decide_false, cond_false, N21_j1]
            rw [e1, e2] at hK
            rw [wi64i (x := at_ + w) (by omega) (by omega)]
            refine bd_of (by omega) (by omega) ?_
            refine bd_of (by omega) (by omega) ?_
            have hsub := H.sub (lo := at_.toNat) (hi := (at_ + w).toNat) (by omega) (by omega)
            have ed : (at_ + w).toNat - at_.toNat = w.toNat := by omega
            rw [ed] at hsub ⊢
            generalize hm : (l.drop at_.toNat).take w.toNat = m at hsub hK
            have ml : m.length = w.toNat := by rw [← hm]; simp; omega
            unfold N21_l2
            refine loopP_inv (fun (x : Int × Int) hc => hc = h ∧ ∃ i : Nat, x.2 = i ∧ i ≤ m.length ∧ x.1 = ((nat256 (m.take i) : Nat) : Int)) (fun x _ => m.length - x.2.toNat) ?_ ⟨rfl, 0, rfl, Nat.zero_le _, rfl⟩
            rintro ⟨v, x⟩ hc2 ⟨rfl, i, hx, hi, hv⟩
            simp only at hx hv
            subst hx; subst hv
            unfold N21_l2_B N21_l2_b
            dsimp only
            by_cases hlt : i < m.length
            · have : decide ((i : Int) < ((w.toNat : Nat) : Int)) = true := by simp; omega
              rw [this, cond_true]
              refine hsub.at rfl hlt ?_
              have hb := nat256_lt (m.take i)
              have hp := pow256_le (k := (m.take i).length) (by simp; omega)
              rw [get_step (by omega), nat_succ64 (by omega), ← nat256_snoc]
              have et : m.take i ++ [m[i]] = m.take (i + 1) := by rw [List.take_append_getElem]
              rw [et]
              exact ⟨⟨rfl, i + 1, rfl, hlt, rfl⟩, by show m.length - (((i + 1 : Nat) : Int)).toNat < m.length - ((i : Nat) : Int).toNat; omega⟩
            · have : decide ((i : Int) < ((w.toNat : Nat) : Int)) = false := by simp; omega
              rw [this, cond_false]
              rw [List.take_of_length_le (by omega)]
              exact hK

theorem c_Get {s : Sl} {l : List UInt8} {at_ w : Int} {h : Hp} {K : Int → Int → Hp → Prop} (H : RdB h s l) (hl : l.length ≤ 140737488355328) (hK : K (getV l at_ w : Nat) (getE l at_ w) h) : C22 s at_ w h K := by
  apply S22; unfold N22
  have hn := H.n
  have hc := H.c
  by_cases c1 : w < 1
  · have e1 : getV l at_ w = 0 := by unfold getV; rw [if_pos (.inl c1)]
    have e2 : getE l at_ w = 1 := by unfold getE; rw [if_pos (.inl c1)]
    simp only [c1, decide_true, cond_true]
    rw [e1, e2] at hK; exact hK
  · by_cases c2 : w > 8
    · have e1 : getV l at_ w = 0 := by unfold getV; rw [if_pos (.inr (.inl c2))]
      have e2 : getE l at_ w = 1 := by unfold getE; rw [if_pos (.inr (.inl c2))]
      simp only [c1, c2, decide_true, decide_false, cond_true, cond_false]
      rw [e1, e2] at hK; exact hK
    · by_cases c3 : at_ < 0
      · have e1 : getV l at_ w = 0 := by unfold getV; rw [if_pos (.inr (.inr c3))]
        have e2 : getE l at_ w = 1 := by unfold getE; rw [if_pos (.inr (.inr c3))]
        simp only [c1, c2, c3, decide_true, decide_false, cond_true, cond_false]
        rw [e1, e2] at hK; exact hK
      · simp only [c1, c2, c3, decide_false, cond_false]
        rw [hn]
        by_cases c4 : at_ > (l.length : Int)
        · have e1 : getV l at_ w = 0 := by unfold getV; rw [if_neg (by omega), if_pos (.inl c4)]
          have e2 : getE l at_ w = 5 := by unfold getE; rw [if_neg (by omega), if_pos (.inl c4)]
          simp only [c4, decide_true, cond_true]
          rw [e1, e2] at hK; exact hK
        · simp only [c4, decide_false, cond_false]
          rw [wi64i (x := (l.length : Int) - at_) (by omega) (by omega)]
          by_cases c5 : (l.length : Int) - at_ < w
          · have e1 : getV l at_ w = 0 := by unfold getV; rw [if_neg (by omega), if_pos (.inr c5)]
            have e2 : getE l at_ w = 5 := by unfold getE; rw [if_neg (by omega), if_pos (.inr c5)]
            simp only [c5, decide_true, cond_true]
            rw [e1, e2] at hK; exact hK
          · have e1 : getV l at_ w = nat256 ((l.drop at_.toNat).take w.toNat) := by unfold getV; rw [if_neg (by omega), if_neg (by omega)]
            have e2 : getE l at_ w = 0 := by unfold getE; rw [if_neg (by omega), if_neg (by omega)]
            simp only [c5, decide_false, cond_false]
            rw [e1, e2] at hK
            generalize hm : (l.drop at_.toNat).take w.toNat = m at hK
            have ml : m.length = w.toNat := by rw [← hm]; simp; omega
            unfold N22_l0
            refine loopP_inv (fun (x : Int × Int) hc => hc = h ∧ ∃ i : Nat, x.2 = i ∧ i ≤ m.length ∧ x.1 = ((nat256 (m.take i) : Nat) : Int)) (fun x _ => m.length - x.2.toNat) ?_ ⟨rfl, 0, rfl, Nat.zero_le _, rfl⟩
            rintro ⟨v, x⟩ hc2 ⟨rfl, i, hx, hi, hv⟩
            simp only at hx hv
            subst hx; subst hv
            unfold N22_l0_B N22_l0_b
            dsimp only
            by_cases hlt : i < m.length
            · have : decide ((i : Int) < w) = true := by simp; omega
              rw [this, cond_true]
              rw [wi64i (x := at_ + (i : Int)) (by omega) (by omega)]
              refine H.at (i := at_.toNat + i) (by omega) (by omega) ?_
              have hb := nat256_lt (m.take i)
              have hp := pow256_le (k := (m.take i).length) (by simp; omega)
              have el : l[at_.toNat + i]'(by omega) = m[i] := by
                simp only [← hm, List.getElem_take, List.getElem_drop]
              have hu := (m[i]).toNat_lt
              rw [el, wu64i (x := (nat256 (m.take i) : Int) * 256) (by omega) (by omega), wu64i (x := (m[i].toNat : Int)) (by omega) (by omega), wu64i (by omega) (by omega), nat_succ64 (by omega)]
              have e3 : (nat256 (m.take i) : Int) * 256 + (m[i].toNat : Int) = ((nat256 (m.take (i + 1)) : Nat) : Int) := by
                rw [← List.take_append_getElem hlt, nat256_snoc]; omega
              rw [e3]
              exact ⟨⟨rfl, i + 1, rfl, hlt, rfl⟩, by show m.length - (((i + 1 : Nat) : Int)).toNat < m.length - ((i : Nat) : Int).toNat; omega⟩
            · have : decide ((i : Int) < w) = false := by simp; omega
              rw [this, cond_false]
              rw [List.take_of_length_le (by omega)]
              exact hK

end Go.Proofs.YtlioifgejijcoaaDoor

set_option linter.unusedVariables false
set_option maxRecDepth 100000
namespace Go.Proofs.YtlioifgejijcoaaDoor
open Go Go.Hw
/-! ### 25 slipway/octet.Sum -/
noncomputable def B25 : Code := match Tryd.f25.body with | some c => c | none => .skip
def N25_l1_b (x9 : Sl) (x10 : Int) (x11 : Int) (x15 : Sl) (x16 : Int) (Φ : Int → Int → Int → Hp → Prop) (x3_u : Int) (x4_n : Int) (x17 : Int) (h : Hp) (K_e2 : Int → Int → Hp → Prop) : Prop :=
  bif (decide (x17 < x16)) then
    idx x17 x15.n <|
    nn x15.p fun a0 =>
    xI .u8 (cell h (a0.add (x17.toNat * 1))) fun n0 =>
    bif ((Int.tmod x4_n 2) == 0) then
      Φ (IntKind.wrap .u64 (x3_u + (IntKind.wrap .u64 ((IntKind.wrap .u64 n0) * 2 ^ 8)))) (IntKind.wrap .i64 (x4_n + 1)) (IntKind.wrap .i64 (x17 + 1)) h
    else
      Φ (IntKind.wrap .u64 (x3_u + (IntKind.wrap .u64 n0))) (IntKind.wrap .i64 (x4_n + 1)) (IntKind.wrap .i64 (x17 + 1)) h
  else
    K_e2 x3_u x4_n h
def N25_l1_B (x9 : Sl) (x10 : Int) (x11 : Int) (x15 : Sl) (x16 : Int) (K_e2 : Int → Int → Hp → Prop) (s : Sg.T [(3, .c (.int .u64)), (4, .c (.int .i64)), (17, .c (.int .i64))]) (h : Hp) (Φ : Sg.T [(3, .c (.int .u64)), (4, .c (.int .i64)), (17, .c (.int .i64))] → Hp → Prop) : Prop :=
  N25_l1_b x9 x10 x11 x15 x16 (fun x3_u x4_n x17 h => Φ (x3_u, x4_n, x17) h) s.1 s.2.1 s.2.2 h K_e2
def N25_l1 (x9 : Sl) (x10 : Int) (x11 : Int) (x15 : Sl) (x16 : Int) (x3_u : Int) (x4_n : Int) (x17 : Int) (h : Hp) (K_e2 : Int → Int → Hp → Prop) : Prop :=
  loopP (N25_l1_B x9 x10 x11 x15 x16 K_e2) (x3_u, x4_n, x17) h
noncomputable def N25_l1_t : Xf := loopT [(9, .c (.slice)), (10, .c (.int .i64)), (11, .c (.int .i64)), (15, .c (.slice)), (16, .c (.int .i64))] [(3, .c (.int .u64)), (4, .c (.int .i64)), (17, .c (.int .i64))] (codeAt B25 [1, 1, 0, 1, 0, 0, 1, 1, 0, 0, 1, 0, 1, 0, 0]) fun F Q => N25_l1_B F.1 F.2.1 F.2.2.1 F.2.2.2.1 F.2.2.2.2 (fun o0 o1 h' => Q (.exit 2) (Sg.env [(3, .c (.int .u64)), (4, .c (.int .i64))] (o0, o1)) h')
theorem N25_l1_ok : Sound Tryd.prog Tryd.f25.ntmps N25_l1_t (codeAt B25 [1, 1, 0, 1, 0, 0, 1, 1, 0, 0, 1, 0, 1, 0]) := by
  refine loop_sound (fun e => match e with | .exit 2 => [3, 4] | _ => []) (by kernel_rfl) ?_
  intro F Q s h Φ hb
  refine den_sound hE hm _ .leaf _ _ _ (annOk_leaf) ?_
  refine cast ?_ hb
  kernel_rfl
def N25_l0_b (x9 : Sl) (x10 : Int) (Φ : Int → Int → Int → Hp → Prop) (x3_u : Int) (x4_n : Int) (x11 : Int) (h : Hp) (K_e0 : Int → Hp → Prop) : Prop :=
  bif (decide (x11 < x10)) then
    idx x11 x9.n <|
    nn x9.p fun a0 =>
    xL (cell h (a0.add (x11.toNat * 1))) fun s0 =>
    N25_l1 x9 x10 x11 s0 ((s0.n : Nat) : Int) x3_u x4_n 0 h
      (fun n0 n1 h0 =>
        C46 n0 h0 fun n2 h1 =>
        Φ (IntKind.wrap .u64 n2) n1 (IntKind.wrap .i64 (x11 + 1)) h1)
  else
    K_e0 x3_u h
def N25_l0_B (x9 : Sl) (x10 : Int) (K_e0 : Int → Hp → Prop) (s : Sg.T [(3, .c (.int .u64)), (4, .c (.int .i64)), (11, .c (.int .i64))]) (h : Hp) (Φ : Sg.T [(3, .c (.int .u64)), (4, .c (.int .i64)), (11, .c (.int .i64))] → Hp → Prop) : Prop :=
  N25_l0_b x9 x10 (fun x3_u x4_n x11 h => Φ (x3_u, x4_n, x11) h) s.1 s.2.1 s.2.2 h K_e0
def N25_l0 (x9 : Sl) (x10 : Int) (x3_u : Int) (x4_n : Int) (x11 : Int) (h : Hp) (K_e0 : Int → Hp → Prop) : Prop :=
  loopP (N25_l0_B x9 x10 K_e0) (x3_u, x4_n, x11) h
noncomputable def N25_l0_t : Xf := loopT [(9, .c (.slice)), (10, .c (.int .i64))] [(3, .c (.int .u64)), (4, .c (.int .i64)), (11, .c (.int .i64))] (codeAt B25 [1, 1, 0, 1, 0, 0]) fun F Q => N25_l0_B F.1 F.2 (fun o0 h' => Q (.exit 0) (Sg.env [(3, .c (.int .u64))] o0) h')
theorem N25_l0_ok : Sound Tryd.prog Tryd.f25.ntmps N25_l0_t (codeAt B25 [1, 1, 0, 1, 0]) := by
  refine loop_sound (fun e => match e with | .exit 0 => [3] | _ => []) (by kernel_rfl) ?_
  intro F Q s h Φ hb
  refine den_sound hE hm _ (.two .leaf (.two .leaf (.two (.one (.two .leaf (.two (.two .leaf (.one (.xf N25_l1_t))) .leaf))) .leaf))) _ _ _ (⟨annOk_leaf, ⟨annOk_leaf, ⟨⟨annOk_leaf, ⟨⟨annOk_leaf, N25_l1_ok⟩, annOk_leaf⟩⟩, annOk_leaf⟩⟩⟩) ?_
  refine cast ?_ hb
  kernel_rfl
def N25 (x0 : Sl) (h : Hp) (K : Int → Hp → Prop) : Prop :=
  N25_l0 x0 ((x0.n : Nat) : Int) 0 0 0 h
    (fun n0 h0 =>
      C46 n0 h0 fun n1 h1 =>
      K (IntKind.wrap .u16 (BitVec.ofInt 16 65535 ^^^ BitVec.ofInt 16 n1).toNat) h1)
theorem S25 {x0 : Sl} {h : Hp} {K : Int → Hp → Prop} (hn : N25 x0 h K) : C25 x0 h K := by
  refine calls_of_D Tryd.func25 (c := B25) rfl (by kernel_rfl) ?_
  refine den_sound hE hm _ (.two .leaf (.two .leaf (.two (.two .leaf (.one (.xf N25_l0_t))) .leaf))) _ _ _ (⟨annOk_leaf, ⟨annOk_leaf, ⟨⟨annOk_leaf, N25_l0_ok⟩, annOk_leaf⟩⟩⟩) ?_
  refine cast ?_ hn
  kernel_rfl
end Go.Proofs.YtlioifgejijcoaaDoor

set_option linter.unusedVariables false
set_option maxRecDepth 100000
namespace Go.Proofs.YtlioifgejijcoaaDoor
open Go Go.Hw
/-! ### 26 slipway/slipwayref01.Sum -/
noncomputable def B26 : Code := match Tryd.f26.body with | some c => c | none => .skip
def N26_j2 (x0_parts : Sl) (x3_u : Int) (x4_high : Bool) (x5_i : Int) (x6_k : Int) (h : Hp) (K_normal : Int → Bool → Hp → Prop) : Prop :=
  C47 x3_u h fun n0 h0 =>
  K_normal n0 (!x4_high) h0
noncomputable def N26_j2_t : Xf := pieceT [(0, .c (.slice)), (3, .c (.int .u64)), (4, .c (.bool)), (5, .c (.int .i64)), (6, .c (.int .i64))] (codeAt B26 [1, 1, 1, 0, 1, 0, 0, 1, 0, 0, 1, 0, 0, 1, 0, 0, 1]) fun x h Q => N26_j2 x.1 x.2.1 x.2.2.1 x.2.2.2.1 x.2.2.2.2 h (fun o0 o1 h' => Q .normal (Sg.env [(3, .c (.int .u64)), (4, .c (.bool))] (o0, o1)) h')
theorem N26_j2_ok : Sound Tryd.prog Tryd.f26.ntmps N26_j2_t (codeAt B26 [1, 1, 1, 0, 1, 0, 0, 1, 0, 0, 1, 0, 0, 1, 0, 0, 1]) := by
  refine piece_sound (fun e => match e with | .normal => [3, 4] | _ => []) ?_
  intro x h Q hb
  refine den_sound hE hm _ .leaf _ _ _ (annOk_leaf) ?_
  refine cast ?_ hb
  kernel_rfl
def N26_l1_b (x0_parts : Sl) (x5_i : Int) (Φ : Int → Bool → Int → Hp → Prop) (x3_u : Int) (x4_high : Bool) (x6_k : Int) (h : Hp) (K_e2 : Int → Bool → Hp → Prop) : Prop :=
  idx x5_i x0_parts.n <|
  nn x0_parts.p fun a0 =>
  xL (cell h (a0.add (x5_i.toNat * 1))) fun s0 =>
  bif (decide (x6_k < ((s0.n : Nat) : Int))) then
    bif x4_high then
      idx x5_i x0_parts.n <|
      nn x0_parts.p fun a1 =>
      xL (cell h (a1.add (x5_i.toNat * 1))) fun s1 =>
      idx x6_k s1.n <|
      nn s1.p fun a2 =>
      xI .u8 (cell h (a2.add (x6_k.toNat * 1))) fun n0 =>
      N26_j2 x0_parts (IntKind.wrap .u64 (x3_u + (IntKind.wrap .u64 (256 * (IntKind.wrap .u64 n0))))) x4_high x5_i x6_k h
        (fun n1 b0 h0 =>
          Φ n1 b0 (IntKind.wrap .i64 (x6_k + 1)) h0)
    else
      idx x5_i x0_parts.n <|
      nn x0_parts.p fun a3 =>
      xL (cell h (a3.add (x5_i.toNat * 1))) fun s2 =>
      idx x6_k s2.n <|
      nn s2.p fun a4 =>
      xI .u8 (cell h (a4.add (x6_k.toNat * 1))) fun n2 =>
      N26_j2 x0_parts (IntKind.wrap .u64 (x3_u + (IntKind.wrap .u64 n2))) x4_high x5_i x6_k h
        (fun n3 b1 h1 =>
          Φ n3 b1 (IntKind.wrap .i64 (x6_k + 1)) h1)
  else
    K_e2 x3_u x4_high h
def N26_l1_B (x0_parts : Sl) (x5_i : Int) (K_e2 : Int → Bool → Hp → Prop) (s : Sg.T [(3, .c (.int .u64)), (4, .c (.bool)), (6, .c (.int .i64))]) (h : Hp) (Φ : Sg.T [(3, .c (.int .u64)), (4, .c (.bool)), (6, .c (.int .i64))] → Hp → Prop) : Prop :=
  N26_l1_b x0_parts x5_i (fun x3_u x4_high x6_k h => Φ (x3_u, x4_high, x6_k) h) s.1 s.2.1 s.2.2 h K_e2
def N26_l1 (x0_parts : Sl) (x5_i : Int) (x3_u : Int) (x4_high : Bool) (x6_k : Int) (h : Hp) (K_e2 : Int → Bool → Hp → Prop) : Prop :=
  loopP (N26_l1_B x0_parts x5_i K_e2) (x3_u, x4_high, x6_k) h
noncomputable def N26_l1_t : Xf := loopT [(0, .c (.slice)), (5, .c (.int .i64))] [(3, .c (.int .u64)), (4, .c (.bool)), (6, .c (.int .i64))] (codeAt B26 [1, 1, 1, 0, 1, 0, 0, 1, 0, 0, 1, 0, 0]) fun F Q => N26_l1_B F.1 F.2 (fun o0 o1 h' => Q (.exit 2) (Sg.env [(3, .c (.int .u64)), (4, .c (.bool))] (o0, o1)) h')
theorem N26_l1_ok : Sound Tryd.prog Tryd.f26.ntmps N26_l1_t (codeAt B26 [1, 1, 1, 0, 1, 0, 0, 1, 0, 0, 1, 0]) := by
  refine loop_sound (fun e => match e with | .exit 2 => [3, 4] | _ => []) (by kernel_rfl) ?_
  intro F Q s h Φ hb
  refine den_sound hE hm _ (.two .leaf (.two (.one (.two .leaf (.xf N26_j2_t))) .leaf)) _ _ _ (⟨annOk_leaf, ⟨⟨annOk_leaf, N26_j2_ok⟩, annOk_leaf⟩⟩) ?_
  refine cast ?_ hb
  kernel_rfl
def N26_l0_b (x0_parts : Sl) (Φ : Int → Bool → Int → Hp → Prop) (x3_u : Int) (x4_high : Bool) (x5_i : Int) (h : Hp) (K_e0 : Int → Hp → Prop) : Prop :=
  bif (decide (x5_i < ((x0_parts.n : Nat) : Int))) then
    N26_l1 x0_parts x5_i x3_u x4_high 0 h
      (fun n0 b0 h0 =>
        Φ n0 b0 (IntKind.wrap .i64 (x5_i + 1)) h0)
  else
    K_e0 x3_u h
def N26_l0_B (x0_parts : Sl) (K_e0 : Int → Hp → Prop) (s : Sg.T [(3, .c (.int .u64)), (4, .c (.bool)), (5, .c (.int .i64))]) (h : Hp) (Φ : Sg.T [(3, .c (.int .u64)), (4, .c (.bool)), (5, .c (.int .i64))] → Hp → Prop) : Prop :=
  N26_l0_b x0_parts (fun x3_u x4_high x5_i h => Φ (x3_u, x4_high, x5_i) h) s.1 s.2.1 s.2.2 h K_e0
def N26_l0 (x0_parts : Sl) (x3_u : Int) (x4_high : Bool) (x5_i : Int) (h : Hp) (K_e0 : Int → Hp → Prop) : Prop :=
  loopP (N26_l0_B x0_parts K_e0) (x3_u, x4_high, x5_i) h
noncomputable def N26_l0_t : Xf := loopT [(0, .c (.slice))] [(3, .c (.int .u64)), (4, .c (.bool)), (5, .c (.int .i64))] (codeAt B26 [1, 1, 1, 0, 1, 0, 0]) fun F Q => N26_l0_B F (fun o0 h' => Q (.exit 0) (Sg.env [(3, .c (.int .u64))] o0) h')
theorem N26_l0_ok : Sound Tryd.prog Tryd.f26.ntmps N26_l0_t (codeAt B26 [1, 1, 1, 0, 1, 0]) := by
  refine loop_sound (fun e => match e with | .exit 0 => [3] | _ => []) (by kernel_rfl) ?_
  intro F Q s h Φ hb
  refine den_sound hE hm _ (.two .leaf (.two (.one (.two .leaf (.one (.xf N26_l1_t)))) .leaf)) _ _ _ (⟨annOk_leaf, ⟨⟨annOk_leaf, N26_l1_ok⟩, annOk_leaf⟩⟩) ?_
  refine cast ?_ hb
  kernel_rfl
def N26 (x0 : Sl) (h : Hp) (K : Int → Hp → Prop) : Prop :=
  N26_l0 x0 0 true 0 h
    (fun n0 h0 =>
      K (IntKind.wrap .u16 (IntKind.wrap .u64 (65535 - n0))) h0)
theorem S26 {x0 : Sl} {h : Hp} {K : Int → Hp → Prop} (hn : N26 x0 h K) : C26 x0 h K := by
  refine calls_of_D Tryd.func26 (c := B26) rfl (by kernel_rfl) ?_
  refine den_sound hE hm _ (.two .leaf (.two .leaf (.two .leaf (.two (.two .leaf (.one (.xf N26_l0_t))) .leaf)))) _ _ _ (⟨annOk_leaf, ⟨annOk_leaf, ⟨annOk_leaf, ⟨⟨annOk_leaf, N26_l0_ok⟩, annOk_leaf⟩⟩⟩⟩) ?_
  refine cast ?_ hn
  kernel_rfl
end Go.Proofs.YtlioifgejijcoaaDoor

set_option linter.unusedVariables false
set_option maxRecDepth 100000
namespace Go.Proofs.YtlioifgejijcoaaDoor
open Go Go.Hw
/-! ### 20 slipway/slipwayref01.Lent -/
noncomputable def B20 : Code := match Tryd.f20.body with | some c => c | none => .skip
def N20 (x0 : Sl) (h : Hp) (K : Sl → Hp → Prop) : Prop :=
  mkK Tryd.prog 5 (IntKind.wrap .i64 (((x0.n : Nat) : Int) + 2)) (IntKind.wrap .i64 (((x0.n : Nat) : Int) + 2)) h fun s0 h0 =>
  cpK Tryd.prog 5 s0 (.slice x0.p x0.n x0.c) h0 fun n0 h1 =>
  idx ((x0.n : Nat) : Int) s0.n <|
  nn s0.p fun a0 =>
  st h1 (a0.add (((x0.n : Nat) : Int).toNat * 1)) (.int .u8 71) fun h2 =>
  idx (IntKind.wrap .i64 (((x0.n : Nat) : Int) + 1)) s0.n <|
  nn s0.p fun a1 =>
  st h2 (a1.add ((IntKind.wrap .i64 (((x0.n : Nat) : Int) + 1)).toNat * 1)) (.int .u8 72) fun h3 =>
  bd ((x0.n : Nat) : Int) s0.c fun k0 =>
  K ⟨sadr s0.p s0.c 0 1, k0, s0.c⟩ h3
theorem S20 {x0 : Sl} {h : Hp} {K : Sl → Hp → Prop} (hn : N20 x0 h K) : C20 x0 h K := by
  refine calls_of_D Tryd.func20 (c := B20) rfl (by kernel_rfl) ?_
  refine den_sound hE hm _ .leaf _ _ _ (annOk_leaf) ?_
  refine cast ?_ hn
  kernel_rfl
end Go.Proofs.YtlioifgejijcoaaDoor

set_option linter.unusedVariables false
set_option maxRecDepth 100000
namespace Go.Proofs.YtlioifgejijcoaaDoor
open Go Go.Hw
/-! ### 23 slipway/slipwayref01.AsLent -/
noncomputable def B23 : Code := match Tryd.f23.body with | some c => c | none => .skip
def N23_l1_b (x6_all : Sl) (x7_good : Bool) (Φ : Int → Hp → Prop) (x8_i : Int) (h : Hp) (K_e0 : Hp → Prop) : Prop :=
  bif (decide (x8_i < ((x6_all.n : Nat) : Int))) then
    idx x8_i x6_all.n <|
    nn x6_all.p fun a0 =>
    st h (a0.add (x8_i.toNat * 1)) (.int .u8 83) fun h0 =>
    Φ (IntKind.wrap .i64 (x8_i + 1)) h0
  else
    K_e0 h
def N23_l1_B (x6_all : Sl) (x7_good : Bool) (K_e0 : Hp → Prop) (s : Sg.T [(8, .c (.int .i64))]) (h : Hp) (Φ : Sg.T [(8, .c (.int .i64))] → Hp → Prop) : Prop :=
  N23_l1_b x6_all x7_good (fun x8_i h => Φ x8_i h) s h K_e0
def N23_l1 (x6_all : Sl) (x7_good : Bool) (x8_i : Int) (h : Hp) (K_e0 : Hp → Prop) : Prop :=
  loopP (N23_l1_B x6_all x7_good K_e0) x8_i h
noncomputable def N23_l1_t : Xf := loopT [(6, .c (.slice)), (7, .c (.bool))] [(8, .c (.int .i64))] (codeAt B23 [1, 1, 1, 1, 1, 0, 1, 0, 0]) fun F Q => N23_l1_B F.1 F.2 (fun h' => Q (.exit 0) (Sg.env [] ()) h')
theorem N23_l1_ok : Sound Tryd.prog Tryd.f23.ntmps N23_l1_t (codeAt B23 [1, 1, 1, 1, 1, 0, 1, 0]) := by
  refine loop_sound (fun e => match e with | .exit 0 => [] | _ => []) (by kernel_rfl) ?_
  intro F Q s h Φ hb
  refine den_sound hE hm _ .leaf _ _ _ (annOk_leaf) ?_
  refine cast ?_ hb
  kernel_rfl
def N23_j0 (x6_all : Sl) (x7_good : Bool) (h : Hp) (K_ret : Bool → Hp → Prop) : Prop :=
  N23_l1 x6_all x7_good 0 h
    (fun h0 =>
      K_ret x7_good h0)
noncomputable def N23_j0_t : Xf := pieceT [(6, .c (.slice)), (7, .c (.bool))] (codeAt B23 [1, 1, 1, 1, 1]) fun x h Q => N23_j0 x.1 x.2 h (fun o0 h' => Q .ret (Sg.env [(4, .c (.bool))] o0) h')
theorem N23_j0_ok : Sound Tryd.prog Tryd.f23.ntmps N23_j0_t (codeAt B23 [1, 1, 1, 1, 1]) := by
  refine piece_sound (fun e => match e with | .ret => [4] | _ => []) ?_
  intro x h Q hb
  refine den_sound hE hm _ (.two (.two .leaf (.one (.xf N23_l1_t))) .leaf) _ _ _ (⟨⟨annOk_leaf, N23_l1_ok⟩, annOk_leaf⟩) ?_
  refine cast ?_ hb
  kernel_rfl
def N23 (x0 : Sl) (x1 : Sl) (h : Hp) (K : Bool → Hp → Prop) : Prop :=
  bif (((x0.n : Nat) : Int) != ((x1.n : Nat) : Int)) then
    K false h
  else
    bd (IntKind.wrap .i64 (((x1.n : Nat) : Int) + 2)) x0.c fun k0 =>
    bd ((x1.n : Nat) : Int) x0.c fun k1 =>
    b2s h (sadr (sadr x0.p x0.c 0 1) x0.c 0 1) k1 fun s0 =>
    b2s h x1.p x1.n fun s1 =>
    bif (s0.toList == s1.toList) then
      idx ((x1.n : Nat) : Int) k0 <|
      nn (sadr x0.p x0.c 0 1) fun a0 =>
      xI .u8 (cell h (a0.add (((x1.n : Nat) : Int).toNat * 1))) fun n0 =>
      bif (n0 == 71) then
        idx (IntKind.wrap .i64 (((x1.n : Nat) : Int) + 1)) k0 <|
        nn (sadr x0.p x0.c 0 1) fun a1 =>
        xI .u8 (cell h (a1.add ((IntKind.wrap .i64 (((x1.n : Nat) : Int) + 1)).toNat * 1))) fun n1 =>
        N23_j0 ⟨sadr x0.p x0.c 0 1, k0, x0.c⟩ (n1 == 72) h
          (fun b0 h0 =>
            K b0 h0)
      else
        N23_j0 ⟨sadr x0.p x0.c 0 1, k0, x0.c⟩ false h
          (fun b1 h1 =>
            K b1 h1)
    else
      N23_j0 ⟨sadr x0.p x0.c 0 1, k0, x0.c⟩ false h
        (fun b2 h2 =>
          K b2 h2)
theorem S23 {x0 : Sl} {x1 : Sl} {h : Hp} {K : Bool → Hp → Prop} (hn : N23 x0 x1 h K) : C23 x0 x1 h K := by
  refine calls_of_D Tryd.func23 (c := B23) rfl (by kernel_rfl) ?_
  refine den_sound hE hm _ (.two .leaf (.two .leaf (.two .leaf (.two .leaf (.two (.ord [0, 1, 2, 3, 4, 5, 6, 7, 8, 9, 10, 11, 12, 13, 14, 15, 16, 17, 18, 19, 20, 21, 22]) (.xf N23_j0_t)))))) _ _ _ (⟨annOk_leaf, ⟨annOk_leaf, ⟨annOk_leaf, ⟨annOk_leaf, ⟨trivial, N23_j0_ok⟩⟩⟩⟩⟩) ?_
  refine cast ?_ hn
  kernel_rfl
end Go.Proofs.YtlioifgejijcoaaDoor

set_option linter.unusedVariables false
set_option maxRecDepth 100000
namespace Go.Proofs.YtlioifgejijcoaaDoor
open Go Go.Hw
/-! ### 24 slipway/slipwayref01.Beyond -/
noncomputable def B24 : Code := match Tryd.f24.body with | some c => c | none => .skip
def N24_l0_b (x0_l : Sl) (Φ : Int → Int → Hp → Prop) (x3_n : Int) (x4_i : Int) (h : Hp) (K_e0 : Int → Hp → Prop) : Prop :=
  bif (decide (x4_i < ((x0_l.n : Nat) : Int))) then
    bif (decide (x3_n ≤ 2147483647)) then
      idx x4_i x0_l.n <|
      nn x0_l.p fun a0 =>
      xL (cell h (a0.add (x4_i.toNat * 1))) fun s0 =>
      Φ (IntKind.wrap .i64 ((IntKind.wrap .i64 (x3_n + 1)) + ((s0.n : Nat) : Int))) (IntKind.wrap .i64 (x4_i + 1)) h
    else
      K_e0 x3_n h
  else
    K_e0 x3_n h
def N24_l0_B (x0_l : Sl) (K_e0 : Int → Hp → Prop) (s : Sg.T [(3, .c (.int .i64)), (4, .c (.int .i64))]) (h : Hp) (Φ : Sg.T [(3, .c (.int .i64)), (4, .c (.int .i64))] → Hp → Prop) : Prop :=
  N24_l0_b x0_l (fun x3_n x4_i h => Φ (x3_n, x4_i) h) s.1 s.2 h K_e0
def N24_l0 (x0_l : Sl) (x3_n : Int) (x4_i : Int) (h : Hp) (K_e0 : Int → Hp → Prop) : Prop :=
  loopP (N24_l0_B x0_l K_e0) (x3_n, x4_i) h
noncomputable def N24_l0_t : Xf := loopT [(0, .c (.slice))] [(3, .c (.int .i64)), (4, .c (.int .i64))] (codeAt B24 [1, 1, 0, 1, 0, 0]) fun F Q => N24_l0_B F (fun o0 h' => Q (.exit 0) (Sg.env [(3, .c (.int .i64))] o0) h')
theorem N24_l0_ok : Sound Tryd.prog Tryd.f24.ntmps N24_l0_t (codeAt B24 [1, 1, 0, 1, 0]) := by
  refine loop_sound (fun e => match e with | .exit 0 => [3] | _ => []) (by kernel_rfl) ?_
  intro F Q s h Φ hb
  refine den_sound hE hm _ .leaf _ _ _ (annOk_leaf) ?_
  refine cast ?_ hb
  kernel_rfl
def N24 (x0 : Sl) (h : Hp) (K : Bool → Hp → Prop) : Prop :=
  N24_l0 x0 0 0 h
    (fun n0 h0 =>
      K (decide (n0 > 2147483647)) h0)
theorem S24 {x0 : Sl} {h : Hp} {K : Bool → Hp → Prop} (hn : N24 x0 h K) : C24 x0 h K := by
  refine calls_of_D Tryd.func24 (c := B24) rfl (by kernel_rfl) ?_
  refine den_sound hE hm _ (.two .leaf (.two .leaf (.two (.two .leaf (.one (.xf N24_l0_t))) .leaf))) _ _ _ (⟨annOk_leaf, ⟨annOk_leaf, ⟨⟨annOk_leaf, N24_l0_ok⟩, annOk_leaf⟩⟩⟩) ?_
  refine cast ?_ hn
  kernel_rfl
end Go.Proofs.YtlioifgejijcoaaDoor

/-
  The internet's sum: the program's and the document's; bytes lent; the bound.
-/
set_option linter.unusedSimpArgs false
set_option linter.unusedVariables false
namespace Go.Proofs.YtlioifgejijcoaaDoor
open Go Go.Hw

/-- what a byte counts at its place -/
def wat (i : Nat) (b : UInt8) : Nat := if i % 2 = 0 then 256 * b.toNat else b.toNat
def ws : Nat → List UInt8 → Nat
  | _, [] => 0
  | i, b :: l => wat i b + ws (i + 1) l
theorem ws_app (l m : List UInt8) : ∀ i, ws i (l ++ m) = ws i l + ws (i + l.length) m := by
  induction l with
  | nil => intro i; simp [ws]
  | cons b l ih => intro i; simp only [List.cons_append, ws, ih, List.length_cons]; rw [show i + 1 + l.length = i + (l.length + 1) by omega]; omega
theorem ws_snoc (l : List UInt8) (b : UInt8) : ws 0 (l ++ [b]) = ws 0 l + wat l.length b := by rw [ws_app]; simp [ws]
theorem wat_le (i : Nat) (b : UInt8) : wat i b ≤ 65280 := by have := b.toNat_lt; unfold wat; split <;> omega
def sum16 (l : List UInt8) : Nat := 65535 - fold16 (ws 0 l)

/-- a slice of slices that reads so -/
structure RdP (h : Hp) (s : Sl) (ts : List Sl) (ps : List (List UInt8)) : Prop where
  n : s.n = ts.length
  len : ts.length = ps.length
  r : Rdc h s.p (ts.map Sl.v)
  each : ∀ (i : Nat) t l, ts[i]? = some t → ps[i]? = some l → RdB h t l
theorem RdP.ext {h h' : Hp} {s : Sl} {ts : List Sl} {ps : List (List UInt8)} (H : RdP h s ts ps) (he : Ext none' h h') : RdP h' s ts ps := ⟨H.n, H.len, H.r.ext he, fun i t l h1 h2 => (H.each i t l h1 h2).ext he⟩
theorem RdP.at {h : Hp} {s : Sl} {ts : List Sl} {ps : List (List UInt8)} (H : RdP h s ts ps) {x : Int} {i : Nat} (hx : x = i) (hi : i < ps.length) {F : Sl → Prop} (hF : ∀ t, ts[i]? = some t → RdB h t (ps[i]'hi) → F t) : idx x s.n (nn s.p fun a => xL (cell h (a.add (x.toNat * 1))) F) := by
  have hi2 : i < ts.length := by rw [H.len]; exact hi
  obtain ⟨a, hp, hc⟩ := H.r i (ts[i]).v (by rw [List.getElem?_map, List.getElem?_eq_getElem hi2]; rfl)
  refine idx_of (by omega) (by rw [H.n]; omega) ?_
  rw [hp]
  subst hx
  simp only [nn_some', Nat.mul_one, Int.toNat_natCast, hc, xL_v]
  exact hF _ (List.getElem?_eq_getElem hi2) (H.each i _ _ (List.getElem?_eq_getElem hi2) (List.getElem?_eq_getElem hi))
theorem flat_take {α : Type} (ps : List (List α)) {i : Nat} (hi : i < ps.length) : (ps.take (i + 1)).flatten = (ps.take i).flatten ++ ps[i] := by
  rw [← List.take_append_getElem hi, List.flatten_append]; simp
theorem flat_le {α : Type} (ps : List (List α)) (i : Nat) : (ps.take i).flatten.length ≤ ps.flatten.length := by
  have : ps.flatten = (ps.take i).flatten ++ (ps.drop i).flatten := by rw [← List.flatten_append, List.take_append_drop]
  rw [this]; simp

theorem c_sum {s : Sl} {ts : List Sl} {ps : List (List UInt8)} {h : Hp} {K : Int → Hp → Prop} (H : RdP h s ts ps) (hl : ∀ l ∈ ps, l.length ≤ 140737488355328) (hN : ps.flatten.length ≤ 4611686018427387904) (hn : ps.length ≤ 4611686018427387904) (hK : K ((sum16 ps.flatten : Nat) : Int) h) : C25 s h K := by
  apply S25; unfold N25 N25_l0
  have sn := H.n
  have sl := H.len
  refine loopP_inv (fun (x : Int × Int × Int) hc => hc = h ∧ ∃ i u : Nat, x.2.2 = i ∧ i ≤ ps.length ∧ x.1 = u ∧ u ≤ 65535 ∧ fold16 u = fold16 (ws 0 (ps.take i).flatten) ∧ x.2.1 = ((ps.take i).flatten.length : Int)) (fun x _ => ps.length - x.2.2.toNat) ?_
    ⟨rfl, 0, 0, rfl, Nat.zero_le _, rfl, by omega, rfl, rfl⟩
  rintro ⟨u, n, x⟩ hc ⟨rfl, i, u, hx, hi, hu, hub, hf, hnn⟩
  simp only at hx hu hnn
  subst hx; subst hu; subst hnn
  unfold N25_l0_B N25_l0_b
  dsimp only
  by_cases hlt : i < ps.length
  · have : decide ((i : Int) < ((s.n : Nat) : Int)) = true := by simp; omega
    rw [this, cond_true]
    refine H.at rfl hlt ?_
    intro t ht hr
    generalize hm : ps[i] = m at hr
    have hml : m.length ≤ 140737488355328 := by rw [← hm]; exact hl _ (List.getElem_mem hlt)
    have ef := flat_take ps hlt
    rw [hm] at ef
    generalize hp : (ps.take i).flatten = pre at hf ef
    have tn := hr.n
    have hpl : pre.length + m.length ≤ 4611686018427387904 := by
      have := flat_le ps (i + 1)
      rw [ef, List.length_append] at this; omega
    unfold N25_l1
    refine loopP_inv (fun (y : Int × Int × Int) hc2 => hc2 = hc ∧ ∃ k v : Nat, y.2.2 = k ∧ k ≤ m.length ∧ y.1 = v ∧ v ≤ 65535 + 65280 * k ∧ fold16 v = fold16 (ws 0 (pre ++ m.take k)) ∧ y.2.1 = ((pre.length + k : Nat) : Int)) (fun y _ => m.length - y.2.2.toNat) ?_
      ⟨rfl, 0, u, rfl, Nat.zero_le _, rfl, by omega, by simpa using hf, by simp⟩
    rintro ⟨v, n2, y⟩ hc2 ⟨rfl, k, v, hy, hk, hv, hvb, hvf, hn2⟩
    simp only at hy hv hn2
    subst hy; subst hv; subst hn2
    unfold N25_l1_B N25_l1_b
    dsimp only
    by_cases hkl : k < m.length
    · have : decide ((k : Int) < ((t.n : Nat) : Int)) = true := by simp; omega
      rw [this, cond_true]
      refine hr.at rfl hkl ?_
      have hb := (m[k]).toNat_lt
      have et : pre ++ m.take (k + 1) = (pre ++ m.take k) ++ [m[k]] := by rw [← List.take_append_getElem hkl, List.append_assoc]
      have el : (pre ++ m.take k).length = pre.length + k := by simp; omega
      have wle := wat_le (pre.length + k) m[k]
      have fs : fold16 (v + wat (pre.length + k) m[k]) = fold16 (ws 0 (pre ++ m.take (k + 1))) := by
        rw [et, ws_snoc, el, ← fold16_add, hvf, fold16_add]
      rw [nat_succ64 (by omega), nat_succ64 (by omega), Int.tmod_eq_emod_of_nonneg (by omega), wu64i (x := ((m[k].toNat : Nat) : Int)) (by omega) (by omega)]
      have e8 : (2 : Int) ^ 8 = 256 := rfl
      by_cases hp2 : (pre.length + k) % 2 = 0
      · have : ((((pre.length + k : Nat) : Int) % 2) == 0) = true := by simp; omega
        rw [this, cond_true, e8, wu64i (x := ((m[k].toNat : Nat) : Int) * 256) (by omega) (by omega), wu64i (by omega) (by omega)]
        refine ⟨⟨rfl, k + 1, v + 256 * m[k].toNat, rfl, hkl, by omega, by omega, ?_, by first | omega | (dsimp only; omega)⟩, by first | omega | (dsimp only; omega)⟩
        have : wat (pre.length + k) m[k] = 256 * m[k].toNat := by unfold wat; rw [if_pos hp2]
        rw [← this]; exact fs
      · have : ((((pre.length + k : Nat) : Int) % 2) == 0) = false := by simp; omega
        rw [this, cond_false, wu64i (by omega) (by omega)]
        refine ⟨⟨rfl, k + 1, v + m[k].toNat, rfl, hkl, by omega, by omega, ?_, by first | omega | (dsimp only; omega)⟩, by first | omega | (dsimp only; omega)⟩
        have : wat (pre.length + k) m[k] = m[k].toNat := by unfold wat; rw [if_neg hp2]
        rw [← this]; exact fs
    · have : decide ((k : Int) < ((t.n : Nat) : Int)) = false := by simp; omega
      rw [this, cond_false]
      have : k = m.length := by omega
      subst this
      rw [List.take_length] at hvf
      refine c_folded (by omega) (by omega) ?_
      have fl := fold16_le v
      simp only [Int.toNat_natCast]
      rw [wu64i (by omega) (by omega), nat_succ64 (by omega)]
      refine ⟨⟨trivial, i + 1, fold16 v, rfl, hlt, rfl, fl, ?_, ?_⟩, by first | omega | (dsimp only; omega)⟩
      · rw [ef, ← hvf, fold16_low fl]
      · show _ = (((ps.take (i + 1)).flatten.length : Nat) : Int); rw [ef]; simp
  · have : decide ((i : Int) < ((s.n : Nat) : Int)) = false := by simp; omega
    rw [this, cond_false]
    have : i = ps.length := by omega
    subst this
    rw [List.take_length] at hf
    refine c_folded (by omega) (by omega) ?_
    simp only [Int.toNat_natCast]
    have fl := fold16_le u
    rw [not16 (by omega) (by omega), hf]
    have : (65535 : Int) - ((fold16 (ws 0 ps.flatten) : Nat) : Int) = ((sum16 ps.flatten : Nat) : Int) := by unfold sum16; have := fold16_le (ws 0 ps.flatten); omega
    rw [this]; exact hK

theorem c_Sum {s : Sl} {ts : List Sl} {ps : List (List UInt8)} {h : Hp} {K : Int → Hp → Prop} (H : RdP h s ts ps) (hl : ∀ l ∈ ps, l.length ≤ 140737488355328) (hn : ps.length ≤ 4611686018427387904) (hK : K ((sum16 ps.flatten : Nat) : Int) h) : C26 s h K := by
  apply S26; unfold N26 N26_l0
  have sn := H.n
  have sl := H.len
  refine loopP_inv (fun (x : Int × Bool × Int) hc => hc = h ∧ ∃ i : Nat, x.2.2 = i ∧ i ≤ ps.length ∧ x.1 = ((fold16 (ws 0 (ps.take i).flatten) : Nat) : Int) ∧ x.2.1 = decide ((ps.take i).flatten.length % 2 = 0)) (fun x _ => ps.length - x.2.2.toNat) ?_
    ⟨rfl, 0, rfl, Nat.zero_le _, rfl, rfl⟩
  rintro ⟨u, n, x⟩ hc ⟨rfl, i, hx, hi, hu, hnn⟩
  simp only at hx hu hnn
  subst hx; subst hu; subst hnn
  unfold N26_l0_B N26_l0_b
  dsimp only
  by_cases hlt : i < ps.length
  · have : decide ((i : Int) < ((s.n : Nat) : Int)) = true := by simp; omega
    rw [this, cond_true]
    generalize hm : ps[i] = m
    have hml : m.length ≤ 140737488355328 := by rw [← hm]; exact hl _ (List.getElem_mem hlt)
    have ef := flat_take ps hlt
    rw [hm] at ef
    generalize hp : (ps.take i).flatten = pre at ef
    unfold N26_l1
    refine loopP_inv (fun (y : Int × Bool × Int) hc2 => hc2 = hc ∧ ∃ k : Nat, y.2.2 = k ∧ k ≤ m.length ∧ y.1 = ((fold16 (ws 0 (pre ++ m.take k)) : Nat) : Int) ∧ y.2.1 = decide ((pre.length + k) % 2 = 0)) (fun y _ => m.length - y.2.2.toNat) ?_
      ⟨rfl, 0, rfl, Nat.zero_le _, by simp, by simp⟩
    rintro ⟨v, n2, y⟩ hc2 ⟨rfl, k, hy, hk, hv, hn2⟩
    simp only at hy hv hn2
    subst hy; subst hv; subst hn2
    unfold N26_l1_B N26_l1_b
    dsimp only
    refine H.at rfl hlt ?_
    intro t ht hr
    rw [hm] at hr
    have tn := hr.n
    by_cases hkl : k < m.length
    · have : decide ((k : Int) < ((t.n : Nat) : Int)) = true := by simp; omega
      rw [this, cond_true]
      have hb := (m[k]).toNat_lt
      have et : pre ++ m.take (k + 1) = (pre ++ m.take k) ++ [m[k]] := by rw [← List.take_append_getElem hkl, List.append_assoc]
      have el : (pre ++ m.take k).length = pre.length + k := by simp; omega
      have fl := fold16_le (ws 0 (pre ++ m.take k))
      have fs : fold16 (fold16 (ws 0 (pre ++ m.take k)) + wat (pre.length + k) m[k]) = fold16 (ws 0 (pre ++ m.take (k + 1))) := by
        rw [et, ws_snoc, el, fold16_add]
      have par : (!decide ((pre.length + k) % 2 = 0)) = decide ((pre.length + (k + 1)) % 2 = 0) := by
        by_cases hq : (pre.length + k) % 2 = 0
        · have : ¬ (pre.length + (k + 1)) % 2 = 0 := by omega
          simp [hq, this]
        · have : (pre.length + (k + 1)) % 2 = 0 := by omega
          simp [hq, this]
      by_cases hp2 : (pre.length + k) % 2 = 0
      · simp only [hp2, decide_true, cond_true]
        refine H.at rfl hlt ?_
        intro t' ht' hr'
        rw [hm] at hr'
        refine hr'.at rfl hkl ?_
        unfold N26_j2
        rw [wu64i (x := ((m[k].toNat : Nat) : Int)) (by omega) (by omega), wu64i (x := 256 * ((m[k].toNat : Nat) : Int)) (by omega) (by omega), wu64i (by omega) (by omega)]
        refine c_Folded (by omega) (by omega) ?_
        have : (((fold16 (ws 0 (pre ++ m.take k)) : Nat) : Int) + 256 * ((m[k].toNat : Nat) : Int)).toNat = fold16 (ws 0 (pre ++ m.take k)) + wat (pre.length + k) m[k] := by unfold wat; rw [if_pos hp2]; omega
        rw [this, fs, nat_succ64 (by omega)]
        rw [show (!true) = (!decide ((pre.length + k) % 2 = 0)) by simp [hp2], par]
        exact ⟨⟨rfl, k + 1, rfl, hkl, rfl, rfl⟩, by first | omega | (dsimp only; omega)⟩
      · simp only [hp2, decide_false, cond_false]
        refine H.at rfl hlt ?_
        intro t' ht' hr'
        rw [hm] at hr'
        refine hr'.at rfl hkl ?_
        unfold N26_j2
        rw [wu64i (x := ((m[k].toNat : Nat) : Int)) (by omega) (by omega), wu64i (by omega) (by omega)]
        refine c_Folded (by omega) (by omega) ?_
        have : (((fold16 (ws 0 (pre ++ m.take k)) : Nat) : Int) + ((m[k].toNat : Nat) : Int)).toNat = fold16 (ws 0 (pre ++ m.take k)) + wat (pre.length + k) m[k] := by unfold wat; rw [if_neg hp2]; omega
        rw [this, fs, nat_succ64 (by omega)]
        rw [show (!false) = (!decide ((pre.length + k) % 2 = 0)) by simp [hp2], par]
        exact ⟨⟨rfl, k + 1, rfl, hkl, rfl, rfl⟩, by first | omega | (dsimp only; omega)⟩
    · have : decide ((k : Int) < ((t.n : Nat) : Int)) = false := by simp; omega
      rw [this, cond_false]
      have : k = m.length := by omega
      subst this
      rw [List.take_length, nat_succ64 (by omega)]
      refine ⟨⟨rfl, i + 1, rfl, hlt, ?_, ?_⟩, by first | omega | (dsimp only; omega)⟩
      · show _ = ((fold16 (ws 0 (ps.take (i + 1)).flatten) : Nat) : Int); rw [ef]
      · show _ = decide ((ps.take (i + 1)).flatten.length % 2 = 0); rw [ef]; simp
  · have : decide ((i : Int) < ((s.n : Nat) : Int)) = false := by simp; omega
    rw [this, cond_false]
    have : i = ps.length := by omega
    subst this
    rw [List.take_length]
    have fl := fold16_le (ws 0 ps.flatten)
    rw [wu64i (by omega) (by omega), wu16i (by omega) (by omega)]
    have : (65535 : Int) - ((fold16 (ws 0 ps.flatten) : Nat) : Int) = ((sum16 ps.flatten : Nat) : Int) := by unfold sum16; omega
    rw [this]; exact hK

/-- more than the bound? -/
theorem c_beyond {s : Sl} {ts : List Sl} {ps : List (List UInt8)} {h : Hp} {K : Bool → Hp → Prop} (H : RdP h s ts ps) (hl : ∀ l ∈ ps, l.length ≤ 140737488355328)
    (hK : ∀ b, (b = false → ps.length + ps.flatten.length ≤ 2147483647) → K b h) : C24 s h K := by
  apply S24; unfold N24 N24_l0
  have sn := H.n
  have sl := H.len
  refine loopP_inv (fun (x : Int × Int) hc => hc = h ∧ ∃ i : Nat, x.2 = i ∧ i ≤ ps.length ∧ x.1 = ((i + (ps.take i).flatten.length : Nat) : Int)) (fun x _ => ps.length - x.2.toNat) ?_ ⟨rfl, 0, rfl, Nat.zero_le _, rfl⟩
  rintro ⟨u, x⟩ hc ⟨rfl, i, hx, hi, hu⟩
  simp only at hx hu
  subst hx; subst hu
  unfold N24_l0_B N24_l0_b
  dsimp only
  by_cases hlt : i < ps.length
  · have : decide ((i : Int) < ((s.n : Nat) : Int)) = true := by simp; omega
    rw [this, cond_true]
    by_cases hb : i + (ps.take i).flatten.length ≤ 2147483647
    · have : decide (((i + (ps.take i).flatten.length : Nat) : Int) ≤ 2147483647) = true := decide_eq_true (by omega)
      rw [this, cond_true]
      refine H.at rfl hlt ?_
      intro t ht hr
      have tn := hr.n
      have := hl _ (List.getElem_mem hlt)
      have ef := flat_take ps hlt
      rw [wi64i (x := ((i + (ps.take i).flatten.length : Nat) : Int) + 1) (by omega) (by omega), wi64i (x := ((i + (ps.take i).flatten.length : Nat) : Int) + 1 + ((t.n : Nat) : Int)) (by omega) (by omega), nat_succ64 (by omega)]
      refine ⟨⟨rfl, i + 1, rfl, hlt, ?_⟩, by first | omega | (dsimp only; omega)⟩
      show _ = ((i + 1 + (ps.take (i + 1)).flatten.length : Nat) : Int)
      rw [ef, List.length_append]; omega
    · have : decide (((i + (ps.take i).flatten.length : Nat) : Int) ≤ 2147483647) = false := decide_eq_false (by omega)
      rw [this, cond_false]
      refine hK _ fun e => ?_
      have := of_decide_eq_false e; omega
  · have : decide ((i : Int) < ((s.n : Nat) : Int)) = false := by simp; omega
    rw [this, cond_false]
    have : i = ps.length := by omega
    subst this
    rw [List.take_length]
    refine hK _ fun e => ?_
    have := of_decide_eq_false e; omega

/-- bytes lent: in memory of their own, with two marked places behind them -/
theorem c_lent {s : Sl} {l : List UInt8} {h : Hp} {K : Sl → Hp → Prop} (H : RdB h s l) (hl : l.length ≤ 140737488355328)
    (hK : ∀ h' p, NewO h h' 5 1 ⟨p, l.length + 2, l.length + 2⟩ (bc (l ++ [71, 72])) → K ⟨p, l.length, l.length + 2⟩ h') : C20 s h K := by
  apply S20; unfold N20
  have hn := H.n
  rw [hn, wi64i (x := (l.length : Int) + 2) (by omega) (by omega), wi64i (x := (l.length : Int) + 1) (by omega) (by omega)]
  refine (Sat.start (h := h)).mk (sz := 1) y_zl (by omega) (by omega) (by rw [y_b]; omega) (by omega) ?_
  intro t hb tn tc hs
  rw [y_zeros] at hs
  have e2 : ((l.length : Int) + 2).toNat = l.length + 2 := by omega
  rw [e2] at tn tc hs
  have hr := H.ext (hs.was 0 rfl)
  have emin : Nat.min l.length t.n = l.length := by rw [tn]; exact Nat.min_eq_left (by omega)
  refine hs.cp 1 rfl (n := l.length) (ns := bc l) y_a (fun _ => rfl) ?_ (by rw [emin]; simp) bc_plain ?_
  · intro G hG
    rw [emin, ← hn]
    exact hr.srcK (s := s) (n := s.n) (by omega) (by rw [hn, List.take_length]; exact hG)
  · intro h2 hs2
    have e9 : bc l ++ (bc (List.replicate (l.length + 2) 0)).drop (bc l).length = bc (l ++ [0, 0]) := by
      rw [bc_app, ← bc_drop, bc_len, List.drop_replicate, show l.length + 2 - l.length = 2 by omega]; rfl
    rw [e9] at hs2
    rw [tc]
    refine hs2.stAt (k := l.length) 1 rfl rfl (by simp) rfl ?_
    intro h3 hs3
    refine hs3.stAt (k := l.length + 1) 1 rfl (by omega) (by simp) rfl ?_
    intro h4 hs4
    have e4 : ((bc (l ++ [0, 0])).set l.length (.int .u8 71)).set (l.length + 1) (.int .u8 72) = bc (l ++ [71, 72]) := by
      have q1 : (Value.int .u8 71) = .int .u8 ((71 : UInt8).toNat : Int) := rfl
      have q2 : (Value.int .u8 72) = .int .u8 ((72 : UInt8).toNat : Int) := rfl
      rw [q1, q2, ← bc_set, ← bc_set]
      congr 1
      rw [List.set_append_right _ _ (by omega), List.set_append_right _ _ (by omega)]
      simp
    have hs5 : Sat ([] ++ [Hw.was h, Hw.own 5 1 t (bc (l ++ [71, 72]))]) h4 := by rw [← e4]; exact hs4
    refine bd_nat (by omega) ?_
    have hno := hs5.newO 0 1 rfl rfl (by omega)
    have et : t = ⟨t.p, l.length + 2, l.length + 2⟩ := by cases t; simp only at tn tc; rw [tn, tc]
    rw [et] at hno
    rw [sadr_zero]
    exact hK h4 t.p hno

/-- they still read so, the places behind them too; all of it is written over -/
theorem c_asLent {p : Option Addr} {s : Sl} {l : List UInt8} {h : Hp} {K : Bool → Hp → Prop} {L M : List Asn} (hs : Sat (L ++ M) h) (j : Nat) (hj : M[j]? = some (Hw.own 5 1 ⟨p, l.length + 2, l.length + 2⟩ (bc (l ++ [71, 72])))) (H : RdB h s l) (hl : l.length ≤ 140737488355328)
    (hK : ∀ h' vs, Sat (L ++ M.set j (Hw.own 5 1 ⟨p, l.length + 2, l.length + 2⟩ vs)) h' → K true h') : C23 ⟨p, l.length, l.length + 2⟩ s h K := by
  apply S23; unfold N23
  have hn := H.n
  have ho := hs.own j hj
  have hr := ho.rdb
  dsimp only
  rw [hn, wi64i (x := (l.length : Int) + 2) (by omega) (by omega), wi64i (x := (l.length : Int) + 1) (by omega) (by omega)]
  simp only [bne_self_eq_false, cond_false, sadr_zero]
  refine bd_of (by omega) (by omega) ?_
  refine bd_nat (by omega) ?_
  have e2 : ((l.length : Int) + 2).toNat = l.length + 2 := by omega
  rw [e2]
  have hr1 : RdB h ⟨p, l.length, l.length + 2⟩ l := ⟨rfl, by simp, by
    have := hr.r.take l.length
    rw [← bc_take] at this
    simpa using this⟩
  refine hr1.b2s ?_
  rw [← hn]
  refine H.b2s ?_
  simp only [beq_self_eq_true, cond_true]
  rw [hn]
  have g1 : (l ++ [71, 72])[l.length]'(by simp) = 71 := by simp
  have g2 : (l ++ [71, 72])[l.length + 1]'(by simp) = 72 := by simp
  refine hr.at (x := (l.length : Int)) (i := l.length) rfl (by simp) ?_
  rw [g1]
  simp only [show ((((71 : UInt8).toNat : Nat) : Int) == 71) = true from rfl, cond_true]
  refine hr.at (x := (l.length : Int) + 1) (i := l.length + 1) (by omega) (by simp) ?_
  rw [g2]
  simp only [show ((((72 : UInt8).toNat : Nat) : Int) == 72) = true from rfl]
  unfold N23_j0 N23_l1
  refine loopP_inv (fun (x : Int) hc => ∃ (i : Nat) (vs : List Value), x = i ∧ i ≤ l.length + 2 ∧ vs.length = l.length + 2 ∧ Sat (L ++ M.set j (Hw.own 5 1 ⟨p, l.length + 2, l.length + 2⟩ vs)) hc) (fun x _ => l.length + 2 - x.toNat) ?_
    ⟨0, bc (l ++ [71, 72]), rfl, Nat.zero_le _, by simp, by
      have := hs.imp j hj (A' := Hw.own 5 1 ⟨p, l.length + 2, l.length + 2⟩ (bc (l ++ [71, 72]))) (fun F h => h)
      exact this⟩
  rintro x hc ⟨i, vs, rfl, hi, hvl, hs⟩
  unfold N23_l1_B N23_l1_b
  dsimp only
  have hjl := lt_of_get hj
  by_cases hlt : i < l.length + 2
  · have : decide ((i : Int) < ((l.length + 2 : Nat) : Int)) = true := by simp; omega
    rw [this, cond_true]
    refine hs.stAt (s := ⟨p, l.length + 2, l.length + 2⟩) (k := i) j (by rw [List.getElem?_set_self hjl]) rfl (by omega) rfl ?_
    intro h' hs'
    rw [List.set_set] at hs'
    rw [nat_succ64 (by omega)]
    exact ⟨⟨i + 1, _, rfl, hlt, by simpa using hvl, hs'⟩, by omega⟩
  · have : decide ((i : Int) < ((l.length + 2 : Nat) : Int)) = false := by simp; omega
    rw [this, cond_false]
    exact hK hc vs hs

end Go.Proofs.YtlioifgejijcoaaDoor

set_option linter.unusedVariables false
set_option maxRecDepth 100000
namespace Go.Proofs.YtlioifgejijcoaaDoor
open Go Go.Hw
/-! ### 18 (*slipway/slipwayref01.Book).Take -/
noncomputable def B18 : Code := match Tryd.f18.body with | some c => c | none => .skip
def N18 (x0 : Option Addr) (x1 : Sl) (h : Hp) (K : Hp → Prop) : Prop :=
  nn x0 fun a0 =>
  xL (cell h a0) fun s0 =>
  nw h (.cells ⟨[.slice x1.p x1.n x1.c]⟩ 24) fun b0 h0 =>
  apK Tryd.prog 24 s0 (.slice (some (bk b0)) 1 1) h0 fun s1 h1 =>
  nn x0 fun a1 =>
  st h1 a1 (.slice s1.p s1.n s1.c) fun h2 =>
  nn x0 fun a2 =>
  xL (cell h2 (a2.add 1)) fun s2 =>
  b2s h2 x1.p x1.n fun s3 =>
  nw h2 (.cells ⟨[.string s3]⟩ 9) fun b1 h3 =>
  both (xL (cell h3 (a2.add 1)) fun s4 => Only (.slice s2.p s2.n s2.c) h3 (.slice s4.p s4.n s4.c) h3) <|
  apK Tryd.prog 9 s2 (.slice (some (bk b1)) 1 1) h3 fun s5 h4 =>
  nn x0 fun a3 =>
  st h4 (a3.add 1) (.slice s5.p s5.n s5.c) fun h5 =>
  K h5
theorem S18 {x0 : Option Addr} {x1 : Sl} {h : Hp} {K : Hp → Prop} (hn : N18 x0 x1 h K) : C18 x0 x1 h K := by
  refine calls_of_D Tryd.func18 (c := B18) rfl (by kernel_rfl) ?_
  refine den_sound hE hm _ (.two .leaf (.ord [0, 1, 2, 3, 4, 5, 6, 7, 8, 9, 10, 11])) _ _ _ (⟨annOk_leaf, trivial⟩) ?_
  refine cast ?_ hn
  kernel_rfl
end Go.Proofs.YtlioifgejijcoaaDoor

set_option linter.unusedVariables false
set_option maxRecDepth 100000
namespace Go.Proofs.YtlioifgejijcoaaDoor
open Go Go.Hw
/-! ### 19 (*slipway/slipwayref01.Book).Owned -/
noncomputable def B19 : Code := match Tryd.f19.body with | some c => c | none => .skip
def N19_l0_b (x0_k : Option Addr) (Φ : Int → Hp → Prop) (x3_i : Int) (h : Hp) (K_e0 : Hp → Prop) (K_ret : Bool → Hp → Prop) : Prop :=
  nn x0_k fun a0 =>
  xL (cell h a0) fun s0 =>
  bif (decide (x3_i < ((s0.n : Nat) : Int))) then
    nn x0_k fun a1 =>
    xL (cell h a1) fun s1 =>
    idx x3_i s1.n <|
    nn s1.p fun a2 =>
    xL (cell h (a2.add (x3_i.toNat * 1))) fun s2 =>
    b2s h s2.p s2.n fun s3 =>
    nn x0_k fun a3 =>
    xL (cell h (a3.add 1)) fun s4 =>
    idx x3_i s4.n <|
    nn s4.p fun a4 =>
    xS (cell h (a4.add (x3_i.toNat * 1))) fun s5 =>
    bif (!(s3.toList == s5.toList)) then
      K_ret false h
    else
      Φ (IntKind.wrap .i64 (x3_i + 1)) h
  else
    K_e0 h
def N19_l0_B (x0_k : Option Addr) (K_e0 : Hp → Prop) (K_ret : Bool → Hp → Prop) (s : Sg.T [(3, .c (.int .i64))]) (h : Hp) (Φ : Sg.T [(3, .c (.int .i64))] → Hp → Prop) : Prop :=
  N19_l0_b x0_k (fun x3_i h => Φ x3_i h) s h K_e0 K_ret
def N19_l0 (x0_k : Option Addr) (x3_i : Int) (h : Hp) (K_e0 : Hp → Prop) (K_ret : Bool → Hp → Prop) : Prop :=
  loopP (N19_l0_B x0_k K_e0 K_ret) x3_i h
noncomputable def N19_l0_t : Xf := loopT [(0, .c (.ptr))] [(3, .c (.int .i64))] (codeAt B19 [1, 0, 1, 0, 0]) fun F Q => N19_l0_B F (fun h' => Q (.exit 0) (Sg.env [] ()) h') (fun o0 h' => Q .ret (Sg.env [(2, .c (.bool))] o0) h')
theorem N19_l0_ok : Sound Tryd.prog Tryd.f19.ntmps N19_l0_t (codeAt B19 [1, 0, 1, 0]) := by
  refine loop_sound (fun e => match e with | .exit 0 => [] | .ret => [2] | _ => []) (by kernel_rfl) ?_
  intro F Q s h Φ hb
  refine den_sound hE hm _ (.two .leaf (.two (.one (.two (.ord [0, 1, 2, 3, 4, 5, 6, 7, 8, 9, 10, 11, 12, 13, 14, 15]) .leaf)) .leaf)) _ _ _ (⟨annOk_leaf, ⟨⟨trivial, annOk_leaf⟩, annOk_leaf⟩⟩) ?_
  refine cast ?_ hb
  kernel_rfl
def N19_l2_b (x0_k : Option Addr) (x4_grown : Sl) (x5_i : Int) (x6_l : Sl) (Φ : Int → Hp → Prop) (x7_n : Int) (h : Hp) (K_e4 : Hp → Prop) : Prop :=
  bif (decide (x7_n < ((x6_l.n : Nat) : Int))) then
    C45 x5_i x7_n h fun n0 h0 =>
    idx x7_n x6_l.n <|
    nn x6_l.p fun a0 =>
    st h0 (a0.add (x7_n.toNat * 1)) (.int .u8 n0) fun h1 =>
    Φ (IntKind.wrap .i64 (x7_n + 1)) h1
  else
    K_e4 h
def N19_l2_B (x0_k : Option Addr) (x4_grown : Sl) (x5_i : Int) (x6_l : Sl) (K_e4 : Hp → Prop) (s : Sg.T [(7, .c (.int .i64))]) (h : Hp) (Φ : Sg.T [(7, .c (.int .i64))] → Hp → Prop) : Prop :=
  N19_l2_b x0_k x4_grown x5_i x6_l (fun x7_n h => Φ x7_n h) s h K_e4
def N19_l2 (x0_k : Option Addr) (x4_grown : Sl) (x5_i : Int) (x6_l : Sl) (x7_n : Int) (h : Hp) (K_e4 : Hp → Prop) : Prop :=
  loopP (N19_l2_B x0_k x4_grown x5_i x6_l K_e4) x7_n h
noncomputable def N19_l2_t : Xf := loopT [(0, .c (.ptr)), (4, .c (.slice)), (5, .c (.int .i64)), (6, .c (.slice))] [(7, .c (.int .i64))] (codeAt B19 [1, 1, 1, 0, 1, 0, 0, 1, 0, 0, 1, 0, 1, 0, 0]) fun F Q => N19_l2_B F.1 F.2.1 F.2.2.1 F.2.2.2 (fun h' => Q (.exit 4) (Sg.env [] ()) h')
theorem N19_l2_ok : Sound Tryd.prog Tryd.f19.ntmps N19_l2_t (codeAt B19 [1, 1, 1, 0, 1, 0, 0, 1, 0, 0, 1, 0, 1, 0]) := by
  refine loop_sound (fun e => match e with | .exit 4 => [] | _ => []) (by kernel_rfl) ?_
  intro F Q s h Φ hb
  refine den_sound hE hm _ .leaf _ _ _ (annOk_leaf) ?_
  refine cast ?_ hb
  kernel_rfl
def N19_l3_b (x0_k : Option Addr) (x4_grown : Sl) (x5_i : Int) (x6_l : Sl) (Φ : Sl → Int → Hp → Prop) (x8_g : Sl) (x9_n : Int) (h : Hp) (K_e6 : Sl → Hp → Prop) : Prop :=
  bif (decide (x9_n < 9)) then
    C45 x5_i (IntKind.wrap .i64 (((x6_l.n : Nat) : Int) + x9_n)) h fun n0 h0 =>
    nw h0 (.cells ⟨[.int .u8 n0]⟩ 5) fun b0 h1 =>
    apK Tryd.prog 5 x8_g (.slice (some (bk b0)) 1 1) h1 fun s0 h2 =>
    Φ s0 (IntKind.wrap .i64 (x9_n + 1)) h2
  else
    K_e6 x8_g h
def N19_l3_B (x0_k : Option Addr) (x4_grown : Sl) (x5_i : Int) (x6_l : Sl) (K_e6 : Sl → Hp → Prop) (s : Sg.T [(8, .c (.slice)), (9, .c (.int .i64))]) (h : Hp) (Φ : Sg.T [(8, .c (.slice)), (9, .c (.int .i64))] → Hp → Prop) : Prop :=
  N19_l3_b x0_k x4_grown x5_i x6_l (fun x8_g x9_n h => Φ (x8_g, x9_n) h) s.1 s.2 h K_e6
def N19_l3 (x0_k : Option Addr) (x4_grown : Sl) (x5_i : Int) (x6_l : Sl) (x8_g : Sl) (x9_n : Int) (h : Hp) (K_e6 : Sl → Hp → Prop) : Prop :=
  loopP (N19_l3_B x0_k x4_grown x5_i x6_l K_e6) (x8_g, x9_n) h
noncomputable def N19_l3_t : Xf := loopT [(0, .c (.ptr)), (4, .c (.slice)), (5, .c (.int .i64)), (6, .c (.slice))] [(8, .c (.slice)), (9, .c (.int .i64))] (codeAt B19 [1, 1, 1, 0, 1, 0, 0, 1, 0, 0, 1, 1, 1, 0, 1, 0, 0]) fun F Q => N19_l3_B F.1 F.2.1 F.2.2.1 F.2.2.2 (fun o0 h' => Q (.exit 6) (Sg.env [(8, .c (.slice))] o0) h')
theorem N19_l3_ok : Sound Tryd.prog Tryd.f19.ntmps N19_l3_t (codeAt B19 [1, 1, 1, 0, 1, 0, 0, 1, 0, 0, 1, 1, 1, 0, 1, 0]) := by
  refine loop_sound (fun e => match e with | .exit 6 => [8] | _ => []) (by kernel_rfl) ?_
  intro F Q s h Φ hb
  refine den_sound hE hm _ .leaf _ _ _ (annOk_leaf) ?_
  refine cast ?_ hb
  kernel_rfl
def N19_l1_b (x0_k : Option Addr) (Φ : Sl → Int → Hp → Prop) (x4_grown : Sl) (x5_i : Int) (h : Hp) (K_e2 : Sl → Hp → Prop) : Prop :=
  nn x0_k fun a0 =>
  xL (cell h a0) fun s0 =>
  bif (decide (x5_i < ((s0.n : Nat) : Int))) then
    nn x0_k fun a1 =>
    xL (cell h a1) fun s1 =>
    idx x5_i s1.n <|
    nn s1.p fun a2 =>
    xL (cell h (a2.add (x5_i.toNat * 1))) fun s2 =>
    N19_l2 x0_k x4_grown x5_i s2 0 h
      (fun h0 =>
        N19_l3 x0_k x4_grown x5_i s2 s2 0 h0
          (fun s3 h1 =>
            nw h1 (.cells ⟨[.slice s3.p s3.n s3.c]⟩ 24) fun b0 h2 =>
            apK Tryd.prog 24 x4_grown (.slice (some (bk b0)) 1 1) h2 fun s4 h3 =>
            Φ s4 (IntKind.wrap .i64 (x5_i + 1)) h3))
  else
    K_e2 x4_grown h
def N19_l1_B (x0_k : Option Addr) (K_e2 : Sl → Hp → Prop) (s : Sg.T [(4, .c (.slice)), (5, .c (.int .i64))]) (h : Hp) (Φ : Sg.T [(4, .c (.slice)), (5, .c (.int .i64))] → Hp → Prop) : Prop :=
  N19_l1_b x0_k (fun x4_grown x5_i h => Φ (x4_grown, x5_i) h) s.1 s.2 h K_e2
def N19_l1 (x0_k : Option Addr) (x4_grown : Sl) (x5_i : Int) (h : Hp) (K_e2 : Sl → Hp → Prop) : Prop :=
  loopP (N19_l1_B x0_k K_e2) (x4_grown, x5_i) h
noncomputable def N19_l1_t : Xf := loopT [(0, .c (.ptr))] [(4, .c (.slice)), (5, .c (.int .i64))] (codeAt B19 [1, 1, 1, 0, 1, 0, 0]) fun F Q => N19_l1_B F (fun o0 h' => Q (.exit 2) (Sg.env [(4, .c (.slice))] o0) h')
theorem N19_l1_ok : Sound Tryd.prog Tryd.f19.ntmps N19_l1_t (codeAt B19 [1, 1, 1, 0, 1, 0]) := by
  refine loop_sound (fun e => match e with | .exit 2 => [4] | _ => []) (by kernel_rfl) ?_
  intro F Q s h Φ hb
  refine den_sound hE hm _ (.two .leaf (.two (.one (.two .leaf (.two (.two .leaf (.one (.xf N19_l2_t))) (.two .leaf (.two (.two .leaf (.one (.xf N19_l3_t))) .leaf))))) .leaf)) _ _ _ (⟨annOk_leaf, ⟨⟨annOk_leaf, ⟨⟨annOk_leaf, N19_l2_ok⟩, ⟨annOk_leaf, ⟨⟨annOk_leaf, N19_l3_ok⟩, annOk_leaf⟩⟩⟩⟩, annOk_leaf⟩⟩) ?_
  refine cast ?_ hb
  kernel_rfl
def N19_l5_b (x0_k : Option Addr) (x4_grown : Sl) (x11_i : Int) (x12_l : Sl) (Φ : Int → Hp → Prop) (x13_n : Int) (h : Hp) (K_e10 : Hp → Prop) (K_ret : Bool → Hp → Prop) : Prop :=
  idx x11_i x4_grown.n <|
  nn x4_grown.p fun a0 =>
  xL (cell h (a0.add (x11_i.toNat * 1))) fun s0 =>
  bif (decide (x13_n < ((s0.n : Nat) : Int))) then
    C45 x11_i x13_n h fun n0 h0 =>
    idx x11_i x4_grown.n <|
    nn x4_grown.p fun a1 =>
    xL (cell h0 (a1.add (x11_i.toNat * 1))) fun s1 =>
    idx x13_n s1.n <|
    nn s1.p fun a2 =>
    xI .u8 (cell h0 (a2.add (x13_n.toNat * 1))) fun n1 =>
    bif (n1 != n0) then
      K_ret false h0
    else
      bif (decide (x13_n < ((x12_l.n : Nat) : Int))) then
        idx x13_n x12_l.n <|
        nn x12_l.p fun a3 =>
        xI .u8 (cell h0 (a3.add (x13_n.toNat * 1))) fun n2 =>
        bif (n2 != n0) then
          K_ret false h0
        else
          Φ (IntKind.wrap .i64 (x13_n + 1)) h0
      else
        Φ (IntKind.wrap .i64 (x13_n + 1)) h0
  else
    K_e10 h
def N19_l5_B (x0_k : Option Addr) (x4_grown : Sl) (x11_i : Int) (x12_l : Sl) (K_e10 : Hp → Prop) (K_ret : Bool → Hp → Prop) (s : Sg.T [(13, .c (.int .i64))]) (h : Hp) (Φ : Sg.T [(13, .c (.int .i64))] → Hp → Prop) : Prop :=
  N19_l5_b x0_k x4_grown x11_i x12_l (fun x13_n h => Φ x13_n h) s h K_e10 K_ret
def N19_l5 (x0_k : Option Addr) (x4_grown : Sl) (x11_i : Int) (x12_l : Sl) (x13_n : Int) (h : Hp) (K_e10 : Hp → Prop) (K_ret : Bool → Hp → Prop) : Prop :=
  loopP (N19_l5_B x0_k x4_grown x11_i x12_l K_e10 K_ret) x13_n h
noncomputable def N19_l5_t : Xf := loopT [(0, .c (.ptr)), (4, .c (.slice)), (11, .c (.int .i64)), (12, .c (.slice))] [(13, .c (.int .i64))] (codeAt B19 [1, 1, 1, 1, 0, 1, 0, 0, 1, 0, 0, 1, 1, 0, 0]) fun F Q => N19_l5_B F.1 F.2.1 F.2.2.1 F.2.2.2 (fun h' => Q (.exit 10) (Sg.env [] ()) h') (fun o0 h' => Q .ret (Sg.env [(2, .c (.bool))] o0) h')
theorem N19_l5_ok : Sound Tryd.prog Tryd.f19.ntmps N19_l5_t (codeAt B19 [1, 1, 1, 1, 0, 1, 0, 0, 1, 0, 0, 1, 1, 0]) := by
  refine loop_sound (fun e => match e with | .exit 10 => [] | .ret => [2] | _ => []) (by kernel_rfl) ?_
  intro F Q s h Φ hb
  refine den_sound hE hm _ .leaf _ _ _ (annOk_leaf) ?_
  refine cast ?_ hb
  kernel_rfl
def N19_l4_b (x0_k : Option Addr) (x4_grown : Sl) (Φ : Int → Hp → Prop) (x11_i : Int) (h : Hp) (K_e8 : Hp → Prop) (K_ret : Bool → Hp → Prop) : Prop :=
  bif (decide (x11_i < ((x4_grown.n : Nat) : Int))) then
    nn x0_k fun a0 =>
    xL (cell h a0) fun s0 =>
    idx x11_i s0.n <|
    nn s0.p fun a1 =>
    xL (cell h (a1.add (x11_i.toNat * 1))) fun s1 =>
    N19_l5 x0_k x4_grown x11_i s1 0 h
      (fun h0 =>
        Φ (IntKind.wrap .i64 (x11_i + 1)) h0)
      (fun b0 h1 =>
        K_ret b0 h1)
  else
    K_e8 h
def N19_l4_B (x0_k : Option Addr) (x4_grown : Sl) (K_e8 : Hp → Prop) (K_ret : Bool → Hp → Prop) (s : Sg.T [(11, .c (.int .i64))]) (h : Hp) (Φ : Sg.T [(11, .c (.int .i64))] → Hp → Prop) : Prop :=
  N19_l4_b x0_k x4_grown (fun x11_i h => Φ x11_i h) s h K_e8 K_ret
def N19_l4 (x0_k : Option Addr) (x4_grown : Sl) (x11_i : Int) (h : Hp) (K_e8 : Hp → Prop) (K_ret : Bool → Hp → Prop) : Prop :=
  loopP (N19_l4_B x0_k x4_grown K_e8 K_ret) x11_i h
noncomputable def N19_l4_t : Xf := loopT [(0, .c (.ptr)), (4, .c (.slice))] [(11, .c (.int .i64))] (codeAt B19 [1, 1, 1, 1, 0, 1, 0, 0]) fun F Q => N19_l4_B F.1 F.2 (fun h' => Q (.exit 8) (Sg.env [] ()) h') (fun o0 h' => Q .ret (Sg.env [(2, .c (.bool))] o0) h')
theorem N19_l4_ok : Sound Tryd.prog Tryd.f19.ntmps N19_l4_t (codeAt B19 [1, 1, 1, 1, 0, 1, 0]) := by
  refine loop_sound (fun e => match e with | .exit 8 => [] | .ret => [2] | _ => []) (by kernel_rfl) ?_
  intro F Q s h Φ hb
  refine den_sound hE hm _ (.two .leaf (.two (.one (.two .leaf (.two .leaf (.one (.xf N19_l5_t))))) .leaf)) _ _ _ (⟨annOk_leaf, ⟨⟨annOk_leaf, ⟨annOk_leaf, N19_l5_ok⟩⟩, annOk_leaf⟩⟩) ?_
  refine cast ?_ hb
  kernel_rfl
def N19 (x0 : Option Addr) (h : Hp) (K : Bool → Hp → Prop) : Prop :=
  N19_l0 x0 0 h
    (fun h0 =>
      N19_l1 x0 ⟨none, 0, 0⟩ 0 h0
        (fun s0 h1 =>
          N19_l4 x0 s0 0 h1
            (fun h2 =>
              K true h2)
            (fun b0 h3 =>
              K b0 h3)))
    (fun b1 h4 =>
      K b1 h4)
theorem S19 {x0 : Option Addr} {h : Hp} {K : Bool → Hp → Prop} (hn : N19 x0 h K) : C19 x0 h K := by
  refine calls_of_D Tryd.func19 (c := B19) rfl (by kernel_rfl) ?_
  refine den_sound hE hm _ (.two .leaf (.two (.two .leaf (.one (.xf N19_l0_t))) (.two .leaf (.two (.two .leaf (.one (.xf N19_l1_t))) (.two (.two .leaf (.one (.xf N19_l4_t))) .leaf))))) _ _ _ (⟨annOk_leaf, ⟨⟨annOk_leaf, N19_l0_ok⟩, ⟨annOk_leaf, ⟨⟨annOk_leaf, N19_l1_ok⟩, ⟨⟨annOk_leaf, N19_l4_ok⟩, annOk_leaf⟩⟩⟩⟩⟩) ?_
  refine cast ?_ hn
  kernel_rfl
end Go.Proofs.YtlioifgejijcoaaDoor

/-
  A book of lists of bytes that came out: one more is taken; all of them are their owner's.
-/
set_option linter.unusedSimpArgs false
set_option linter.unusedVariables false
namespace Go.Proofs.YtlioifgejijcoaaDoor
open Go Go.Hw

theorem yl_a : Tryd.prog.cellsOf 24 = 1 := by kernel_rfl
theorem yl_z : (zc Tryd.prog 24).length = 1 := by kernel_rfl
theorem yl_b : Tryd.prog.bytesOf 24 = 24 := by kernel_rfl
theorem st_a : Tryd.prog.cellsOf 9 = 1 := by kernel_rfl
theorem st_z : (zc Tryd.prog 9).length = 1 := by kernel_rfl
theorem st_b : Tryd.prog.bytesOf 9 = 16 := by kernel_rfl

abbrev Ent := Sl × List UInt8
def ownB (e : Ent) : Asn := Hw.own 5 1 e.1 (bc e.2)
/-- a book -/
def bookA (k : Nat) (E : List Ent) : Asn := exs fun p : Sl × Sl => star [row k 30 [p.1.v, p.2.v], Hw.own 24 1 p.1 (E.map fun e => e.1.v), Hw.own 9 1 p.2 (E.map fun e => .string ⟨⟨e.2⟩⟩), star (E.map ownB)]

theorem Sat.unex {α : Type} {L : List Asn} {A : α → Asn} {h : Hp} (hs : Sat (L ++ [exs A]) h) : ∃ a, Sat (L ++ [A a]) h := by
  obtain ⟨F, h1, h2⟩ := hs
  obtain ⟨a, ha⟩ := h1 L.length (exs A) (by simp)
  refine ⟨a, F, fun i B hi => ?_, by simpa using h2⟩
  by_cases e : i < L.length
  · rw [List.getElem?_append_left e] at hi
    exact h1 i B (by rw [List.getElem?_append_left e]; exact hi)
  · have := lt_of_get hi
    simp at this
    have : i = L.length := by omega
    subst this
    simp at hi; subst hi; exact ha
theorem Sat.ex {α : Type} {L : List Asn} {A : α → Asn} {h : Hp} (a : α) (hs : Sat (L ++ [A a]) h) : Sat (L ++ [exs A]) h := hs.imp 0 rfl fun F hF => ⟨a, hF⟩

/-- one more is taken -/
theorem c_take {L : List Asn} {k : Nat} {E : List Ent} {s : Sl} {l : List UInt8} {h : Hp} {K : Hp → Prop} (hs : Sat (L ++ [bookA k E, Hw.own 5 1 s (bc l)]) h) (hE : E.length ≤ 1099511627776)
    (hK : ∀ h', Sat (L ++ [bookA k (E ++ [(s, l)])]) h' → K h') : C18 (some (bk k)) s h K := by
  apply S18; unfold N18
  obtain ⟨⟨p, q⟩, hs⟩ := Sat.unex (hs.rot 0 rfl)
  replace hs := hs.open
  rw [show (L ++ [bookA k E, Hw.own 5 1 s (bc l)].eraseIdx 0) = L ++ [Hw.own 5 1 s (bc l)] from rfl, List.append_assoc] at hs
  simp only [List.cons_append, List.nil_append] at hs
  have hk := hs.blk 1 rfl
  have c0 : cell h (bk k) = some p.v := by rw [hk.cell]; rfl
  have pn : p.n = E.length := by have := (hs.own 2 rfl).1; simpa using this.symm
  have qn : q.n = E.length := by have := (hs.own 3 rfl).1; simpa using this.symm
  simp only [nn_some', c0, xL_v]
  refine hs.push 2 rfl (k := 1) yl_a yl_z rfl (by intro v hv; simp at hv; subst hv; rfl) (by rw [yl_b]; omega) ?_
  intro p' h1 hs pn'
  simp only [List.set_cons_succ, List.set_cons_zero] at hs
  refine hs.st (b := k) (k := 0) (v := p'.v) 1 rfl (by simp) rfl ?_
  intro h2 hs
  simp only [List.set_cons_succ, List.set_cons_zero] at hs
  have hk2 := hs.blk 1 rfl
  have c1 : cell h2 ((bk k).add 1) = some q.v := by rw [add_bk, hk2.cell]; rfl
  simp only [c1, xL_v]
  have hr := (hs.own 0 rfl).rdb
  refine hr.b2s ?_
  intro b1 e1
  have hs3 := hs.ext (Ext.new (o := .cells ⟨[.string ⟨⟨l⟩⟩]⟩ 9 (0, 0)) e1)
  have c2 : cell (upd h2 b1 (.cells ⟨[.string ⟨⟨l⟩⟩]⟩ 9 (0, 0))) ((bk k).add 1) = some q.v := by rw [add_bk, (hs3.blk 1 rfl).cell]; rfl
  refine ⟨by rw [c2]; exact ⟨rfl, rfl⟩, ?_⟩
  refine hs3.ap 3 rfl (n := 1) (ns := [.string ⟨⟨l⟩⟩]) st_a st_z (fun _ => rfl) ?_ rfl (by intro v hv; simp at hv; subst hv; rfl) (by rw [st_b]; omega) ?_
  · intro G hG
    unfold srcK
    simp only []
    rw [rdN_blk (T := 9) (cs := [.string ⟨⟨l⟩⟩]) Blk.upd_same _ _ (by simp)]
    exact hG
  · intro q' h4 hs qn'
    simp only [List.set_cons_succ, List.set_cons_zero] at hs
    simp only [nn_some', add_bk]
    refine hs.st (b := k) (k := 1) (v := q'.v) 1 rfl (by simp) rfl ?_
    intro h5 hs
    simp only [List.set_cons_succ, List.set_cons_zero] at hs
    refine hK _ ?_
    -- put together
    have g1 : Sat ((L ++ [Hw.own 5 1 s (bc l), row k 30 [p'.v, q'.v], Hw.own 24 1 p' (E.map (fun e => e.1.v) ++ [s.v]), Hw.own 9 1 q' (E.map (fun e => .string ⟨⟨e.2⟩⟩) ++ [.string ⟨⟨l⟩⟩]), star (E.map ownB)].eraseIdx 0) ++ [Hw.own 5 1 s (bc l)]) h5 := hs.rot 0 rfl
    have g2 : Sat ((L ++ [row k 30 [p'.v, q'.v], Hw.own 24 1 p' (E.map (fun e => e.1.v) ++ [s.v]), Hw.own 9 1 q' (E.map (fun e => .string ⟨⟨e.2⟩⟩) ++ [.string ⟨⟨l⟩⟩])]) ++ [star (E.map ownB), Hw.own 5 1 s (bc l)]) h5 := by simpa using g1
    have g3 := g2.into
    have g4 : Sat (L ++ [row k 30 [p'.v, q'.v], Hw.own 24 1 p' ((E ++ [(s, l)]).map fun e => e.1.v), Hw.own 9 1 q' ((E ++ [(s, l)]).map fun e => .string ⟨⟨e.2⟩⟩), star ((E ++ [(s, l)]).map ownB)]) h5 := by simpa [ownB] using g3
    exact Sat.ex (A := fun p : Sl × Sl => star [row k 30 [p.1.v, p.2.v], Hw.own 24 1 p.1 ((E ++ [(s, l)]).map fun e => e.1.v), Hw.own 9 1 p.2 ((E ++ [(s, l)]).map fun e => .string ⟨⟨e.2⟩⟩), star ((E ++ [(s, l)]).map ownB)]) (p', q') g4.close

/-! ### all of them are their owner's -/
def mk (i n : Nat) : List UInt8 := (List.range n).map fun j => UInt8.ofNat (markN i j)
theorem mk_len (i n : Nat) : (mk i n).length = n := by simp [mk]
theorem mk_succ (i n : Nat) : mk i (n + 1) = mk i n ++ [UInt8.ofNat (markN i n)] := by simp [mk, List.range_succ]
theorem mk_get (i n j : Nat) (hj : j < n) : (mk i n)[j]'(by rw [mk_len]; exact hj) = UInt8.ofNat (markN i j) := by simp [mk]
theorem mark_u8 (i j : Nat) : ((UInt8.ofNat (markN i j)).toNat : Int) = ((markN i j : Nat) : Int) := by
  rw [UInt8.toNat_ofNat']
  have : markN i j < 256 := by unfold markN; omega
  omega

/-- one list is written over with marks -/
theorem owned2 {L : List Asn} {kk : Option Addr} {gr s : Sl} {i : Nat} {l : List UInt8} {h : Hp} {Ke : Hp → Prop} (hs : Sat (L ++ [Hw.own 5 1 s (bc l)]) h) (hi : i ≤ 1099511627776) (hl : l.length ≤ 140737488355000)
    (hK : ∀ h', Sat (L ++ [Hw.own 5 1 s (bc (mk i l.length))]) h' → Ke h') : N19_l2 kk gr i s 0 h Ke := by
  unfold N19_l2
  have sn := (hs.own 0 rfl).1
  simp at sn
  refine loopP_inv (fun (x : Int) hc => ∃ n : Nat, x = n ∧ n ≤ l.length ∧ Sat (L ++ [Hw.own 5 1 s (bc (mk i n ++ l.drop n))]) hc) (fun x _ => l.length - x.toNat) ?_ ⟨0, rfl, Nat.zero_le _, by simpa [mk] using hs⟩
  rintro x hc ⟨n, rfl, hn, hs⟩
  unfold N19_l2_B N19_l2_b
  by_cases hlt : n < l.length
  · have : decide ((n : Int) < ((s.n : Nat) : Int)) = true := by simp; omega
    rw [this, cond_true]
    refine c_mark (by omega) (by omega) ?_
    refine hs.stAt (k := n) 0 rfl rfl (by simp [mk_len]; omega) rfl ?_
    intro h' hs'
    rw [nat_succ64 (by omega)]
    refine ⟨⟨n + 1, rfl, hlt, ?_⟩, by omega⟩
    simp only [List.set_cons_zero] at hs'
    rw [← mark_u8, ← bc_set] at hs'
    have : (mk i n ++ l.drop n).set n (UInt8.ofNat (markN i n)) = mk i (n + 1) ++ l.drop (n + 1) := by
      rw [List.set_append_right _ _ (by rw [mk_len]; exact Nat.le_refl _), mk_len, Nat.sub_self, List.drop_eq_getElem_cons hlt, List.set_cons_zero, mk_succ]
      simp
    rw [this] at hs'; exact hs'
  · have : decide ((n : Int) < ((s.n : Nat) : Int)) = false := by simp; omega
    rw [this, cond_false]
    have : n = l.length := by omega
    subst this
    refine hK _ ?_
    simpa using hs

/-- a list that is marked and grown: in its place, or beside it -/
def dn (i : Nat) (e : Ent) (g : Sl) : Asn :=
  orA (star [pur (g.p = e.1.p ∧ g.c = e.1.c ∧ e.1.n = e.2.length ∧ e.1.n ≤ e.1.c), Hw.own 5 1 g (bc (mk i (e.2.length + 9)))]) (star [Hw.own 5 1 e.1 (bc (mk i e.2.length)), Hw.own 5 1 g (bc (mk i (e.2.length + 9)))])
theorem star_two {A B : Asn} {F : Nat → Prop} {h : Hp} (hh : (star [A, B]).on F h) : (∃ G, A.on G h) ∧ ∃ G, B.on G h := by
  obtain ⟨G, h1, _, _⟩ := hh
  exact ⟨⟨_, h1 0 A rfl⟩, ⟨_, h1 1 B rfl⟩⟩
theorem dn_reads {i : Nat} {e : Ent} {g : Sl} {F : Nat → Prop} {h : Hp} (hd : (dn i e g).on F h) : RdB h e.1 (mk i e.2.length) ∧ RdB h g (mk i (e.2.length + 9)) := by
  rcases hd with hd | hd
  · obtain ⟨⟨_, hp⟩, ⟨_, hg⟩⟩ := star_two hd
    have hr := hg.2.rdb
    refine ⟨⟨by rw [mk_len]; exact hp.2.2.2.1, hp.2.2.2.2, ?_⟩, hr⟩
    have := hr.r.take e.2.length
    rw [← bc_take] at this
    have ht : (mk i (e.2.length + 9)).take e.2.length = mk i e.2.length := by simp [mk, ← List.map_take, List.take_range]
    rw [ht, hp.2.1] at this; exact this
  · obtain ⟨⟨_, hp⟩, ⟨_, hg⟩⟩ := star_two hd
    exact ⟨hp.2.rdb, hg.2.rdb⟩

theorem owned3 {L : List Asn} {kk : Option Addr} {gr s : Sl} {i : Nat} {l : List UInt8} {h : Hp} {Ke : Sl → Hp → Prop} (hs : Sat (L ++ [Hw.own 5 1 s (bc (mk i l.length))]) h) (hi : i ≤ 1099511627776) (hl : l.length ≤ 17592186044416)
    (hK : ∀ g h', Sat (L ++ [dn i (s, l) g]) h' → Ke g h') : N19_l3 kk gr i s s 0 h Ke := by
  unfold N19_l3
  have so := hs.own 0 rfl
  have sn := so.1
  simp [mk_len] at sn
  have sc := so.2.1
  refine loopP_inv (fun (x : Sl × Int) hc => ∃ n : Nat, x.2 = n ∧ n ≤ 9 ∧ x.1.n = l.length + n ∧
      ((x.1.p = s.p ∧ x.1.c = s.c ∧ Sat (L ++ [Hw.own 5 1 x.1 (bc (mk i (l.length + n)))]) hc) ∨ Sat (L ++ [Hw.own 5 1 s (bc (mk i l.length)), Hw.own 5 1 x.1 (bc (mk i (l.length + n)))]) hc)) (fun x _ => 9 - x.2.toNat) ?_
    ⟨0, rfl, by omega, by first | omega | (dsimp only; omega), .inl ⟨rfl, rfl, hs⟩⟩
  rintro ⟨g, x⟩ hc ⟨n, hx, hn, hgn, hs⟩
  simp only at hx hgn hs
  subst hx
  unfold N19_l3_B N19_l3_b
  dsimp only
  by_cases hlt : n < 9
  · have : decide ((n : Int) < 9) = true := by simp; omega
    rw [this, cond_true]
    have ea : IntKind.wrap .i64 (((s.n : Nat) : Int) + (n : Int)) = ((l.length + n : Nat) : Int) := by rw [wi64i (by omega) (by omega)]; omega
    rw [ea]
    refine c_mark (by omega) (by omega) ?_
    rw [nat_succ64 (by omega)]
    have eb : bc (mk i (l.length + n)) ++ [Value.int .u8 ((markN i (l.length + n) : Nat) : Int)] = bc (mk i (l.length + (n + 1))) := by
      rw [← Nat.add_assoc, mk_succ, bc_app, ← mark_u8]; rfl
    rcases hs with ⟨hp, hc2, hs⟩ | hs
    · refine hs.push2 0 rfl (k := 1) y_a y_zl rfl (by intro v hv; simp at hv; subst hv; rfl) (by rw [y_b]; omega) ?_ ?_
      · intro hle h' hs'
        rw [eb] at hs'
        exact ⟨⟨n + 1, rfl, hlt, by first | omega | (dsimp only; omega), .inl ⟨hp, hc2, hs'⟩⟩, by first | omega | (dsimp only; omega)⟩
      · intro s' h' hn' hs'
        rw [eb] at hs'
        refine ⟨⟨n + 1, rfl, hlt, by first | omega | (dsimp only; omega), .inr ?_⟩, by first | omega | (dsimp only; omega)⟩
        refine hs'.imp 0 rfl ?_
        rintro F ⟨f1, f2⟩
        have fcut := f2.cut (k := l.length) (by omega)
        rw [hp, hc2] at fcut
        refine ⟨fun x => by rw [← hp]; exact f1 x, ?_⟩
        have es : (⟨s.p, l.length, s.c⟩ : Sl) = s := by cases s; simp only at sn; rw [← sn]
        rw [es, Nat.mul_one, ← bc_take] at fcut
        have ht : (mk i (l.length + n)).take l.length = mk i l.length := by simp [mk, ← List.map_take, List.take_range]
        rw [ht] at fcut; exact fcut
    · refine hs.push 1 rfl (k := 1) y_a y_zl rfl (by intro v hv; simp at hv; subst hv; rfl) (by rw [y_b]; omega) ?_
      intro s' h' hs' hn'
      rw [eb] at hs'
      exact ⟨⟨n + 1, rfl, hlt, by first | omega | (dsimp only; omega), .inr hs'⟩, by first | omega | (dsimp only; omega)⟩
  · have : decide ((n : Int) < 9) = false := by simp; omega
    rw [this, cond_false]
    have : n = 9 := by omega
    subst this
    refine hK g hc ?_
    rcases hs with ⟨hp, hc2, hs⟩ | hs
    · have h1 : Sat (L ++ [star [pur (g.p = s.p ∧ g.c = s.c ∧ s.n = l.length ∧ s.n ≤ s.c), Hw.own 5 1 g (bc (mk i (l.length + 9)))]]) hc := by
        refine hs.imp 0 rfl fun F hF => ?_
        refine ⟨fun j x => if j = 1 then F x else False, ?_, ?_, ?_⟩
        · intro j A hj
          match j, hj with
          | 0, hj => simp at hj; subst hj; exact ⟨fun x hx => by simp at hx, hp, hc2, by omega, sc⟩
          | 1, hj => simp at hj; subst hj; simpa using hF
          | j + 2, hj => simp at hj
        · intro j k x hj hk h1 h2
          simp at h1 h2; omega
        · intro x; constructor
          · intro hx; exact ⟨1, by simp, by simpa using hx⟩
          · rintro ⟨j, _, hx⟩; simp at hx; exact hx.2
      exact h1.imp 0 rfl fun F hF => .inl hF
    · exact hs.close.imp 0 rfl fun F hF => .inr hF

/-- the lists, of which some are done -/
def its (E : List Ent) (G : List Sl) : List Asn := E.mapIdx fun j e => match G[j]? with
  | some g => dn j e g
  | none => ownB e
theorem its_get {E : List Ent} {G : List Sl} {j : Nat} {e : Ent} (hj : E[j]? = some e) : (its E G)[j]? = some (match G[j]? with | some g => dn j e g | none => ownB e) := by
  simp [its, List.getElem?_mapIdx, hj]
theorem its_len (E : List Ent) (G : List Sl) : (its E G).length = E.length := by simp [its]
theorem its_nil (E : List Ent) : its E [] = E.map ownB := by
  apply List.ext_getElem?
  intro j
  simp [its, List.getElem?_mapIdx]
theorem its_set {E : List Ent} {G : List Sl} {e : Ent} {g : Sl} (he : E[G.length]? = some e) : (its E G).set G.length (dn G.length e g) = its E (G ++ [g]) := by
  apply List.ext_getElem?
  intro j
  have hl := lt_of_get he
  by_cases hj : j = G.length
  · subst hj
    rw [List.getElem?_set_self (by rw [its_len]; exact hl), its_get he]
    simp
  · rw [List.getElem?_set_ne (fun e => hj e.symm)]
    cases hE : E[j]? with
    | none => simp [its, List.getElem?_mapIdx, hE]
    | some e' =>
      rw [its_get hE, its_get hE]
      congr 1
      by_cases h2 : j < G.length
      · rw [List.getElem?_append_left h2]
      · rw [List.getElem?_eq_none (by omega), List.getElem?_eq_none (by simp; omega)]

theorem c_owned {L : List Asn} {k : Nat} {E : List Ent} {h : Hp} {K : Bool → Hp → Prop} (hs : Sat (L ++ [bookA k E]) h) (hE : E.length ≤ 1099511627776) (hl : ∀ e ∈ E, e.2.length ≤ 17592186044416)
    (hK : ∀ h', Sat L h' → K true h') : C19 (some (bk k)) h K := by
  apply S19; unfold N19
  obtain ⟨⟨p, q⟩, hs⟩ := Sat.unex hs
  replace hs := hs.open
  have h3 : Sat ((L ++ [row k 30 [p.v, q.v], Hw.own 24 1 p (E.map fun e => e.1.v), Hw.own 9 1 q (E.map fun e => .string ⟨⟨e.2⟩⟩)]) ++ [star (E.map ownB)]) h := by simpa using hs
  replace hs := h3.open
  rw [List.append_assoc] at hs
  have hk := hs.blk 0 rfl
  have pn : p.n = E.length := by have := (hs.own 1 rfl).1; simpa using this.symm
  have qn : q.n = E.length := by have := (hs.own 2 rfl).1; simpa using this.symm
  have c0 : cell h (bk k) = some p.v := by rw [hk.cell]; rfl
  have c1 : cell h ((bk k).add 1) = some q.v := by rw [add_bk, hk.cell]; rfl
  -- the first loop: they read as they did
  unfold N19_l0
  refine loopP_inv (fun (x : Int) hc => hc = h ∧ ∃ i : Nat, x = i ∧ i ≤ E.length) (fun x _ => E.length - x.toNat) ?_ ⟨rfl, 0, rfl, Nat.zero_le _⟩
  rintro x hc ⟨rfl, i, rfl, hi⟩
  unfold N19_l0_B N19_l0_b
  simp only [nn_some', c0, xL_v]
  by_cases hlt : i < E.length
  · have : decide ((i : Int) < ((p.n : Nat) : Int)) = true := by simp; omega
    rw [this, cond_true]
    have he : E[i]? = some E[i] := List.getElem?_eq_getElem hlt
    obtain ⟨b, hb, hcell⟩ := (hs.own 1 rfl).get (k := i) (v := E[i].1.v) (by rw [List.getElem?_map, he]; rfl)
    obtain ⟨b2, hb2, hcell2⟩ := (hs.own 2 rfl).get (k := i) (v := .string ⟨⟨E[i].2⟩⟩) (by rw [List.getElem?_map, he]; rfl)
    refine idx_of (by omega) (by omega) ?_
    rw [hb]
    simp only [nn_some', add_bk, Int.toNat_natCast, Nat.mul_one, hcell, xL_v]
    have hr := (hs.own (3 + i) (T := 5) (sz := 1) (s := E[i].1) (vs := bc E[i].2) (by
      rw [List.getElem?_append_right (by simp)]
      simp [ownB, he])).rdb
    refine hr.b2s ?_
    have c1' : cell hc ⟨k, 1, none⟩ = some q.v := by rw [hk.cell]; rfl
    simp only [c1', xL_v]
    refine idx_of (by omega) (by omega) ?_
    rw [hb2]
    simp only [nn_some', add_bk, Int.toNat_natCast, Nat.mul_one, hcell2, xS_some, beq_self_eq_true, Bool.not_true, cond_false]
    rw [nat_succ64 (by omega)]
    exact ⟨⟨trivial, i + 1, rfl, hlt⟩, by omega⟩
  · have : decide ((i : Int) < ((p.n : Nat) : Int)) = false := by simp; omega
    rw [this, cond_false]
    clear this hlt hi
    -- the second loop: marked and grown
    have hs5 : Sat (L ++ ([row k 30 [p.v, q.v], Hw.own 24 1 p (E.map fun e => e.1.v), Hw.own 24 1 ⟨none, 0, 0⟩ []] ++ its E [])) hc := by
      refine (Sat.addNil 24 1 hs).pick (fun n => if n < L.length + 2 then n else if n = L.length + 2 then L.length + (3 + E.length) else n) ?_ ?_
      · intro n A hn
        rw [its_nil] at hn
        have hnl := lt_of_get hn
        simp at hnl
        by_cases e1 : n < L.length
        · rw [if_pos (by omega)]
          rw [List.getElem?_append_left e1] at hn ⊢; exact hn
        · rw [List.getElem?_append_right (by omega)] at hn
          by_cases e2 : n < L.length + 2
          · rw [if_pos e2, List.getElem?_append_right (by omega)]
            rcases (show n - L.length = 0 ∨ n - L.length = 1 by omega) with q | q <;> rw [q] at hn ⊢ <;> simpa using hn
          · rw [if_neg e2]
            by_cases e3 : n = L.length + 2
            · rw [if_pos e3, List.getElem?_append_right (by omega), List.getElem?_append_right (by simp; omega)]
              have e0 : L.length + (3 + E.length) - L.length - ([row k 30 [p.v, q.v], Hw.own 24 1 p (E.map fun e => e.1.v), Hw.own 9 1 q (E.map fun e => .string ⟨⟨e.2⟩⟩)] ++ E.map ownB).length = 0 := by
                simp only [List.length_append, List.length_cons, List.length_nil, List.length_map]; omega
              rw [e0]
              rw [e3, show L.length + 2 - L.length = 2 by omega] at hn
              exact hn
            · rw [if_neg e3, List.getElem?_append_right (by omega), List.getElem?_append_left (by simp; omega)]
              obtain ⟨d, hd⟩ : ∃ d, n - L.length = d + 3 := ⟨n - L.length - 3, by omega⟩
              rw [hd] at hn ⊢
              simpa using hn
      · intro n m hn hm e
        simp [its_nil] at hn hm
        split at e <;> split at e <;> (try split at e) <;> (try split at e) <;> omega
    unfold N19_l1
    refine loopP_inv (fun (x : Sl × Int) hd => ∃ G : List Sl, x.2 = (G.length : Int) ∧ G.length ≤ E.length ∧ Sat (L ++ ([row k 30 [p.v, q.v], Hw.own 24 1 p (E.map fun e => e.1.v), Hw.own 24 1 x.1 (G.map Sl.v)] ++ its E G)) hd) (fun x _ => E.length - x.2.toNat) ?_
      ⟨[], rfl, Nat.zero_le _, hs5⟩
    clear hs hs5 h3 c0 c1 hk
    rintro ⟨gr, x⟩ hd ⟨G, hx, hG, hs⟩
    simp only at hx hs
    subst hx
    have hk := hs.blk 0 rfl
    have c0 : cell hd (bk k) = some p.v := by rw [hk.cell]; rfl
    unfold N19_l1_B N19_l1_b
    simp only [nn_some', c0, xL_v]
    have grn : gr.n = G.length := by have := (hs.own 2 rfl).1; simpa using this.symm
    by_cases hlt : G.length < E.length
    · have : decide ((G.length : Int) < ((p.n : Nat) : Int)) = true := by simp; omega
      rw [this, cond_true]
      have he : E[G.length]? = some E[G.length] := List.getElem?_eq_getElem hlt
      generalize hee : E[G.length] = e at he
      obtain ⟨b, hb, hcell⟩ := (hs.own 1 rfl).get (k := G.length) (v := e.1.v) (by rw [List.getElem?_map, he]; rfl)
      refine idx_of (by omega) (by omega) ?_
      rw [hb]
      simp only [nn_some', add_bk, Int.toNat_natCast, Nat.mul_one, hcell, xL_v]
      have hel := hl e (List.mem_of_getElem? he)
      have hit : ([row k 30 [p.v, q.v], Hw.own 24 1 p (E.map fun e => e.1.v), Hw.own 24 1 gr (G.map Sl.v)] ++ its E G)[3 + G.length]? = some (ownB e) := by
        rw [List.getElem?_append_right (by simp), show 3 + G.length - [row k 30 [p.v, q.v], Hw.own 24 1 p (E.map fun e => e.1.v), Hw.own 24 1 gr (G.map Sl.v)].length = G.length by simp, its_get he]
        simp
      refine owned2 (hs.rot (3 + G.length) hit) (by omega) (by omega) ?_
      intro h1 hs1
      refine owned3 hs1 (by omega) hel ?_
      intro g h2 hs2
      have hs3 := Sat.back hs2 (by have := lt_of_get hit; exact this)
      rw [List.set_append_right _ _ (by simp), show 3 + G.length - [row k 30 [p.v, q.v], Hw.own 24 1 p (E.map fun e => e.1.v), Hw.own 24 1 gr (G.map Sl.v)].length = G.length by simp] at hs3
      have eit : (its E G).set G.length (dn G.length (e.1, e.2) g) = its E (G ++ [g]) := its_set he
      rw [eit] at hs3
      refine hs3.push 2 rfl (k := 1) yl_a yl_z rfl (by intro v hv; simp at hv; subst hv; rfl) (by rw [yl_b]; omega) ?_
      intro gr' h4 hs4 hn4
      rw [nat_succ64 (by omega)]
      refine ⟨⟨G ++ [g], by simp, by simp; omega, ?_⟩, by first | omega | (dsimp only; omega)⟩
      have eg : (Value.slice g.p g.n g.c) = g.v := rfl
      rw [eg] at hs4
      simpa using hs4
    · have : decide ((G.length : Int) < ((p.n : Nat) : Int)) = false := by simp; omega
      rw [this, cond_false]
      have hGE : G.length = E.length := by omega
      clear this hlt
      -- the last loops: they read so
      have hL : Sat L hd := hs.left
      have reads : ∀ (i : Nat) (e : Ent) (g : Sl), E[i]? = some e → G[i]? = some g → RdB hd e.1 (mk i e.2.length) ∧ RdB hd g (mk i (e.2.length + 9)) := by
        intro i e g he hg
        obtain ⟨F, hF⟩ := hs.get' (3 + i) (A := dn i e g) (by
          rw [List.getElem?_append_right (by simp), show 3 + i - [row k 30 [p.v, q.v], Hw.own 24 1 p (E.map fun e => e.1.v), Hw.own 24 1 gr (G.map Sl.v)].length = i by simp, its_get he, hg])
        exact dn_reads hF
      have go := hs.own 2 rfl
      have po := hs.own 1 rfl
      unfold N19_l4
      refine loopP_inv (fun (x : Int) hf => hf = hd ∧ ∃ i : Nat, x = i ∧ i ≤ E.length) (fun x _ => E.length - x.toNat) ?_ ⟨rfl, 0, rfl, Nat.zero_le _⟩
      rintro x hf ⟨rfl, i, rfl, hi⟩
      unfold N19_l4_B N19_l4_b
      by_cases hlt : i < E.length
      · have : decide ((i : Int) < ((gr.n : Nat) : Int)) = true := by simp; omega
        rw [this, cond_true]
        simp only [nn_some', c0, xL_v]
        have he : E[i]? = some E[i] := List.getElem?_eq_getElem hlt
        have hg : G[i]? = some (G[i]'(by omega)) := List.getElem?_eq_getElem (by omega)
        generalize E[i] = e at he
        generalize (G[i]'(by omega)) = g at hg
        obtain ⟨r1, r2⟩ := reads i e g he hg
        have hel := hl e (List.mem_of_getElem? he)
        obtain ⟨b, hb, hcell⟩ := po.get (k := i) (v := e.1.v) (by rw [List.getElem?_map, he]; rfl)
        obtain ⟨b2, hb2, hcell2⟩ := go.get (k := i) (v := g.v) (by rw [List.getElem?_map, hg]; rfl)
        refine idx_of (by omega) (by omega) ?_
        rw [hb]
        simp only [nn_some', add_bk, Int.toNat_natCast, Nat.mul_one, hcell, xL_v]
        unfold N19_l5
        refine loopP_inv (fun (y : Int) hg => hg = hf ∧ ∃ n : Nat, y = n ∧ n ≤ e.2.length + 9) (fun y _ => e.2.length + 9 - y.toNat) ?_ ⟨rfl, 0, rfl, Nat.zero_le _⟩
        rintro y hf2 ⟨rfl, n, rfl, hn⟩
        unfold N19_l5_B N19_l5_b
        have gn := r2.n
        rw [mk_len] at gn
        have en := r1.n
        rw [mk_len] at en
        refine idx_of (by omega) (by omega) ?_
        rw [hb2]
        simp only [nn_some', add_bk, Int.toNat_natCast, Nat.mul_one, hcell2, xL_v]
        by_cases hnl : n < e.2.length + 9
        · have : decide ((n : Int) < ((g.n : Nat) : Int)) = true := by simp; omega
          rw [this, cond_true]
          refine c_mark (by omega) (by omega) ?_
          refine idx_of (by omega) (by omega) ?_
          simp only [hcell2, xL_v]
          refine r2.at' (i := n) (by rw [mk_len]; exact hnl) ?_
          rw [mk_get _ _ _ hnl, mark_u8]
          simp only [bne_self_eq_false, cond_false]
          have nx : ((True ∧ ∃ m : Nat, IntKind.wrap .i64 ((n : Int) + 1) = (m : Int) ∧ m ≤ e.2.length + 9) ∧ e.2.length + 9 - (IntKind.wrap .i64 ((n : Int) + 1)).toNat < e.2.length + 9 - n) := by
            rw [nat_succ64 (by omega)]
            exact ⟨⟨trivial, n + 1, rfl, hnl⟩, by omega⟩
          by_cases hn2 : n < e.2.length
          · have : decide ((n : Int) < ((e.1.n : Nat) : Int)) = true := by simp; omega
            rw [this, cond_true]
            refine r1.at' (i := n) (by rw [mk_len]; exact hn2) ?_
            rw [mk_get _ _ _ hn2, mark_u8]
            simp only [bne_self_eq_false, cond_false]
            exact nx
          · have : decide ((n : Int) < ((e.1.n : Nat) : Int)) = false := by simp; omega
            rw [this, cond_false]
            exact nx
        · have : decide ((n : Int) < ((g.n : Nat) : Int)) = false := by simp; omega
          rw [this, cond_false]
          rw [nat_succ64 (by omega)]
          exact ⟨⟨trivial, i + 1, rfl, hlt⟩, by omega⟩
      · have : decide ((i : Int) < ((gr.n : Nat) : Int)) = false := by simp; omega
        rw [this, cond_false]
        exact hK _ hL

end Go.Proofs.YtlioifgejijcoaaDoor
