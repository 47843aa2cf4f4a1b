/- Texts of a walk over heaps, printed by program and by hand: lemmas for the law that is proved in this claim. No condition. -/
import Derived.Test.YtabihmedfopdcaaProg
import Derived.Test.YtabihmedfopdcaaPc
import Derived.Shelf.SlIterI.Nil
import Derived.Shelf.SortM.Plain
import Derived.Shelf.SortM.SortNone
import Derived.Shelf.Lay
import Derived.Shelf.LaySoft
import Derived.Ground.GgzProg
import Derived.Ground.SlgmProg
set_option linter.unusedVariables false
set_option maxRecDepth 100000
namespace Go.Proofs.Ytabihmedfopdcaa
open Go Go.Hw

/-- the functions that have a body -/
def E : Nat → Bool := fun f => Nat.blt 2 f && Nat.blt f 81
theorem hE : EnterOk Try.prog E := by
  have all : ∀ f ∈ List.range' 3 78, (!E f || match Try.prog.funcs[f]? with | some fn => !fn.body.isNone && !(fn.name == "runtime.NumGoroutine") | none => false) = true := by
    rw [← List.all_eq_true]
    kernel_rfl
  intro f h
  have hm : f ∈ List.range' 3 78 := by
    simp only [E, Bool.and_eq_true, Bool.or_eq_true, Nat.blt_eq] at h
    simp only [List.mem_range'_1]; omega
  have := all f hm
  rw [h] at this
  simp only [Bool.not_true, Bool.false_or] at this
  split at this
  · rename_i fn hf
    simp only [Bool.and_eq_true, Bool.not_eq_true'] at this
    exact ⟨fn, hf, this.1, this.2⟩
  · cases this
theorem hm : Try.prog.follows .mixedOrders = true := by kernel_rfl
/-- gosem.cut.init -/
def C2  (h : Hp) (K : Hp → Prop) : Prop :=
  HCalls Try.prog 2 ⟨[]⟩ h fun _ h' => K h'

/-- slipway/slipwaylaw13.PortNumbers -/
def C3  (h : Hp) (K : Bool → Hp → Prop) : Prop :=
  HCalls Try.prog 3 ⟨[]⟩ h fun v h' => VT.on (.c (.bool)) (some v) fun r => K r h'

/-- slipway/slipwaylaw13.PortMakes -/
def C4 (x0 : Int) (x1 : Int) (h : Hp) (K : Bool → Hp → Prop) : Prop :=
  HCalls Try.prog 4 ⟨[.int .i64 x0, .int .i64 x1]⟩ h fun v h' => VT.on (.c (.bool)) (some v) fun r => K r h'

/-- slipway/slipwaylaw13.PortQueues -/
def C5 (x0 : Int) (x1 : Sl) (x2 : Sl) (h : Hp) (K : Bool → Hp → Prop) : Prop :=
  HCalls Try.prog 5 ⟨[.int .i64 x0, .slice x1.p x1.n x1.c, .slice x2.p x2.n x2.c]⟩ h fun v h' => VT.on (.c (.bool)) (some v) fun r => K r h'

/-- slipway/slipwaylaw13.PortPlays -/
def C6 (x0 : Int) (x1 : Int) (x2 : Int) (x3 : Int) (x4 : Sl) (x5 : Sl) (h : Hp) (K : Bool → Hp → Prop) : Prop :=
  HCalls Try.prog 6 ⟨[.int .i64 x0, .int .i64 x1, .int .i64 x2, .int .i64 x3, .slice x4.p x4.n x4.c, .slice x5.p x5.n x5.c]⟩ h fun v h' => VT.on (.c (.bool)) (some v) fun r => K r h'

/-- slipway/slipwaylaw13.live -/
def C7  (h : Hp) (K : Bool → Hp → Prop) : Prop :=
  HCalls Try.prog 7 ⟨[]⟩ h fun v h' => VT.on (.c (.bool)) (some v) fun r => K r h'

/-- slipway/port.New -/
def C8 (x0 : Int) (x1 : Int) (h : Hp) (K : Option Addr → Hp → Prop) : Prop :=
  HCalls Try.prog 8 ⟨[.int .i64 x0, .int .i64 x1]⟩ h fun v h' => VT.on (.c (.ptr)) (some v) fun r => K r h'

/-- (*slipway/port.Ports).Look -/
def C9 (x0 : Option Addr) (h : Hp) (K : Sl → Hp → Prop) : Prop :=
  HCalls Try.prog 9 ⟨[.pointer x0]⟩ h fun v h' => VT.on (.c (.slice)) (some v) fun r => K r h'

/-- slipway/dice.New -/
def C10 (x0 : Sl) (h : Hp) (K : Option Addr → Hp → Prop) : Prop :=
  HCalls Try.prog 10 ⟨[.slice x0.p x0.n x0.c]⟩ h fun v h' => VT.on (.c (.ptr)) (some v) fun r => K r h'

/-- (*slipway/port.Ports).Open -/
def C11 (x0 : Option Addr) (x1 : Int) (h : Hp) (K : Int → Hp → Prop) : Prop :=
  HCalls Try.prog 11 ⟨[.pointer x0, .int .i64 x1]⟩ h fun v h' => VT.on (.c (.int .i64)) (some v) fun r => K r h'

/-- (*slipway/port.Ports).Pick -/
def C12 (x0 : Option Addr) (x1 : Option Addr) (h : Hp) (K : Int → Int → Hp → Prop) : Prop :=
  HCalls Try.prog 12 ⟨[.pointer x0, .pointer x1]⟩ h fun v h' => tupOn [.c (.int .i64), .c (.int .i64)] v fun r => K r.1 r.2 h'

/-- (*slipway/port.Ports).Put -/
def C13 (x0 : Option Addr) (x1_0 : Int) (x1_1 : Int) (x1_2 : Int) (x1_3 : Int) (x1_4 : Sl) (h : Hp) (K : Int → Hp → Prop) : Prop :=
  HCalls Try.prog 13 ⟨[.pointer x0, .agg ⟨[.int .u32 x1_0, .int .u32 x1_1, .int .i64 x1_2, .int .i64 x1_3, .slice x1_4.p x1_4.n x1_4.c]⟩]⟩ h fun v h' => VT.on (.c (.int .i64)) (some v) fun r => K r h'

/-- (*slipway/port.Ports).Close -/
def C14 (x0 : Option Addr) (x1 : Int) (h : Hp) (K : Bool → Hp → Prop) : Prop :=
  HCalls Try.prog 14 ⟨[.pointer x0, .int .i64 x1]⟩ h fun v h' => VT.on (.c (.bool)) (some v) fun r => K r h'

/-- (*slipway/port.Ports).Take -/
def C15 (x0 : Option Addr) (x1 : Int) (h : Hp) (K : Int → Int → Int → Int → Sl → Bool → Hp → Prop) : Prop :=
  HCalls Try.prog 15 ⟨[.pointer x0, .int .i64 x1]⟩ h fun v h' => tupOn [.agg [.int .u32, .int .u32, .int .i64, .int .i64, .slice], .c (.bool)] v fun r => K r.1.1 r.1.2.1 r.1.2.2.1 r.1.2.2.2.1 r.1.2.2.2.2 r.2 h'

/-- slipway/slipwaylaw13.looked -/
def C16 (x0 : Sl) (x1 : Sl) (x2 : Sl) (h : Hp) (K : Bool → Hp → Prop) : Prop :=
  HCalls Try.prog 16 ⟨[.slice x0.p x0.n x0.c, .slice x1.p x1.n x1.c, .slice x2.p x2.n x2.c]⟩ h fun v h' => VT.on (.c (.bool)) (some v) fun r => K r h'

/-- slipway/slipwaylaw13.beyond -/
def C17 (x0 : Sl) (h : Hp) (K : Bool → Hp → Prop) : Prop :=
  HCalls Try.prog 17 ⟨[.slice x0.p x0.n x0.c]⟩ h fun v h' => VT.on (.c (.bool)) (some v) fun r => K r h'

/-- slipway/slipwayref13.New -/
def C18 (x0 : Int) (x1 : Int) (h : Hp) (K : Option Addr → Hp → Prop) : Prop :=
  HCalls Try.prog 18 ⟨[.int .i64 x0, .int .i64 x1]⟩ h fun v h' => VT.on (.c (.ptr)) (some v) fun r => K r h'

/-- slipway/slipwayref06.New -/
def C19 (x0 : Sl) (h : Hp) (K : Option Addr → Hp → Prop) : Prop :=
  HCalls Try.prog 19 ⟨[.slice x0.p x0.n x0.c]⟩ h fun v h' => VT.on (.c (.ptr)) (some v) fun r => K r h'

/-- (*slipway/slipwaylaw13.pair).step -/
def C20 (x0 : Option Addr) (x1 : Option Addr) (x2_0 : Int) (x2_1 : Int) (x2_2 : Int) (x2_3 : Int) (x2_4 : Int) (x2_5 : Int) (x2_6 : Sl) (h : Hp) (K : Bool → Hp → Prop) : Prop :=
  HCalls Try.prog 20 ⟨[.pointer x0, .pointer x1, .agg ⟨[.int .i64 x2_0, .int .i64 x2_1, .int .u32 x2_2, .int .u32 x2_3, .int .i64 x2_4, .int .i64 x2_5, .slice x2_6.p x2_6.n x2_6.c]⟩]⟩ h fun v h' => VT.on (.c (.bool)) (some v) fun r => K r h'

/-- (*slipway/slipwaylaw13.kept).stands -/
def C21 (x0 : Option Addr) (h : Hp) (K : Bool → Hp → Prop) : Prop :=
  HCalls Try.prog 21 ⟨[.pointer x0]⟩ h fun v h' => VT.on (.c (.bool)) (some v) fun r => K r h'

/-- (*slipway/slipwaylaw13.pair).last -/
def C22 (x0 : Option Addr) (x1 : Option Addr) (h : Hp) (K : Bool → Hp → Prop) : Prop :=
  HCalls Try.prog 22 ⟨[.pointer x0, .pointer x1]⟩ h fun v h' => VT.on (.c (.bool)) (some v) fun r => K r h'

/-- slipway/slipwayref13.SameStates -/
def C23 (x0 : Sl) (x1 : Sl) (h : Hp) (K : Bool → Hp → Prop) : Prop :=
  HCalls Try.prog 23 ⟨[.slice x0.p x0.n x0.c, .slice x1.p x1.n x1.c]⟩ h fun v h' => VT.on (.c (.bool)) (some v) fun r => K r h'

/-- slices.Sorted[int] -/
def C24 (x0 : Value) (h : Hp) (K : Sl → Hp → Prop) : Prop :=
  HCalls Try.prog 24 ⟨[x0]⟩ h fun v h' => VT.on (.c (.slice)) (some v) fun r => K r h'

/-- maps.Keys[map[int]*slipway/port.place,int,*slipway/port.place] -/
def C25 (x0 : Option Nat) (h : Hp) (K : Value → Hp → Prop) : Prop :=
  HCalls Try.prog 25 ⟨[.map x0]⟩ h fun v h' => VT.on (.c (.any)) (some v) fun r => K r h'

/-- slices.Clone[[]uint32,uint32] -/
def C26 (x0 : Sl) (h : Hp) (K : Sl → Hp → Prop) : Prop :=
  HCalls Try.prog 26 ⟨[.slice x0.p x0.n x0.c]⟩ h fun v h' => VT.on (.c (.slice)) (some v) fun r => K r h'

/-- (*slipway/port.Ports).is -/
def C27 (x0 : Option Addr) (x1 : Int) (h : Hp) (K : Bool → Hp → Prop) : Prop :=
  HCalls Try.prog 27 ⟨[.pointer x0, .int .i64 x1]⟩ h fun v h' => VT.on (.c (.bool)) (some v) fun r => K r h'

/-- (*slipway/port.Ports).full -/
def C28 (x0 : Option Addr) (h : Hp) (K : Bool → Hp → Prop) : Prop :=
  HCalls Try.prog 28 ⟨[.pointer x0]⟩ h fun v h' => VT.on (.c (.bool)) (some v) fun r => K r h'

/-- (*slipway/port.Ports).begin -/
def C29 (x0 : Option Addr) (x1 : Int) (h : Hp) (K : Hp → Prop) : Prop :=
  HCalls Try.prog 29 ⟨[.pointer x0, .int .i64 x1]⟩ h fun _ h' => K h'

/-- (*slipway/dice.Dice).Port -/
def C30 (x0 : Option Addr) (h : Hp) (K : Int → Hp → Prop) : Prop :=
  HCalls Try.prog 30 ⟨[.pointer x0]⟩ h fun v h' => VT.on (.c (.int .i64)) (some v) fun r => K r h'

/-- bytes.Clone -/
def C31 (x0 : Sl) (h : Hp) (K : Sl → Hp → Prop) : Prop :=
  HCalls Try.prog 31 ⟨[.slice x0.p x0.n x0.c]⟩ h fun v h' => VT.on (.c (.slice)) (some v) fun r => K r h'

/-- (*slipway/port.queue[slipway/api.Datagram]).put -/
def C32 (x0 : Option Addr) (x1_0 : Int) (x1_1 : Int) (x1_2 : Int) (x1_3 : Int) (x1_4 : Sl) (h : Hp) (K : Bool → Hp → Prop) : Prop :=
  HCalls Try.prog 32 ⟨[.pointer x0, .agg ⟨[.int .u32 x1_0, .int .u32 x1_1, .int .i64 x1_2, .int .i64 x1_3, .slice x1_4.p x1_4.n x1_4.c]⟩]⟩ h fun v h' => VT.on (.c (.bool)) (some v) fun r => K r h'

/-- (*slipway/port.queue[slipway/api.Datagram]).take -/
def C33 (x0 : Option Addr) (h : Hp) (K : Int → Int → Int → Int → Sl → Bool → Hp → Prop) : Prop :=
  HCalls Try.prog 33 ⟨[.pointer x0]⟩ h fun v h' => tupOn [.agg [.int .u32, .int .u32, .int .i64, .int .i64, .slice], .c (.bool)] v fun r => K r.1.1 r.1.2.1 r.1.2.2.1 r.1.2.2.2.1 r.1.2.2.2.2 r.2 h'

/-- (*slipway/slipwayref06.Dice).Add -/
def C34 (x0 : Option Addr) (x1 : Sl) (h : Hp) (K : Hp → Prop) : Prop :=
  HCalls Try.prog 34 ⟨[.pointer x0, .slice x1.p x1.n x1.c]⟩ h fun _ h' => K h'

/-- (*slipway/slipwayref13.Ports).Open -/
def C35 (x0 : Option Addr) (x1 : Int) (h : Hp) (K : Int → Hp → Prop) : Prop :=
  HCalls Try.prog 35 ⟨[.pointer x0, .int .i64 x1]⟩ h fun v h' => VT.on (.c (.int .i64)) (some v) fun r => K r h'

/-- (*slipway/slipwayref13.Ports).Pick -/
def C36 (x0 : Option Addr) (x1 : Option Addr) (h : Hp) (K : Int → Int → Hp → Prop) : Prop :=
  HCalls Try.prog 36 ⟨[.pointer x0, .pointer x1]⟩ h fun v h' => tupOn [.c (.int .i64), .c (.int .i64)] v fun r => K r.1 r.2 h'

/-- (*slipway/dice.Dice).Left -/
def C37 (x0 : Option Addr) (h : Hp) (K : Int → Hp → Prop) : Prop :=
  HCalls Try.prog 37 ⟨[.pointer x0]⟩ h fun v h' => VT.on (.c (.int .i64)) (some v) fun r => K r h'

/-- (*slipway/slipwayref06.Dice).Left -/
def C38 (x0 : Option Addr) (h : Hp) (K : Int → Hp → Prop) : Prop :=
  HCalls Try.prog 38 ⟨[.pointer x0]⟩ h fun v h' => VT.on (.c (.int .i64)) (some v) fun r => K r h'

/-- (*slipway/slipwayref13.Ports).Close -/
def C39 (x0 : Option Addr) (x1 : Int) (h : Hp) (K : Bool → Hp → Prop) : Prop :=
  HCalls Try.prog 39 ⟨[.pointer x0, .int .i64 x1]⟩ h fun v h' => VT.on (.c (.bool)) (some v) fun r => K r h'

/-- slipway/slipwayref01.Lent -/
def C40 (x0 : Sl) (h : Hp) (K : Sl → Hp → Prop) : Prop :=
  HCalls Try.prog 40 ⟨[.slice x0.p x0.n x0.c]⟩ h fun v h' => VT.on (.c (.slice)) (some v) fun r => K r h'

/-- (*slipway/slipwayref13.Ports).Put -/
def C41 (x0 : Option Addr) (x1_0 : Int) (x1_1 : Int) (x1_2 : Int) (x1_3 : Int) (x1_4 : Sl) (h : Hp) (K : Int → Hp → Prop) : Prop :=
  HCalls Try.prog 41 ⟨[.pointer x0, .agg ⟨[.int .u32 x1_0, .int .u32 x1_1, .int .i64 x1_2, .int .i64 x1_3, .slice x1_4.p x1_4.n x1_4.c]⟩]⟩ h fun v h' => VT.on (.c (.int .i64)) (some v) fun r => K r h'

/-- slipway/slipwayref01.AsLent -/
def C42 (x0 : Sl) (x1 : Sl) (h : Hp) (K : Bool → Hp → Prop) : Prop :=
  HCalls Try.prog 42 ⟨[.slice x0.p x0.n x0.c, .slice x1.p x1.n x1.c]⟩ h fun v h' => VT.on (.c (.bool)) (some v) fun r => K r h'

/-- (*slipway/slipwayref13.Ports).Take -/
def C43 (x0 : Option Addr) (x1 : Int) (h : Hp) (K : Int → Int → Int → Int → Sl → Bool → Hp → Prop) : Prop :=
  HCalls Try.prog 43 ⟨[.pointer x0, .int .i64 x1]⟩ h fun v h' => tupOn [.agg [.int .u32, .int .u32, .int .i64, .int .i64, .slice], .c (.bool)] v fun r => K r.1.1 r.1.2.1 r.1.2.2.1 r.1.2.2.2.1 r.1.2.2.2.2 r.2 h'

/-- slipway/slipwayref13.Same -/
def C44 (x0_0 : Int) (x0_1 : Int) (x0_2 : Int) (x0_3 : Int) (x0_4 : Sl) (x1_0 : Int) (x1_1 : Int) (x1_2 : Int) (x1_3 : Int) (x1_4 : Sl) (h : Hp) (K : Bool → Hp → Prop) : Prop :=
  HCalls Try.prog 44 ⟨[.agg ⟨[.int .u32 x0_0, .int .u32 x0_1, .int .i64 x0_2, .int .i64 x0_3, .slice x0_4.p x0_4.n x0_4.c]⟩, .agg ⟨[.int .u32 x1_0, .int .u32 x1_1, .int .i64 x1_2, .int .i64 x1_3, .slice x1_4.p x1_4.n x1_4.c]⟩]⟩ h fun v h' => VT.on (.c (.bool)) (some v) fun r => K r h'

/-- (*slipway/slipwayref01.Book).Take -/
def C45 (x0 : Option Addr) (x1 : Sl) (h : Hp) (K : Hp → Prop) : Prop :=
  HCalls Try.prog 45 ⟨[.pointer x0, .slice x1.p x1.n x1.c]⟩ h fun _ h' => K h'

/-- (*slipway/slipwayref13.Ports).Look -/
def C46 (x0 : Option Addr) (h : Hp) (K : Sl → Hp → Prop) : Prop :=
  HCalls Try.prog 46 ⟨[.pointer x0]⟩ h fun v h' => VT.on (.c (.slice)) (some v) fun r => K r h'

/-- (*slipway/slipwayref01.Book).Owned -/
def C47 (x0 : Option Addr) (h : Hp) (K : Bool → Hp → Prop) : Prop :=
  HCalls Try.prog 47 ⟨[.pointer x0]⟩ h fun v h' => VT.on (.c (.bool)) (some v) fun r => K r h'

/-- slices.Collect[int] -/
def C48 (x0 : Value) (h : Hp) (K : Sl → Hp → Prop) : Prop :=
  HCalls Try.prog 48 ⟨[x0]⟩ h fun v h' => VT.on (.c (.slice)) (some v) fun r => K r h'

/-- slices.Sort[[]int,int] -/
def C49 (x0 : Sl) (h : Hp) (K : Hp → Prop) : Prop :=
  HCalls Try.prog 49 ⟨[.slice x0.p x0.n x0.c]⟩ h fun _ h' => K h'

/-- (*slipway/dice.Dice).made -/
def C51 (x0 : Option Addr) (x1 : Value) (h : Hp) (K : Int → Hp → Prop) : Prop :=
  HCalls Try.prog 51 ⟨[.pointer x0, x1]⟩ h fun v h' => VT.on (.c (.int .i64)) (some v) fun r => K r h'

/-- (*slipway/dice.Dice).Port$1 -/
def C52 (x0 : Int) (h : Hp) (K : Int → Hp → Prop) : Prop :=
  HCalls Try.prog 52 ⟨[.int .u64 x0]⟩ h fun v h' => VT.on (.c (.int .i64)) (some v) fun r => K r h'

/-- (*slipway/slipwayref13.Ports).at -/
def C53 (x0 : Option Addr) (x1 : Int) (h : Hp) (K : Int → Hp → Prop) : Prop :=
  HCalls Try.prog 53 ⟨[.pointer x0, .int .i64 x1]⟩ h fun v h' => VT.on (.c (.int .i64)) (some v) fun r => K r h'

/-- (*slipway/slipwayref13.Ports).add -/
def C54 (x0 : Option Addr) (x1 : Int) (h : Hp) (K : Hp → Prop) : Prop :=
  HCalls Try.prog 54 ⟨[.pointer x0, .int .i64 x1]⟩ h fun _ h' => K h'

/-- (*slipway/slipwayref06.Dice).Port -/
def C55 (x0 : Option Addr) (h : Hp) (K : Int → Hp → Prop) : Prop :=
  HCalls Try.prog 55 ⟨[.pointer x0]⟩ h fun v h' => VT.on (.c (.int .i64)) (some v) fun r => K r h'

/-- slipway/slipwayref13.Copied -/
def C56 (x0_0 : Int) (x0_1 : Int) (x0_2 : Int) (x0_3 : Int) (x0_4 : Sl) (h : Hp) (K : Int → Int → Int → Int → Sl → Hp → Prop) : Prop :=
  HCalls Try.prog 56 ⟨[.agg ⟨[.int .u32 x0_0, .int .u32 x0_1, .int .i64 x0_2, .int .i64 x0_3, .slice x0_4.p x0_4.n x0_4.c]⟩]⟩ h fun v h' => VT.on (.agg [.int .u32, .int .u32, .int .i64, .int .i64, .slice]) (some v) fun r => K r.1 r.2.1 r.2.2.1 r.2.2.2.1 r.2.2.2.2 h'

/-- slipway/slipwayref01.mark -/
def C57 (x0 : Int) (x1 : Int) (h : Hp) (K : Int → Hp → Prop) : Prop :=
  HCalls Try.prog 57 ⟨[.int .i64 x0, .int .i64 x1]⟩ h fun v h' => VT.on (.c (.int .u8)) (some v) fun r => K r h'

/-- slices.AppendSeq[[]int,int] -/
def C58 (x0 : Sl) (x1 : Value) (h : Hp) (K : Sl → Hp → Prop) : Prop :=
  HCalls Try.prog 58 ⟨[.slice x0.p x0.n x0.c, x1]⟩ h fun v h' => VT.on (.c (.slice)) (some v) fun r => K r h'

/-- slices.pdqsortOrdered[int] -/
def C59 (x0 : Sl) (x1 : Int) (x2 : Int) (x3 : Int) (h : Hp) (K : Hp → Prop) : Prop :=
  HCalls Try.prog 59 ⟨[.slice x0.p x0.n x0.c, .int .i64 x1, .int .i64 x2, .int .i64 x3]⟩ h fun _ h' => K h'

/-- math/bits.Len -/
def C60 (x0 : Int) (h : Hp) (K : Int → Hp → Prop) : Prop :=
  HCalls Try.prog 60 ⟨[.int .u64 x0]⟩ h fun v h' => VT.on (.c (.int .i64)) (some v) fun r => K r h'

/-- (*slipway/dice.Dice).Next -/
def C61 (x0 : Option Addr) (h : Hp) (K : Int → Hp → Prop) : Prop :=
  HCalls Try.prog 61 ⟨[.pointer x0]⟩ h fun v h' => VT.on (.c (.int .u32)) (some v) fun r => K r h'

/-- (*slipway/slipwayref06.Dice).Next -/
def C62 (x0 : Option Addr) (h : Hp) (K : Int → Hp → Prop) : Prop :=
  HCalls Try.prog 62 ⟨[.pointer x0]⟩ h fun v h' => VT.on (.c (.int .u32)) (some v) fun r => K r h'

/-- slices.insertionSortOrdered[int] -/
def C63 (x0 : Sl) (x1 : Int) (x2 : Int) (h : Hp) (K : Hp → Prop) : Prop :=
  HCalls Try.prog 63 ⟨[.slice x0.p x0.n x0.c, .int .i64 x1, .int .i64 x2]⟩ h fun _ h' => K h'

/-- slices.heapSortOrdered[int] -/
def C64 (x0 : Sl) (x1 : Int) (x2 : Int) (h : Hp) (K : Hp → Prop) : Prop :=
  HCalls Try.prog 64 ⟨[.slice x0.p x0.n x0.c, .int .i64 x1, .int .i64 x2]⟩ h fun _ h' => K h'

/-- slices.breakPatternsOrdered[int] -/
def C65 (x0 : Sl) (x1 : Int) (x2 : Int) (h : Hp) (K : Hp → Prop) : Prop :=
  HCalls Try.prog 65 ⟨[.slice x0.p x0.n x0.c, .int .i64 x1, .int .i64 x2]⟩ h fun _ h' => K h'

/-- slices.choosePivotOrdered[int] -/
def C66 (x0 : Sl) (x1 : Int) (x2 : Int) (h : Hp) (K : Int → Int → Hp → Prop) : Prop :=
  HCalls Try.prog 66 ⟨[.slice x0.p x0.n x0.c, .int .i64 x1, .int .i64 x2]⟩ h fun v h' => tupOn [.c (.int .i64), .c (.int .i64)] v fun r => K r.1 r.2 h'

/-- slices.reverseRangeOrdered[int] -/
def C67 (x0 : Sl) (x1 : Int) (x2 : Int) (h : Hp) (K : Hp → Prop) : Prop :=
  HCalls Try.prog 67 ⟨[.slice x0.p x0.n x0.c, .int .i64 x1, .int .i64 x2]⟩ h fun _ h' => K h'

/-- slices.partialInsertionSortOrdered[int] -/
def C68 (x0 : Sl) (x1 : Int) (x2 : Int) (h : Hp) (K : Bool → Hp → Prop) : Prop :=
  HCalls Try.prog 68 ⟨[.slice x0.p x0.n x0.c, .int .i64 x1, .int .i64 x2]⟩ h fun v h' => VT.on (.c (.bool)) (some v) fun r => K r h'

/-- cmp.Less[int] -/
def C69 (x0 : Int) (x1 : Int) (h : Hp) (K : Bool → Hp → Prop) : Prop :=
  HCalls Try.prog 69 ⟨[.int .i64 x0, .int .i64 x1]⟩ h fun v h' => VT.on (.c (.bool)) (some v) fun r => K r h'

/-- slices.partitionEqualOrdered[int] -/
def C70 (x0 : Sl) (x1 : Int) (x2 : Int) (x3 : Int) (h : Hp) (K : Int → Hp → Prop) : Prop :=
  HCalls Try.prog 70 ⟨[.slice x0.p x0.n x0.c, .int .i64 x1, .int .i64 x2, .int .i64 x3]⟩ h fun v h' => VT.on (.c (.int .i64)) (some v) fun r => K r h'

/-- slices.partitionOrdered[int] -/
def C71 (x0 : Sl) (x1 : Int) (x2 : Int) (x3 : Int) (h : Hp) (K : Int → Bool → Hp → Prop) : Prop :=
  HCalls Try.prog 71 ⟨[.slice x0.p x0.n x0.c, .int .i64 x1, .int .i64 x2, .int .i64 x3]⟩ h fun v h' => tupOn [.c (.int .i64), .c (.bool)] v fun r => K r.1 r.2 h'

/-- math/bits.Len32 -/
def C72 (x0 : Int) (h : Hp) (K : Int → Hp → Prop) : Prop :=
  HCalls Try.prog 72 ⟨[.int .u32 x0]⟩ h fun v h' => VT.on (.c (.int .i64)) (some v) fun r => K r h'

/-- math/bits.Len64 -/
def C73 (x0 : Int) (h : Hp) (K : Int → Hp → Prop) : Prop :=
  HCalls Try.prog 73 ⟨[.int .u64 x0]⟩ h fun v h' => VT.on (.c (.int .i64)) (some v) fun r => K r h'

/-- slices.siftDownOrdered[int] -/
def C74 (x0 : Sl) (x1 : Int) (x2 : Int) (x3 : Int) (h : Hp) (K : Hp → Prop) : Prop :=
  HCalls Try.prog 74 ⟨[.slice x0.p x0.n x0.c, .int .i64 x1, .int .i64 x2, .int .i64 x3]⟩ h fun _ h' => K h'

/-- slices.nextPowerOfTwo -/
def C75 (x0 : Int) (h : Hp) (K : Int → Hp → Prop) : Prop :=
  HCalls Try.prog 75 ⟨[.int .i64 x0]⟩ h fun v h' => VT.on (.c (.int .u64)) (some v) fun r => K r h'

/-- (*slices.xorshift).Next -/
def C76 (x0 : Option Addr) (h : Hp) (K : Int → Hp → Prop) : Prop :=
  HCalls Try.prog 76 ⟨[.pointer x0]⟩ h fun v h' => VT.on (.c (.int .u64)) (some v) fun r => K r h'

/-- slices.medianAdjacentOrdered[int] -/
def C77 (x0 : Sl) (x1 : Int) (x2 : Option Addr) (h : Hp) (K : Int → Hp → Prop) : Prop :=
  HCalls Try.prog 77 ⟨[.slice x0.p x0.n x0.c, .int .i64 x1, .pointer x2]⟩ h fun v h' => VT.on (.c (.int .i64)) (some v) fun r => K r h'

/-- slices.medianOrdered[int] -/
def C78 (x0 : Sl) (x1 : Int) (x2 : Int) (x3 : Int) (x4 : Option Addr) (h : Hp) (K : Int → Hp → Prop) : Prop :=
  HCalls Try.prog 78 ⟨[.slice x0.p x0.n x0.c, .int .i64 x1, .int .i64 x2, .int .i64 x3, .pointer x4]⟩ h fun v h' => VT.on (.c (.int .i64)) (some v) fun r => K r h'

/-- cmp.isNaN[int] -/
def C79 (x0 : Int) (h : Hp) (K : Bool → Hp → Prop) : Prop :=
  HCalls Try.prog 79 ⟨[.int .i64 x0]⟩ h fun v h' => VT.on (.c (.bool)) (some v) fun r => K r h'

/-- slices.order2Ordered[int] -/
def C80 (x0 : Sl) (x1 : Int) (x2 : Int) (x3 : Option Addr) (h : Hp) (K : Int → Int → Hp → Prop) : Prop :=
  HCalls Try.prog 80 ⟨[.slice x0.p x0.n x0.c, .int .i64 x1, .int .i64 x2, .pointer x3]⟩ h fun v h' => tupOn [.c (.int .i64), .c (.int .i64)] v fun r => K r.1 r.2 h'

end Go.Proofs.Ytabihmedfopdcaa

set_option linter.unusedVariables false
set_option maxRecDepth 100000
namespace Go.Proofs.Ytabihmedfopdcaa
open Go Go.Hw
/-! ### 27 (*slipway/port.Ports).is -/
noncomputable def B27 : Code := match Try.f27.body with | some c => c | none => .skip
def N27 (x0 : Option Addr) (x1 : Int) (h : Hp) (K : Bool → Hp → Prop) : Prop :=
  nn x0 fun a0 =>
  xM (cell h a0) fun m0 =>
  xMap h m0 fun es0 _ =>
  keyAt (.int .i64) (.int .i64 x1) es0 fun r0 =>
  xP (some (rval r0 (.pointer none))) fun p0 =>
  peq h p0 none fun b0 =>
  K (!b0) h
theorem S27 {x0 : Option Addr} {x1 : Int} {h : Hp} {K : Bool → Hp → Prop} (hn : N27 x0 x1 h K) : C27 x0 x1 h K := by
  refine calls_of_D Try.func27 (c := B27) rfl (by kernel_rfl) ?_
  refine den_sound hE hm _ .leaf _ _ _ (annOk_leaf) ?_
  refine cast ?_ hn
  kernel_rfl
end Go.Proofs.Ytabihmedfopdcaa

set_option linter.unusedVariables false
set_option maxRecDepth 100000
namespace Go.Proofs.Ytabihmedfopdcaa
open Go Go.Hw
/-! ### 28 (*slipway/port.Ports).full -/
noncomputable def B28 : Code := match Try.f28.body with | some c => c | none => .skip
def N28 (x0 : Option Addr) (h : Hp) (K : Bool → Hp → Prop) : Prop :=
  nn x0 fun a0 =>
  xM (cell h a0) fun m0 =>
  xMap h m0 fun es0 _ =>
  nn x0 fun a1 =>
  xI .i64 (cell h (a1.add 1)) fun n0 =>
  K (decide ((es0.length : Int) ≥ n0)) h
theorem S28 {x0 : Option Addr} {h : Hp} {K : Bool → Hp → Prop} (hn : N28 x0 h K) : C28 x0 h K := by
  refine calls_of_D Try.func28 (c := B28) rfl (by kernel_rfl) ?_
  refine den_sound hE hm _ (.two .leaf (.two (.ord [0, 1, 2, 3, 4, 5, 6, 7, 8, 9, 10]) .leaf)) _ _ _ (⟨annOk_leaf, ⟨trivial, annOk_leaf⟩⟩) ?_
  refine cast ?_ hn
  kernel_rfl
end Go.Proofs.Ytabihmedfopdcaa

set_option linter.unusedVariables false
set_option maxRecDepth 100000
namespace Go.Proofs.Ytabihmedfopdcaa
open Go Go.Hw
/-! ### 29 (*slipway/port.Ports).begin -/
noncomputable def B29 : Code := match Try.f29.body with | some c => c | none => .skip
def N29 (x0 : Option Addr) (x1 : Int) (h : Hp) (K : Hp → Prop) : Prop :=
  nn x0 fun a0 =>
  xM (cell h a0) fun m0 =>
  nn x0 fun a1 =>
  xI .i64 (cell h (a1.add 2)) fun n0 =>
  nw h (.cells ⟨[.slice none 0 0, .int .i64 n0, .int .i64 0]⟩ 85) fun b0 h0 =>
  both (xM (cell h0 a0) fun m1 => Only (.map m0) h0 (.map m1) h0) <|
  muK Try.prog 73 (.map m0) (.int .i64 x1) (.pointer (some (bk b0))) h0 fun h1 =>
  K h1
theorem S29 {x0 : Option Addr} {x1 : Int} {h : Hp} {K : Hp → Prop} (hn : N29 x0 x1 h K) : C29 x0 x1 h K := by
  refine calls_of_D Try.func29 (c := B29) rfl (by kernel_rfl) ?_
  refine den_sound hE hm _ (.ord [0, 1, 2, 3, 4, 5, 6, 7, 8, 9, 10, 11, 12]) _ _ _ (trivial) ?_
  refine cast ?_ hn
  kernel_rfl
end Go.Proofs.Ytabihmedfopdcaa

set_option linter.unusedVariables false
set_option maxRecDepth 100000
namespace Go.Proofs.Ytabihmedfopdcaa
open Go Go.Hw
/-! ### 32 (*slipway/port.queue[slipway/api.Datagram]).put -/
noncomputable def B32 : Code := match Try.f32.body with | some c => c | none => .skip
def N32 (x0 : Option Addr) (x1_0 : Int) (x1_1 : Int) (x1_2 : Int) (x1_3 : Int) (x1_4 : Sl) (h : Hp) (K : Bool → Hp → Prop) : Prop :=
  nw h (.cells ⟨[.int .u32 x1_0, .int .u32 x1_1, .int .i64 x1_2, .int .i64 x1_3, .slice x1_4.p x1_4.n x1_4.c]⟩ 39) fun b0 h0 =>
  nn x0 fun a0 =>
  xL (cell h0 a0) fun s0 =>
  nn x0 fun a1 =>
  xI .i64 (cell h0 (a1.add 1)) fun n0 =>
  bif (decide (((s0.n : Nat) : Int) ≥ n0)) then
    K false h0
  else
    nn x0 fun a2 =>
    xL (cell h0 a2) fun s1 =>
    xI .u32 (cell h0 (bk b0)) fun n1 =>
    xI .u32 (cell h0 ((bk b0).add 1)) fun n2 =>
    xI .i64 (cell h0 ((bk b0).add 2)) fun n3 =>
    xI .i64 (cell h0 ((bk b0).add 3)) fun n4 =>
    xL (cell h0 ((bk b0).add 4)) fun s2 =>
    nw h0 (.cells ⟨[.int .u32 n1, .int .u32 n2, .int .i64 n3, .int .i64 n4, .slice s2.p s2.n s2.c]⟩ 39) fun b1 h1 =>
    both (xL (cell h1 a2) fun s3 => Only (.slice s1.p s1.n s1.c) h1 (.slice s3.p s3.n s3.c) h1) <|
    apK Try.prog 39 s1 (.slice (some (bk b1)) 1 1) h1 fun s4 h2 =>
    nn x0 fun a3 =>
    st h2 a3 (.slice s4.p s4.n s4.c) fun h3 =>
    K true h3
theorem S32 {x0 : Option Addr} {x1_0 : Int} {x1_1 : Int} {x1_2 : Int} {x1_3 : Int} {x1_4 : Sl} {h : Hp} {K : Bool → Hp → Prop} (hn : N32 x0 x1_0 x1_1 x1_2 x1_3 x1_4 h K) : C32 x0 x1_0 x1_1 x1_2 x1_3 x1_4 h K := by
  refine calls_of_D Try.func32 (c := B32) rfl (by kernel_rfl) ?_
  refine den_sound hE hm _ (.two .leaf (.two (.two (.ord [0, 1, 2, 3, 4, 5, 6, 7, 8, 9]) .leaf) (.two (.ord [0, 1, 2, 3, 4, 5, 6, 7, 8, 9, 10]) .leaf))) _ _ _ (⟨annOk_leaf, ⟨⟨trivial, annOk_leaf⟩, ⟨trivial, annOk_leaf⟩⟩⟩) ?_
  refine cast ?_ hn
  kernel_rfl
end Go.Proofs.Ytabihmedfopdcaa

set_option linter.unusedVariables false
set_option maxRecDepth 100000
namespace Go.Proofs.Ytabihmedfopdcaa
open Go Go.Hw
/-! ### 33 (*slipway/port.queue[slipway/api.Datagram]).take -/
noncomputable def B33 : Code := match Try.f33.body with | some c => c | none => .skip
def N33 (x0 : Option Addr) (h : Hp) (K : Int → Int → Int → Int → Sl → Bool → Hp → Prop) : Prop :=
  nw h (.cells ⟨[.int .u32 0, .int .u32 0, .int .i64 0, .int .i64 0, .slice none 0 0]⟩ 39) fun b0 h0 =>
  nw h0 (.cells ⟨[.int .u32 0, .int .u32 0, .int .i64 0, .int .i64 0, .slice none 0 0]⟩ 39) fun b1 h1 =>
  nn x0 fun a0 =>
  xL (cell h1 a0) fun s0 =>
  bif (((s0.n : Nat) : Int) == 0) then
    xI .u32 (cell h1 (bk b1)) fun n0 =>
    xI .u32 (cell h1 ((bk b1).add 1)) fun n1 =>
    xI .i64 (cell h1 ((bk b1).add 2)) fun n2 =>
    xI .i64 (cell h1 ((bk b1).add 3)) fun n3 =>
    xL (cell h1 ((bk b1).add 4)) fun s1 =>
    st h1 (bk b0) (.int .u32 n0) fun h2 =>
    st h2 ((bk b0).add 1) (.int .u32 n1) fun h3 =>
    st h3 ((bk b0).add 2) (.int .i64 n2) fun h4 =>
    st h4 ((bk b0).add 3) (.int .i64 n3) fun h5 =>
    st h5 ((bk b0).add 4) (.slice s1.p s1.n s1.c) fun h6 =>
    xI .u32 (cell h6 (bk b0)) fun n4 =>
    xI .u32 (cell h6 ((bk b0).add 1)) fun n5 =>
    xI .i64 (cell h6 ((bk b0).add 2)) fun n6 =>
    xI .i64 (cell h6 ((bk b0).add 3)) fun n7 =>
    xL (cell h6 ((bk b0).add 4)) fun s2 =>
    K n4 n5 n6 n7 s2 false h6
  else
    nn x0 fun a1 =>
    xL (cell h1 a1) fun s3 =>
    idx 0 s3.n <|
    nn s3.p fun a2 =>
    xI .u32 (cell h1 (a2.add ((0 : Int).toNat * 5))) fun n8 =>
    xI .u32 (cell h1 ((a2.add ((0 : Int).toNat * 5)).add 1)) fun n9 =>
    xI .i64 (cell h1 ((a2.add ((0 : Int).toNat * 5)).add 2)) fun n10 =>
    xI .i64 (cell h1 ((a2.add ((0 : Int).toNat * 5)).add 3)) fun n11 =>
    xL (cell h1 ((a2.add ((0 : Int).toNat * 5)).add 4)) fun s4 =>
    nn x0 fun a3 =>
    xL (cell h1 a3) fun s5 =>
    bd 1 s5.n fun k0 =>
    st h1 (bk b1) (.int .u32 n8) fun h7 =>
    st h7 ((bk b1).add 1) (.int .u32 n9) fun h8 =>
    st h8 ((bk b1).add 2) (.int .i64 n10) fun h9 =>
    st h9 ((bk b1).add 3) (.int .i64 n11) fun h10 =>
    st h10 ((bk b1).add 4) (.slice s4.p s4.n s4.c) fun h11 =>
    both (xL (cell h11 a3) fun s6 => Only (.slice s5.p s5.n s5.c) h11 (.slice s6.p s6.n s6.c) h11) <|
    nn x0 fun a4 =>
    st h11 a4 (.slice (sadr s5.p s5.c k0 5) (s5.n - k0) (s5.c - k0)) fun h12 =>
    xI .u32 (cell h12 (bk b1)) fun n12 =>
    xI .u32 (cell h12 ((bk b1).add 1)) fun n13 =>
    xI .i64 (cell h12 ((bk b1).add 2)) fun n14 =>
    xI .i64 (cell h12 ((bk b1).add 3)) fun n15 =>
    xL (cell h12 ((bk b1).add 4)) fun s7 =>
    st h12 (bk b0) (.int .u32 n12) fun h13 =>
    st h13 ((bk b0).add 1) (.int .u32 n13) fun h14 =>
    st h14 ((bk b0).add 2) (.int .i64 n14) fun h15 =>
    st h15 ((bk b0).add 3) (.int .i64 n15) fun h16 =>
    st h16 ((bk b0).add 4) (.slice s7.p s7.n s7.c) fun h17 =>
    xI .u32 (cell h17 (bk b0)) fun n16 =>
    xI .u32 (cell h17 ((bk b0).add 1)) fun n17 =>
    xI .i64 (cell h17 ((bk b0).add 2)) fun n18 =>
    xI .i64 (cell h17 ((bk b0).add 3)) fun n19 =>
    xL (cell h17 ((bk b0).add 4)) fun s8 =>
    K n16 n17 n18 n19 s8 true h17
theorem S33 {x0 : Option Addr} {h : Hp} {K : Int → Int → Int → Int → Sl → Bool → Hp → Prop} (hn : N33 x0 h K) : C33 x0 h K := by
  refine calls_of_M Try.func33 (c := B33) rfl (by kernel_rfl) ?_
  refine den_sound hE hm _ (.two .leaf (.two .leaf (.two .leaf (.two (.ord [0, 1, 2, 3, 4, 5, 6, 7, 8, 9, 10, 11, 12, 13, 14, 15]) .leaf)))) _ _ _ (⟨annOk_leaf, ⟨annOk_leaf, ⟨annOk_leaf, ⟨trivial, annOk_leaf⟩⟩⟩⟩) ?_
  refine cast ?_ hn
  kernel_rfl
end Go.Proofs.Ytabihmedfopdcaa

set_option linter.unusedVariables false
set_option maxRecDepth 100000
namespace Go.Proofs.Ytabihmedfopdcaa
open Go Go.Hw
/-! ### 31 bytes.Clone -/
noncomputable def B31 : Code := match Try.f31.body with | some c => c | none => .skip
def N31 (x0 : Sl) (h : Hp) (K : Sl → Hp → Prop) : Prop :=
  bif x0.p.isNone then
    K ⟨none, 0, 0⟩ h
  else
    nw h (.cells ⟨[]⟩ 5) fun b0 h0 =>
    apK Try.prog 5 ⟨some (bk b0), 0, 0⟩ (.slice x0.p x0.n x0.c) h0 fun s0 h1 =>
    K s0 h1
theorem S31 {x0 : Sl} {h : Hp} {K : Sl → Hp → Prop} (hn : N31 x0 h K) : C31 x0 h K := by
  refine calls_of_D Try.func31 (c := B31) rfl (by kernel_rfl) ?_
  refine den_sound hE hm _ .leaf _ _ _ (annOk_leaf) ?_
  refine cast ?_ hn
  kernel_rfl
end Go.Proofs.Ytabihmedfopdcaa

/-
  Ports: the state of a table; the program's table in memory; the small functions.
-/
set_option linter.unusedSimpArgs false
set_option linter.unusedVariables false
set_option maxRecDepth 20000
namespace Go.Proofs.Ytabihmedfopdcaa
open Go Go.Hw

/-! ### the state -/
structure Dg where
  a : Int
  b : Int
  c : Int
  d : Int
  data : List UInt8
structure PS where
  n : Int
  l : List Dg
  dr : Int
structure Tb where
  most : Int
  depth : Int
  ps : List PS
def newP (n : Int) : PS := ⟨n, [], 0⟩
def findP (n : Int) (ps : List PS) : Option PS := ps.find? fun p => p.n == n
def updP (n : Int) (f : PS → PS) (ps : List PS) : List PS := ps.map fun p => if p.n = n then f p else p
def delP (n : Int) (ps : List PS) : List PS := ps.filter fun p => p.n != n
def addP (n : Int) : List PS → List PS
  | [] => [newP n]
  | p :: l => if p.n > n then newP n :: p :: l else p :: addP n l
/-- one number, one port -/
def NodN (ps : List PS) : Prop := ps.Pairwise fun p q => p.n ≠ q.n
theorem NodN.perm {a b : List PS} (h : a.Perm b) : NodN a ↔ NodN b := h.pairwise_iff fun h e => h e.symm
theorem addP_perm (n : Int) : ∀ ps : List PS, (addP n ps).Perm (newP n :: ps)
  | [] => List.Perm.refl _
  | p :: l => by
    unfold addP
    split
    · exact List.Perm.refl _
    · exact ((addP_perm n l).cons p).trans (List.Perm.swap _ _ _)
theorem findP_some {n : Int} {ps : List PS} {p : PS} (h : findP n ps = some p) : p ∈ ps ∧ p.n = n := by
  have h1 := List.mem_of_find?_eq_some h
  have h2 := List.find?_some h
  exact ⟨h1, by simpa using h2⟩
theorem findP_none {n : Int} {ps : List PS} (h : findP n ps = none) : ∀ p ∈ ps, p.n ≠ n := by
  intro p hp
  have := List.find?_eq_none.1 h p hp
  simpa using this
theorem findP_of {n : Int} {ps : List PS} (hn : NodN ps) {p : PS} (hp : p ∈ ps) (e : p.n = n) : findP n ps = some p := by
  cases hf : findP n ps with
  | none => exact absurd e (findP_none hf p hp)
  | some q =>
    obtain ⟨h1, h2⟩ := findP_some hf
    by_cases hq : q = p
    · rw [hq]
    · obtain ⟨i, hi, rfl⟩ := List.getElem_of_mem hp
      obtain ⟨k, hk, rfl⟩ := List.getElem_of_mem h1
      have hne : i ≠ k := by rintro rfl; exact hq rfl
      exfalso
      rcases Nat.lt_or_gt_of_ne hne with hlt | hlt
      · exact List.pairwise_iff_getElem.1 hn i k hi hk hlt (e.trans h2.symm)
      · exact List.pairwise_iff_getElem.1 hn k i hk hi hlt (h2.trans e.symm)
theorem findP_perm {n : Int} {a b : List PS} (h : a.Perm b) (hn : NodN b) : findP n a = findP n b := by
  cases hf : findP n b with
  | some p =>
    obtain ⟨h1, h2⟩ := findP_some hf
    exact findP_of ((NodN.perm h).2 hn) (h.mem_iff.2 h1) h2
  | none =>
    cases hg : findP n a with
    | none => rfl
    | some q => obtain ⟨h1, h2⟩ := findP_some hg; exact absurd h2 (findP_none hf q (h.mem_iff.1 h1))
theorem set_updP {n : Int} {f : PS → PS} : ∀ {ps : List PS}, NodN ps → ∀ {j : Nat} {p : PS}, ps[j]? = some p → p.n = n → ps.set j (f p) = updP n f ps := by
  intro ps
  induction ps with
  | nil => intro _ j p h; simp at h
  | cons q ps ih =>
    intro hn j p h e
    obtain ⟨h1, h2⟩ := List.pairwise_cons.1 hn
    cases j with
    | zero =>
      simp at h; subst h
      simp only [List.set_cons_zero, updP, List.map_cons, e, if_true]
      congr 1
      have : ∀ x ∈ ps, (if x.n = n then f x else x) = x := fun x hx => if_neg fun q => h1 x hx (e.trans q.symm)
      rw [List.map_congr_left this, List.map_id']
    | succ j =>
      simp at h
      have := ih h2 h e
      have hq : ¬ q.n = n := fun w => h1 p (List.mem_of_getElem? h) (w.trans e.symm)
      simp only [List.set_cons_succ, this, updP, List.map_cons, if_neg hq]
theorem erase_delP {n : Int} : ∀ {ps : List PS}, NodN ps → ∀ {j : Nat} {p : PS}, ps[j]? = some p → p.n = n → ps.eraseIdx j = delP n ps := by
  intro ps
  induction ps with
  | nil => intro _ j p h; simp at h
  | cons q ps ih =>
    intro hn j p h e
    obtain ⟨h1, h2⟩ := List.pairwise_cons.1 hn
    cases j with
    | zero =>
      simp at h; subst h
      have : ps.filter (fun p => p.n != n) = ps := by
        rw [List.filter_eq_self]
        intro x hx
        have := h1 x hx
        simp only [bne_iff_ne, ne_eq]
        exact fun q => this (e.trans q.symm)
      simp [delP, e, this]
    | succ j =>
      simp at h
      have := ih h2 h e
      have hq : ¬ q.n = n := fun w => h1 p (List.mem_of_getElem? h) (w.trans e.symm)
      simp only [List.eraseIdx_cons_succ, this]
      simp [delP, hq]
theorem delP_none {n : Int} {ps : List PS} (h : ∀ p ∈ ps, p.n ≠ n) : delP n ps = ps := by
  unfold delP
  rw [List.filter_eq_self]
  intro x hx; simpa using h x hx

/-! ### memory -/
abbrev Qd := Dg × Sl
def dgc (x : Qd) : List Value := [.int .u32 x.1.a, .int .u32 x.1.b, .int .i64 x.1.c, .int .i64 x.1.d, x.2.v]
def dgs (l : List Qd) : List Value := l.flatMap dgc
theorem dgs_len (l : List Qd) : (dgs l).length = l.length * 5 := by
  induction l with
  | nil => rfl
  | cons x l ih => show (dgc x ++ dgs l).length = _; rw [List.length_append, ih]; simp [dgc]; omega
theorem dgs_app (l m : List Qd) : dgs (l ++ m) = dgs l ++ dgs m := by simp [dgs]
theorem dgs_plain {l : List Qd} : ∀ v ∈ dgs l, plain v = true := by
  intro v hv
  obtain ⟨x, _, hx⟩ := List.mem_flatMap.1 hv
  simp [dgc] at hx
  rcases hx with rfl | rfl | rfl | rfl | rfl <;> rfl
def datA (x : Qd) : Asn := Hw.own 5 1 x.2 (bc x.1.data)
def placeA (depth : Int) (q : Nat) (p : PS) : Asn := exs fun z : Sl × List Qd => star [row q 85 [z.1.v, .int .i64 depth, .int .i64 p.dr], tailA 39 5 z.1 (dgs z.2), star (z.2.map datA), pur (z.2.map Prod.fst = p.l)]
def ptrs (E : List (Nat × PS)) : KV := E.map fun e => (e.2.n, .pointer (some (bk e.1)))
def portsA (b : Nat) (t : Tb) : Asn := exs fun x : Nat × List (Nat × PS) => star [row b 75 [.map (some x.1), .int .i64 t.most, .int .i64 t.depth], mapA .i64 x.1 (ptrs x.2), star (x.2.map fun e => placeA t.depth e.1 e.2), pur ((x.2.map Prod.snd).Perm t.ps)]

theorem unexP {α : Type} {L : List Asn} {A : α → Asn} {h : Hp} (hs : Sat (L ++ [exs A]) h) : ∃ a, Sat (L ++ [A a]) h := by
  obtain ⟨F, h1, h2⟩ := hs
  obtain ⟨a, ha⟩ := h1 L.length (exs A) (by simp)
  refine ⟨a, F, fun i B hi => ?_, by simpa using h2⟩
  by_cases e : i < L.length
  · rw [List.getElem?_append_left e] at hi
    exact h1 i B (by rw [List.getElem?_append_left e]; exact hi)
  · have := lt_of_get hi
    simp at this
    have : i = L.length := by omega
    subst this
    simp at hi; subst hi; exact ha
theorem exP {α : Type} {L : List Asn} {A : α → Asn} {h : Hp} (a : α) (hs : Sat (L ++ [A a]) h) : Sat (L ++ [exs A]) h := hs.imp 0 rfl fun F hF => ⟨a, hF⟩
theorem Sat.addPur {L M : List Asn} {h : Hp} {p : Prop} (hs : Sat (L ++ M) h) (hp : p) : Sat (L ++ (M ++ [Hw.pur p])) h :=
  Hw.Sat.add hs Ext.refl (F' := fun _ => False) ⟨fun x e => e, hp⟩ (fun x e => e.elim)
theorem ports_open {L : List Asn} {b : Nat} {t : Tb} {h : Hp} (hs : Sat (L ++ [portsA b t]) h) :
    ∃ m E, Sat (L ++ [row b 75 [.map (some m), .int .i64 t.most, .int .i64 t.depth], mapA .i64 m (ptrs E), star (E.map fun e => placeA t.depth e.1 e.2)]) h ∧ (E.map Prod.snd).Perm t.ps := by
  obtain ⟨⟨m, E⟩, hs⟩ := unexP hs
  have hs : Sat (L ++ [star [row b 75 [.map (some m), .int .i64 t.most, .int .i64 t.depth], mapA .i64 m (ptrs E), star (E.map fun e => placeA t.depth e.1 e.2), pur ((E.map Prod.snd).Perm t.ps)]]) h := hs
  have hs := hs.open
  exact ⟨m, E, hs.sel [0, 1, 2] (by decide) rfl, hs.pur 3 rfl⟩
theorem ports_shut {L : List Asn} {b m : Nat} {t : Tb} {E : List (Nat × PS)} {h : Hp} (hs : Sat (L ++ [row b 75 [.map (some m), .int .i64 t.most, .int .i64 t.depth], mapA .i64 m (ptrs E), star (E.map fun e => placeA t.depth e.1 e.2)]) h) (hp : (E.map Prod.snd).Perm t.ps) : Sat (L ++ [portsA b t]) h := by
  have h1 : Sat (L ++ [row b 75 [.map (some m), .int .i64 t.most, .int .i64 t.depth], mapA .i64 m (ptrs E), star (E.map fun e => placeA t.depth e.1 e.2), pur ((E.map Prod.snd).Perm t.ps)]) h := Sat.addPur hs hp
  have h2 := h1.close
  unfold portsA
  exact exP (m, E) h2
theorem place_open {L : List Asn} {depth : Int} {q : Nat} {p : PS} {h : Hp} (hs : Sat (L ++ [placeA depth q p]) h) :
    ∃ z Q, Sat (L ++ [row q 85 [z.v, .int .i64 depth, .int .i64 p.dr], tailA 39 5 z (dgs Q), star (Q.map datA)]) h ∧ Q.map Prod.fst = p.l := by
  obtain ⟨⟨z, Q⟩, hs⟩ := unexP hs
  have hs : Sat (L ++ [star [row q 85 [z.v, .int .i64 depth, .int .i64 p.dr], tailA 39 5 z (dgs Q), star (Q.map datA), pur (Q.map Prod.fst = p.l)]]) h := hs
  have hs := hs.open
  exact ⟨z, Q, hs.sel [0, 1, 2] (by decide) rfl, hs.pur 3 rfl⟩
theorem place_shut {L : List Asn} {depth : Int} {q : Nat} {p : PS} {z : Sl} {Q : List Qd} {h : Hp} (hs : Sat (L ++ [row q 85 [z.v, .int .i64 depth, .int .i64 p.dr], tailA 39 5 z (dgs Q), star (Q.map datA)]) h) (hp : Q.map Prod.fst = p.l) : Sat (L ++ [placeA depth q p]) h := by
  have h1 : Sat (L ++ [row q 85 [z.v, .int .i64 depth, .int .i64 p.dr], tailA 39 5 z (dgs Q), star (Q.map datA), pur (Q.map Prod.fst = p.l)]) h := Sat.addPur hs hp
  have h2 := h1.close
  unfold placeA
  exact exP (z, Q) h2

/-- a number among the entries -/
theorem ptrs_case (n : Int) : ∀ E : List (Nat × PS),
    ((∀ e ∈ E, e.2.n ≠ n) ∧ kvFind n (ptrs E) = none ∧ (∀ q, kvSet n (.pointer (some (bk q))) (ptrs E) = ptrs (E ++ [(q, newP n)])) ∧ kvDel n (ptrs E) = ptrs E) ∨
    (∃ (j : Nat) (e : Nat × PS), E[j]? = some e ∧ e.2.n = n ∧ kvFind n (ptrs E) = some (.pointer (some (bk e.1))) ∧ kvDel n (ptrs E) = ptrs (E.eraseIdx j)) := by
  intro E
  induction E with
  | nil => exact .inl ⟨by simp, rfl, fun q => rfl, rfl⟩
  | cons e E ih =>
    by_cases e1 : n = e.2.n
    · exact .inr ⟨0, e, rfl, e1.symm, by simp [ptrs, kvFind, e1], by simp [ptrs, kvDel, e1]⟩
    · rcases ih with ⟨h1, h2, h3, h4⟩ | ⟨j, f, h1, h2, h3, h4⟩
      · refine .inl ⟨?_, ?_, fun q => ?_, ?_⟩
        · intro x hx
          rcases List.mem_cons.1 hx with rfl | hx
          · exact fun w => e1 w.symm
          · exact h1 x hx
        · simp only [ptrs, List.map_cons, kvFind, e1, if_false]; exact h2
        · have := h3 q
          simp only [ptrs] at this
          simp only [ptrs, List.map_cons, kvSet, e1, if_false, this, List.cons_append]
        · simp only [ptrs] at h4
          simp only [ptrs, List.map_cons, kvDel, e1, if_false, h4]
      · refine .inr ⟨j + 1, f, by simpa using h1, h2, ?_, ?_⟩
        · simp only [ptrs, List.map_cons, kvFind, e1, if_false]; exact h3
        · simp only [ptrs] at h4
          simp only [ptrs, List.map_cons, kvDel, e1, if_false, h4, List.eraseIdx_cons_succ]
theorem find_case {n : Int} {E : List (Nat × PS)} {ps : List PS} (hp : (E.map Prod.snd).Perm ps) (hn : NodN ps) :
    (findP n ps = none ∧ kvFind n (ptrs E) = none ∧ (∀ q, kvSet n (.pointer (some (bk q))) (ptrs E) = ptrs (E ++ [(q, newP n)])) ∧ kvDel n (ptrs E) = ptrs E) ∨
    (∃ (j : Nat) (e : Nat × PS), E[j]? = some e ∧ e.2.n = n ∧ findP n ps = some e.2 ∧ kvFind n (ptrs E) = some (.pointer (some (bk e.1))) ∧ kvDel n (ptrs E) = ptrs (E.eraseIdx j)) := by
  rcases ptrs_case n E with ⟨h1, h2⟩ | ⟨j, e, h1, h2, h3, h4⟩
  · refine .inl ⟨?_, h2⟩
    cases hf : findP n ps with
    | none => rfl
    | some p =>
      obtain ⟨q1, q2⟩ := findP_some hf
      obtain ⟨e, he, rfl⟩ := List.mem_map.1 (hp.mem_iff.2 q1)
      exact absurd q2 (h1 e he)
  · exact .inr ⟨j, e, h1, h2, findP_of hn (hp.mem_iff.1 (List.mem_map.2 ⟨e, List.mem_of_getElem? h1, rfl⟩)) h2, h3, h4⟩

/-! ### the small functions -/
theorem p_is {L : List Asn} {b : Nat} {t : Tb} {n : Int} {h : Hp} {K : Bool → Hp → Prop} (hs : Sat (L ++ [portsA b t]) h) (hn : NodN t.ps) (hK : K (findP n t.ps).isSome h) : C27 (some (bk b)) n h K := by
  apply S27; unfold N27
  obtain ⟨m, E, hs, hp⟩ := ports_open hs
  simp only [nn_some']
  refine hs.lM 0 rfl rfl ?_
  refine hs.lookup 1 rfl ?_
  intro r hr
  rw [rval_kv hr]
  rcases find_case (n := n) hp hn with ⟨h1, h2, _⟩ | ⟨j, e, _, _, h1, h2, _⟩
  · rw [h2]
    rw [h1] at hK
    exact hK
  · rw [h2]
    rw [h1] at hK
    exact hK
theorem p_full {L : List Asn} {b : Nat} {t : Tb} {h : Hp} {K : Bool → Hp → Prop} (hs : Sat (L ++ [portsA b t]) h) (hK : K (decide (t.most ≤ (t.ps.length : Int))) h) : C28 (some (bk b)) h K := by
  apply S28; unfold N28
  obtain ⟨m, E, hs, hp⟩ := ports_open hs
  simp only [nn_some', add_bk]
  refine hs.lM 0 rfl rfl ?_
  refine hs.xMap 1 rfl ?_
  intro es c he
  refine hs.lI 0 rfl rfl ?_
  have h1 := he.len
  have h2 := hp.length_eq
  rw [List.length_map] at h2
  have h3 : (ptrs E).length = E.length := by simp [ptrs]
  rw [h1, h3, h2]; exact hK
theorem p_begin {L : List Asn} {b : Nat} {t : Tb} {n : Int} {h : Hp} {K : Hp → Prop} (hs : Sat (L ++ [portsA b t]) h) (hn : NodN t.ps) (hf : findP n t.ps = none)
    (hK : ∀ h', Sat (L ++ [portsA b { t with ps := addP n t.ps }]) h' → K h') : C29 (some (bk b)) n h K := by
  apply S29; unfold N29
  obtain ⟨m, E, hs, hp⟩ := ports_open hs
  simp only [nn_some', add_bk]
  refine hs.lM 0 rfl rfl ?_
  refine hs.lI 0 rfl rfl ?_
  intro q e0
  have hs1 := hs.new e0 (.cells ⟨[.slice none 0 0, .int .i64 t.depth, .int .i64 0]⟩ 85 (0, 0))
  revert hs1
  generalize upd h q _ = h1
  intro hs1
  have hs1 : Sat (L ++ [row b 75 [.map (some m), .int .i64 t.most, .int .i64 t.depth], mapA .i64 m (ptrs E), star (E.map fun e => placeA t.depth e.1 e.2), row q 85 [.slice none 0 0, .int .i64 t.depth, .int .i64 0]]) h1 := hs1
  refine ⟨hs1.lM 0 rfl rfl ⟨rfl, rfl⟩, ?_⟩
  refine hs1.muK 1 rfl (kt := 3) (et := 80) (by kernel_rfl) (by kernel_rfl) ?_
  intro h2 hs2
  rcases find_case (n := n) hp hn with ⟨_, _, h3, _⟩ | ⟨j, e, _, _, h4, _⟩
  · rw [h3 q] at hs2
    have hs2 : Sat (L ++ [row b 75 [.map (some m), .int .i64 t.most, .int .i64 t.depth], mapA .i64 m (ptrs (E ++ [(q, newP n)])), star (E.map fun e => placeA t.depth e.1 e.2), row q 85 [.slice none 0 0, .int .i64 t.depth, .int .i64 0]]) h2 := hs2
    refine hK _ (ports_shut (m := m) (E := E ++ [(q, newP n)]) ?_ ?_)
    · have g1 := hs2.addNilT 39 5 none
      have g2 : Sat ((L ++ [row b 75 [.map (some m), .int .i64 t.most, .int .i64 t.depth], mapA .i64 m (ptrs (E ++ [(q, newP n)])), star (E.map fun e => placeA t.depth e.1 e.2)]) ++ [row q 85 [(⟨none, 0, 0⟩ : Sl).v, .int .i64 t.depth, .int .i64 (newP n).dr], tailA 39 5 ⟨none, 0, 0⟩ (dgs [])]) h2 := Sat.csa g1
      have g3 : Sat ((L ++ [row b 75 [.map (some m), .int .i64 t.most, .int .i64 t.depth], mapA .i64 m (ptrs (E ++ [(q, newP n)])), star (E.map fun e => placeA t.depth e.1 e.2)]) ++ [row q 85 [(⟨none, 0, 0⟩ : Sl).v, .int .i64 t.depth, .int .i64 (newP n).dr], tailA 39 5 ⟨none, 0, 0⟩ (dgs []), star (([] : List Qd).map datA)]) h2 := by
        have a1 : Sat (((L ++ [row b 75 [.map (some m), .int .i64 t.most, .int .i64 t.depth], mapA .i64 m (ptrs (E ++ [(q, newP n)])), star (E.map fun e => placeA t.depth e.1 e.2)]) ++ [row q 85 [(⟨none, 0, 0⟩ : Sl).v, .int .i64 t.depth, .int .i64 (newP n).dr], tailA 39 5 ⟨none, 0, 0⟩ (dgs [])]) ++ []) h2 := by rw [List.append_nil]; exact g2
        exact Sat.asc a1.close
      have g4 := place_shut (p := newP n) g3 rfl
      have g5 : Sat ((L ++ [row b 75 [.map (some m), .int .i64 t.most, .int .i64 t.depth], mapA .i64 m (ptrs (E ++ [(q, newP n)]))]) ++ [star (E.map fun e => placeA t.depth e.1 e.2), placeA t.depth q (newP n)]) h2 := Sat.mv g4
      have g6 := g5.into
      have g7 : Sat (L ++ [row b 75 [.map (some m), .int .i64 t.most, .int .i64 t.depth], mapA .i64 m (ptrs (E ++ [(q, newP n)])), star ((E.map fun e => placeA t.depth e.1 e.2) ++ [placeA t.depth q (newP n)])]) h2 := Sat.asc g6
      rw [show ((E.map fun e => placeA t.depth e.1 e.2) ++ [placeA t.depth q (newP n)]) = ((E ++ [(q, newP n)]).map fun e => placeA t.depth e.1 e.2) by simp] at g7
      exact g7
    · rw [List.map_append]
      show (E.map Prod.snd ++ [newP n]).Perm (addP n t.ps)
      exact (List.perm_append_comm).trans (((hp.cons (newP n))).trans (addP_perm n t.ps).symm)
  · rw [hf] at h4; cases h4

theorem c_bclone {s : Sl} {l : List UInt8} {h : Hp} {K : Sl → Hp → Prop} (hr : RdB h s l) (hl : l.length ≤ 140737488355328) (hK : ∀ s' h', NewO h h' 5 1 s' (bc l) → K s' h') : C31 s h K := by
  apply S31; unfold N31
  cases hp : s.p with
  | none =>
    have : l = [] := by
      cases l with
      | nil => rfl
      | cons x l => obtain ⟨a, ha, _⟩ := hr.get (i := 0) (by simp); rw [hp] at ha; cases ha
    subst this
    exact hK _ _ NewO.nil
  | some a =>
    simp only [Option.isNone_some, cond_false]
    intro b0 e0
    have hs0 : Sat ([] ++ [Hw.was h]) h := Sat.start
    have hs1 : Sat ([] ++ [Hw.was h, Hw.own 5 1 ⟨some (bk b0), 0, 0⟩ []]) (upd h b0 (.cells ⟨[]⟩ 5 (0, 0))) := hs0.addOwn (Ext.new e0) ⟨rfl, Nat.le_refl _, rfl, [], upd_same, rfl, rfl⟩ (fun b hb => by
      simp only [Option.some.injEq] at hb
      have : b0 = b := congrArg Addr.block hb
      subst this; exact e0)
    have hr1 := hr.ext (Ext.new (o := .cells ⟨[]⟩ 5 (0, 0)) e0)
    have hn := hr.n
    refine hs1.ap 1 rfl (n := s.n) (ns := bc l) (by kernel_rfl) (by kernel_rfl) (fun _ => rfl) ?_ (by rw [bc_len]; omega) bc_plain (by
      rw [show Try.prog.bytesOf 5 = 1 by kernel_rfl]; show (0 + s.n) * 2 * 1 ≤ _; omega) ?_
    · intro G hG
      rw [← hp]
      refine hr1.srcK (n := s.n) (by omega) ?_
      rw [hn, List.take_length]; exact hG
    · intro s' h' hs' _
      rw [List.nil_append] at hs'
      have hs' : Sat ([] ++ [Hw.was h, Hw.own 5 1 s' (bc l)]) h' := hs'
      exact hK s' h' (hs'.newO 0 1 rfl rfl (by decide))

/-- a datagram is laid behind the others, where there is room -/
theorem c_qput {L : List Asn} {q : Nat} {p : PS} {depth : Int} {d : Dg} {s : Sl} {h : Hp} {K : Bool → Hp → Prop} (hs : Sat (L ++ [placeA depth q p, datA (d, s)]) h) (hl : p.l.length ≤ 1000000)
    (hfull : depth ≤ (p.l.length : Int) → ∀ h', Sat (L ++ [placeA depth q p, datA (d, s)]) h' → K false h')
    (hK : (p.l.length : Int) < depth → ∀ h', Sat (L ++ [placeA depth q { p with l := p.l ++ [d] }]) h' → K true h') : C32 (some (bk q)) d.a d.b d.c d.d s h K := by
  apply S32; unfold N32
  intro b0 e0
  have hs0 : Sat ((L ++ [datA (d, s)]) ++ [placeA depth q p]) h := Sat.csa (hs.sel [1, 0] (by decide) rfl)
  obtain ⟨z, Q, hs1, hq⟩ := place_open hs0
  have hs1 := hs1.new e0 (.cells ⟨[.int .u32 d.a, .int .u32 d.b, .int .i64 d.c, .int .i64 d.d, .slice s.p s.n s.c]⟩ 39 (0, 0))
  have hs := hs.ext (Ext.new (o := .cells ⟨[.int .u32 d.a, .int .u32 d.b, .int .i64 d.c, .int .i64 d.d, .slice s.p s.n s.c]⟩ 39 (0, 0)) e0)
  revert hs1 hs
  generalize upd h b0 _ = h1
  intro hs1 hs
  have hs1 : Sat (L ++ [datA (d, s), row q 85 [z.v, .int .i64 depth, .int .i64 p.dr], tailA 39 5 z (dgs Q), star (Q.map datA), row b0 39 [.int .u32 d.a, .int .u32 d.b, .int .i64 d.c, .int .i64 d.d, s.v]]) h1 := Sat.asc hs1
  have zn : z.n = p.l.length := by have := (hs1.tail 2 rfl).1; rw [dgs_len] at this; rw [← hq, List.length_map]; omega
  simp only [nn_some', add_bk]
  refine hs1.lL 1 rfl rfl ?_
  refine hs1.lI 1 rfl rfl ?_
  by_cases hd : depth ≤ (p.l.length : Int)
  · have : decide (((z.n : Nat) : Int) ≥ depth) = true := by rw [zn]; simpa using hd
    rw [this, cond_true]
    exact hfull hd _ hs
  · have : decide (((z.n : Nat) : Int) ≥ depth) = false := by rw [zn]; simpa using hd
    rw [this, cond_false]
    refine hs1.lL 1 rfl rfl ?_
    refine hs1.lI 4 rfl rfl ?_
    refine hs1.lI 4 rfl rfl ?_
    refine hs1.lI 4 rfl rfl ?_
    refine hs1.lI 4 rfl rfl ?_
    refine hs1.lL 4 rfl rfl ?_
    intro b1 e1
    have hs2 := hs1.ext (Ext.new (o := .cells ⟨[.int .u32 d.a, .int .u32 d.b, .int .i64 d.c, .int .i64 d.d, .slice s.p s.n s.c]⟩ 39 (0, 0)) e1)
    have hb : Blk (upd h1 b1 (.cells ⟨[.int .u32 d.a, .int .u32 d.b, .int .i64 d.c, .int .i64 d.d, .slice s.p s.n s.c]⟩ 39 (0, 0))) b1 39 (dgs [(d, s)]) := Blk.upd_same
    revert hs2 hb
    generalize upd h1 b1 _ = h2
    intro hs2 hb
    refine ⟨hs2.lL 1 rfl rfl ⟨rfl, rfl⟩, ?_⟩
    refine hs2.apT 2 rfl (n := 1) (ns := dgs [(d, s)]) (by kernel_rfl) (by kernel_rfl) (fun _ => rfl) ?_ rfl dgs_plain (by rw [show Try.prog.bytesOf 39 = 48 by kernel_rfl]; show (z.n + 1) * 2 * 48 ≤ _; omega) ?_
    · intro G hG
      unfold srcK
      simp only []
      rw [rdN_blk hb _ _ (by simp [dgs_len])]
      exact hG
    · intro z' h3 hs3 _
      refine hs3.st 1 rfl (by simp) rfl ?_
      intro h4 hs4
      refine hK (by omega) _ ?_
      have g1 : Sat (L ++ [datA (d, s), row q 85 [z'.v, .int .i64 depth, .int .i64 p.dr], tailA 39 5 z' (dgs (Q ++ [(d, s)])), star (Q.map datA), row b0 39 [.int .u32 d.a, .int .u32 d.b, .int .i64 d.c, .int .i64 d.d, s.v]]) h4 := by rw [dgs_app]; exact hs4
      have g2 : Sat ((L ++ [row q 85 [z'.v, .int .i64 depth, .int .i64 p.dr], tailA 39 5 z' (dgs (Q ++ [(d, s)]))]) ++ [star (Q.map datA), datA (d, s)]) h4 := Sat.csa (g1.sel [1, 2, 3, 0] (by decide) rfl)
      have g3 := g2.into
      have g4 : Sat (L ++ [row q 85 [z'.v, .int .i64 depth, .int .i64 p.dr], tailA 39 5 z' (dgs (Q ++ [(d, s)])), star (Q.map datA ++ [datA (d, s)])]) h4 := Sat.asc g3
      rw [show (Q.map datA ++ [datA (d, s)]) = ((Q ++ [(d, s)]).map datA) by simp] at g4
      exact place_shut (z := z') (Q := Q ++ [(d, s)]) g4 (by simp [hq])

/-- the first one is taken -/
theorem c_qtake {L : List Asn} {q : Nat} {p : PS} {depth : Int} {h : Hp} {K : Int → Int → Int → Int → Sl → Bool → Hp → Prop} (hs : Sat (L ++ [placeA depth q p]) h)
    (hnone : p.l = [] → ∀ h', Sat (L ++ [placeA depth q p]) h' → K 0 0 0 0 ⟨none, 0, 0⟩ false h')
    (hK : ∀ d r, p.l = d :: r → ∀ s h', Sat (L ++ [placeA depth q { p with l := r }, datA (d, s)]) h' → K d.a d.b d.c d.d s true h') : C33 (some (bk q)) h K := by
  apply S33; unfold N33
  intro b0 e0
  have hx0 := hs.ext (Ext.new (o := .cells ⟨[.int .u32 0, .int .u32 0, .int .i64 0, .int .i64 0, .slice none 0 0]⟩ 39 (0, 0)) e0)
  have hs0 := hs.new e0 (.cells ⟨[.int .u32 0, .int .u32 0, .int .i64 0, .int .i64 0, .slice none 0 0]⟩ 39 (0, 0))
  revert hs0 hx0
  generalize upd h b0 _ = h0
  intro hx0 hs0
  intro b1 e1
  have hs1 := hs0.new e1 (.cells ⟨[.int .u32 0, .int .u32 0, .int .i64 0, .int .i64 0, .slice none 0 0]⟩ 39 (0, 0))
  revert hs1
  generalize upd h0 b1 _ = h1
  intro hs1
  have hs1 : Sat ((L ++ [row b0 39 [.int .u32 0, .int .u32 0, .int .i64 0, .int .i64 0, .slice none 0 0], row b1 39 [.int .u32 0, .int .u32 0, .int .i64 0, .int .i64 0, .slice none 0 0]]) ++ [placeA depth q p]) h1 := by
    have hs1 : Sat (L ++ [placeA depth q p, row b0 39 [.int .u32 0, .int .u32 0, .int .i64 0, .int .i64 0, .slice none 0 0], row b1 39 [.int .u32 0, .int .u32 0, .int .i64 0, .int .i64 0, .slice none 0 0]]) h1 := hs1
    have := hs1.sel [1, 2, 0] (M' := [_, _, _]) (by decide) rfl
    simpa using this
  obtain ⟨z, Q, hs, hq⟩ := place_open hs1
  have hs : Sat (L ++ [row b0 39 [.int .u32 0, .int .u32 0, .int .i64 0, .int .i64 0, .slice none 0 0], row b1 39 [.int .u32 0, .int .u32 0, .int .i64 0, .int .i64 0, .slice none 0 0], row q 85 [z.v, .int .i64 depth, .int .i64 p.dr], tailA 39 5 z (dgs Q), star (Q.map datA)]) h1 := Sat.asc hs
  have zn : z.n = p.l.length := by have := (hs.tail 3 rfl).1; rw [dgs_len] at this; rw [← hq, List.length_map]; omega
  simp only [nn_some', add_bk]
  refine hs.lL 2 rfl rfl ?_
  cases Q with
  | nil =>
    have hl0 : p.l = [] := by rw [← hq]; rfl
    have : (((z.n : Nat) : Int) == 0) = true := by rw [zn, hl0]; rfl
    have this : ((((⟨z.p, z.n, z.c⟩ : Sl).n : Nat) : Int) == 0) = true := this
    rw [this, cond_true]
    repeat (first | (refine Sat.st hs 0 rfl (by simp) rfl ?_; intro _ hs; simp only [List.set_cons_zero, List.set_cons_succ] at hs) | (refine Sat.st hs 1 rfl (by simp) rfl ?_; intro _ hs; simp only [List.set_cons_zero, List.set_cons_succ] at hs) | (refine Sat.st hs 2 rfl (by simp) rfl ?_; intro _ hs; simp only [List.set_cons_zero, List.set_cons_succ] at hs) | (refine Sat.lI hs 0 rfl rfl ?_) | (refine Sat.lI hs 1 rfl rfl ?_) | (refine Sat.lI hs 2 rfl rfl ?_) | (refine Sat.lL hs 0 rfl rfl ?_) | (refine Sat.lL hs 1 rfl rfl ?_) | (refine Sat.lL hs 2 rfl rfl ?_) | (refine Sat.lP hs 0 rfl rfl ?_) | (refine Sat.lP hs 1 rfl rfl ?_) | (refine Sat.lP hs 2 rfl rfl ?_) | (refine Sat.lB hs 0 rfl rfl ?_) | (refine Sat.lB hs 1 rfl rfl ?_) | (refine Sat.lB hs 2 rfl rfl ?_) | (refine Sat.lS hs 0 rfl rfl ?_) | (refine Sat.lS hs 1 rfl rfl ?_) | (refine Sat.lS hs 2 rfl rfl ?_) | (refine Sat.lM hs 0 rfl rfl ?_) | (refine Sat.lM hs 1 rfl rfl ?_) | (refine Sat.lM hs 2 rfl rfl ?_) | (refine Sat.lA hs 0 rfl rfl ?_) | (refine Sat.lA hs 1 rfl rfl ?_) | (refine Sat.lA hs 2 rfl rfl ?_) | (simp only [nn_some', add_bk]))
    refine hnone hl0 _ ?_
    refine place_shut (z := z) (Q := []) ?_ (by rw [hl0]; rfl)
    exact hs.sel [2, 3, 4] (by decide) rfl
  | cons x Q =>
    obtain ⟨d, s⟩ := x
    have hl0 : p.l = d :: Q.map Prod.fst := by rw [← hq]; rfl
    have : ((((⟨z.p, z.n, z.c⟩ : Sl).n : Nat) : Int) == 0) = false := by
      show (((z.n : Nat) : Int) == 0) = false
      rw [zn, hl0]; simp; omega
    rw [this, cond_false]
    refine hs.lL 2 rfl rfl ?_
    have z1 : 1 ≤ z.n := by rw [zn, hl0]; simp
    refine idx_of (by omega) (by show (0 : Int) < (z.n : Int); omega) ?_
    have hr := (hs.tail 3 rfl).rdc
    obtain ⟨a, ha, k0⟩ := hr 0 (.int .u32 d.a) rfl
    obtain ⟨_, ha1, k1⟩ := hr 1 (.int .u32 d.b) rfl
    rw [ha] at ha1; cases ha1
    obtain ⟨_, ha1, k2⟩ := hr 2 (.int .i64 d.c) rfl
    rw [ha] at ha1; cases ha1
    obtain ⟨_, ha1, k3⟩ := hr 3 (.int .i64 d.d) rfl
    rw [ha] at ha1; cases ha1
    obtain ⟨_, ha1, k4⟩ := hr 4 s.v rfl
    rw [ha] at ha1; cases ha1
    simp only [ha, nn_some', Int.toNat_zero, Nat.zero_mul, addzero] at k0 ⊢
    simp only [k0, k1, k2, k3, k4, xI_some, xL_v]
    refine hs.lL 2 rfl rfl ?_
    refine bd_nat (i := 1) (show 1 ≤ z.n from z1) ?_
    refine hs.st 1 rfl (by simp) rfl ?_
    intro _ hs
    refine hs.st 1 rfl (by simp) rfl ?_
    intro _ hs
    refine hs.st 1 rfl (by simp) rfl ?_
    intro _ hs
    refine hs.st 1 rfl (by simp) rfl ?_
    intro _ hs
    refine hs.st 1 rfl (by simp) rfl ?_
    intro h6 hs
    have hs : Sat (L ++ [row b0 39 [.int .u32 0, .int .u32 0, .int .i64 0, .int .i64 0, .slice none 0 0], row b1 39 [.int .u32 d.a, .int .u32 d.b, .int .i64 d.c, .int .i64 d.d, s.v], row q 85 [z.v, .int .i64 depth, .int .i64 p.dr], tailA 39 5 z (dgs ((d, s) :: Q)), star (((d, s) :: Q).map datA)]) h6 := hs
    refine ⟨hs.lL 2 rfl rfl ⟨rfl, rfl⟩, ?_⟩
    have hs := hs.cutT 3 rfl (k := 1) z1 (by decide)
    refine hs.st 2 rfl (by simp) rfl ?_
    intro h7 hs
    have hs : Sat (L ++ [row b0 39 [.int .u32 0, .int .u32 0, .int .i64 0, .int .i64 0, .slice none 0 0], row b1 39 [.int .u32 d.a, .int .u32 d.b, .int .i64 d.c, .int .i64 d.d, s.v], row q 85 [(⟨sadr z.p z.c 1 5, z.n - 1, z.c - 1⟩ : Sl).v, .int .i64 depth, .int .i64 p.dr], tailA 39 5 ⟨sadr z.p z.c 1 5, z.n - 1, z.c - 1⟩ (dgs Q), star (((d, s) :: Q).map datA)]) h7 := hs
    have fin : ∀ {r0 r1 : Asn} {hh : Hp}, Sat (L ++ [r0, r1, row q 85 [(⟨sadr z.p z.c 1 5, z.n - 1, z.c - 1⟩ : Sl).v, .int .i64 depth, .int .i64 p.dr], tailA 39 5 ⟨sadr z.p z.c 1 5, z.n - 1, z.c - 1⟩ (dgs Q), star (((d, s) :: Q).map datA)]) hh → Sat (L ++ [placeA depth q { p with l := Q.map Prod.fst }, datA (d, s)]) hh := by
      intro r0 r1 hh hs
      have g1 : Sat ((L ++ [row q 85 [(⟨sadr z.p z.c 1 5, z.n - 1, z.c - 1⟩ : Sl).v, .int .i64 depth, .int .i64 p.dr], tailA 39 5 ⟨sadr z.p z.c 1 5, z.n - 1, z.c - 1⟩ (dgs Q)]) ++ [star (((d, s) :: Q).map datA)]) hh := Sat.csa (hs.sel [2, 3, 4] (by decide) rfl)
      have g2 : Sat (L ++ [row q 85 [(⟨sadr z.p z.c 1 5, z.n - 1, z.c - 1⟩ : Sl).v, .int .i64 depth, .int .i64 p.dr], tailA 39 5 ⟨sadr z.p z.c 1 5, z.n - 1, z.c - 1⟩ (dgs Q), star (Q.map datA), datA (d, s)]) hh := Sat.asc (g1.out 0 rfl)
      have g3 : Sat ((L ++ [datA (d, s)]) ++ [row q 85 [(⟨sadr z.p z.c 1 5, z.n - 1, z.c - 1⟩ : Sl).v, .int .i64 depth, .int .i64 p.dr], tailA 39 5 ⟨sadr z.p z.c 1 5, z.n - 1, z.c - 1⟩ (dgs Q), star (Q.map datA)]) hh := Sat.csa (g2.sel [3, 0, 1, 2] (by decide) rfl)
      have g4 := place_shut (p := { p with l := Q.map Prod.fst }) g3 rfl
      have g5 : Sat (L ++ [datA (d, s), placeA depth q { p with l := Q.map Prod.fst }]) hh := Sat.asc g4
      exact g5.sel [1, 0] (by decide) rfl
    repeat (first | (refine Sat.st hs 0 rfl (by simp) rfl ?_; intro _ hs; simp only [List.set_cons_zero, List.set_cons_succ] at hs) | (refine Sat.st hs 1 rfl (by simp) rfl ?_; intro _ hs; simp only [List.set_cons_zero, List.set_cons_succ] at hs) | (refine Sat.st hs 2 rfl (by simp) rfl ?_; intro _ hs; simp only [List.set_cons_zero, List.set_cons_succ] at hs) | (refine Sat.lI hs 0 rfl rfl ?_) | (refine Sat.lI hs 1 rfl rfl ?_) | (refine Sat.lI hs 2 rfl rfl ?_) | (refine Sat.lL hs 0 rfl rfl ?_) | (refine Sat.lL hs 1 rfl rfl ?_) | (refine Sat.lL hs 2 rfl rfl ?_) | (refine Sat.lP hs 0 rfl rfl ?_) | (refine Sat.lP hs 1 rfl rfl ?_) | (refine Sat.lP hs 2 rfl rfl ?_) | (refine Sat.lB hs 0 rfl rfl ?_) | (refine Sat.lB hs 1 rfl rfl ?_) | (refine Sat.lB hs 2 rfl rfl ?_) | (refine Sat.lS hs 0 rfl rfl ?_) | (refine Sat.lS hs 1 rfl rfl ?_) | (refine Sat.lS hs 2 rfl rfl ?_) | (refine Sat.lM hs 0 rfl rfl ?_) | (refine Sat.lM hs 1 rfl rfl ?_) | (refine Sat.lM hs 2 rfl rfl ?_) | (refine Sat.lA hs 0 rfl rfl ?_) | (refine Sat.lA hs 1 rfl rfl ?_) | (refine Sat.lA hs 2 rfl rfl ?_) | (simp only [nn_some', add_bk]))
    exact hK d (Q.map Prod.fst) hl0 s _ (fin hs)

end Go.Proofs.Ytabihmedfopdcaa

set_option linter.unusedVariables false
set_option maxRecDepth 100000
namespace Go.Proofs.Ytabihmedfopdcaa
open Go Go.Hw
/-! ### 25 maps.Keys[map[int]*slipway/port.place,int,*slipway/port.place] -/
noncomputable def B25 : Code := match Try.f25.body with | some c => c | none => .skip
def N25 (x0 : Option Nat) (h : Hp) (K : Value → Hp → Prop) : Prop :=
  nw h (.cells ⟨[.map x0]⟩ 73) fun b0 h0 =>
  K (.func (.func 50) ⟨[]⟩ ⟨[.pointer (some (bk b0))]⟩) h0
theorem S25 {x0 : Option Nat} {h : Hp} {K : Value → Hp → Prop} (hn : N25 x0 h K) : C25 x0 h K := by
  refine calls_of_D Try.func25 (c := B25) rfl (by kernel_rfl) ?_
  refine den_sound hE hm _ .leaf _ _ _ (annOk_leaf) ?_
  refine cast ?_ hn
  kernel_rfl
end Go.Proofs.Ytabihmedfopdcaa

/-
  The keys of a map, sorted: slices.Sorted(maps.Keys(m)).
-/
set_option linter.unusedSimpArgs false
set_option linter.unusedVariables false
namespace Go.Proofs
open Go.RowKit Go.Maps Go.Sort Go.Shelf
shelf_lay_g SlLaysZI.n7 Ggz 7 at Try 25 as Try.keysA
shelf_lay_g SlLaysZI.n6 Ggz 6 at Try 24 as Try.sortedA
shelf_lay_g SlLaysM.n5 Slgm 5 at Try 49 as Try.sortA
theorem Try.sortsA (m : Nat) : AnyZI.SortsIn Try.prog Try.sortedA_ren Fence.wide m :=
  ⟨fun blk off cap ss W hH hblk hsz => callsIn_wide.2 (AnyM.slices_Sort_int Try.sortA blk off cap ss W hH hblk hsz),
   fun p cap W => callsIn_wide.2 (AnyM.slices_Sort_int_none Try.sortA p cap W)⟩
end Go.Proofs
namespace Go.Proofs.Ytabihmedfopdcaa
open Go Go.Hw Go.RowKit Go.Maps Go.Sort Go.Shelf

/-- numbers, rising -/
def sortI (l : List Int) : List Int := l.mergeSort (fun x y => decide (x ≤ y))
def iz (l : List Int) : List Value := l.map (Value.int .i64)
def RdT : Value → Option (DataW Unit × List MemPlace) := fun _ => some (.lit (.bool true), [])

theorem keys_fit {es : Array MapEntry} {c : Nat} {kv : KV} (he : EsIs .i64 es.toList kv) (hst : MapKept.Stamped es c) (hr : ∀ x ∈ kv, (Lit.int .i64 x.1).wf = true) (hl : kv.length ≤ 1048576) :
    Go.WideElems.Fit (H := Unit) Try.prog 3 RdT es c := by
  refine ⟨?_, hst, ?_⟩
  · have := he.len
    rw [Array.length_toList] at this
    unfold maxLen; omega
  · intro x hx
    obtain ⟨i, hi, rfl⟩ := List.getElem_of_mem hx
    have h2 := congrArg (fun l => l[i]?) he
    simp only [List.getElem?_map, List.getElem?_eq_getElem hi, Option.map_some] at h2
    cases hk : kv[i]? with
    | none => rw [hk] at h2; cases h2
    | some y =>
      rw [hk] at h2
      simp only [Option.map_some, Option.some.injEq, Prod.mk.injEq] at h2
      have hw := hr y (List.mem_of_getElem? hk)
      refine ⟨(.int .i64 y.1, .lit (.bool true)), ?_⟩
      unfold Go.WideElems.rd
      have hu : Try.prog.underlying 3 = some (.int .i64) := by kernel_rfl
      have : keyOf Try.prog 3 es.toList[i].key = some (.int .i64 y.1) := by
        rw [h2.1]; simp [keyOf, hu, mapKey, hw]
      rw [this]; rfl
theorem keys_perm {es : Array MapEntry} {kv : KV} (he : EsIs .i64 es.toList kv) (hr : ∀ x ∈ kv, (Lit.int .i64 x.1).wf = true) :
    (intKeys (DataW.map ((es.toList.map (Go.WideElems.rg (H := Unit) Try.prog 3 RdT)).foldr DataW.insert []))).Perm (kv.map Prod.fst) := by
  have hp := Go.WideShapes.sorted_perm (es.toList.map (Go.WideElems.rg (H := Unit) Try.prog 3 RdT))
  have e : (es.toList.map (Go.WideElems.rg (H := Unit) Try.prog 3 RdT)).map (fun p => _root_.Go.intOf p.1) = kv.map Prod.fst := by
    apply List.ext_getElem?
    intro i
    have h2 := congrArg (fun l => l[i]?) he
    simp only [List.getElem?_map] at h2 ⊢
    cases hk : kv[i]? with
    | none =>
      rw [hk] at h2
      cases hx : es.toList[i]? with
      | none => rfl
      | some x => rw [hx] at h2; cases h2
    | some y =>
      rw [hk] at h2
      cases hx : es.toList[i]? with
      | none => rw [hx] at h2; cases h2
      | some x =>
        rw [hx] at h2
        simp only [Option.map_some, Option.some.injEq, Prod.mk.injEq] at h2 ⊢
        have hw := hr y (List.mem_of_getElem? hk)
        have hu : Try.prog.underlying 3 = some (.int .i64) := by kernel_rfl
        have : keyOf Try.prog 3 x.key = some (.int .i64 y.1) := by
          rw [h2.1]; simp [keyOf, hu, mapKey, hw]
        unfold Go.WideElems.rg Go.WideElems.rd
        rw [this]; rfl
  rw [← e]
  exact hp.map _

theorem c_sorted {L M : List Asn} {m : Nat} {kv : KV} {h : Hp} {K : Sl → Hp → Prop} (hs : Sat (L ++ M) h) (j : Nat) (hj : M[j]? = some (mapA .i64 m kv)) (hr : ∀ x ∈ kv, (Lit.int .i64 x.1).wf = true) (hl : kv.length ≤ 1048576)
    (hK : ∀ s h', NewO h h' 3 1 s (iz (sortI (kv.map Prod.fst))) → K s h') : C25 (some m) h fun v0 h0 => C24 v0 h0 K := by
  apply S25; unfold N25
  intro b0 e0
  have x0 : Ext none' h (upd h b0 (.cells ⟨[.map (some m)]⟩ 73 (0, 0))) := Ext.new e0
  have hs0 := hs.ext x0
  obtain ⟨es, c, hm, he, hst⟩ := hs0.map j hj
  intro w hw
  have hb0 : w.cell? ⟨b0, 0, none⟩ = some (.map (some m)) := by
    rw [← cell_hp, hw]; simp [cell, upd_same]
  have hlt : b0 < w.heap.size := by
    have : hpOf w b0 ≠ none := by rw [hw, upd_same]; simp
    unfold hpOf at this
    cases hq : w.heap[b0]? with
    | none => exact absurd hq this
    | some o => exact (Array.getElem?_eq_some_iff.1 hq).1
  have hmw : w.heap[m]? = some (.map es c) := by rw [← hw] at hm; exact hm
  let D0 : DataW Unit := .map ((es.toList.map (Go.WideElems.rg (H := Unit) Try.prog 3 RdT)).foldr DataW.insert [])
  have hown : w.ownsMap Try.prog 3 RdT m es.size D0 := ⟨es, c, hmw, keys_fit he hst hr hl, Nat.le_refl _, rfl⟩
  have hlen := he.len
  rw [Array.length_toList] at hlen
  have hsz : Maps.size D0 = es.size := by show (List.length _) = _; rw [length_sorted]; simp
  have hseq : SeqGives Fence.wide 2 Try.prog 50 #[.pointer (some ⟨b0, 0, none⟩)] encZ (fun ss => ss.Perm (intKeys D0)) (Maps.size D0) w :=
    AnyZI.keys_gives (ρ := Try.keysA_ren) { Try.keysA with } Fence.wide _ trivial rfl (by omega) b0 m es.size D0 _ hlt hb0 hown
  have cS := AnyZI.sorted_in Try.sortedA Fence.wide 5 trivial trivial trivial trivial rfl (by omega) (Try.sortsA _) (enters_of Try.func49 (by kernel_rfl) rfl) 50 #[.pointer (some ⟨b0, 0, none⟩)] trivial (enters_of Try.func50 (by kernel_rfl) rfl) _ _ (by unfold maxLen; omega) (by omega) _ hseq
  change CallsIn _ _ Try.prog 24 _ _ _ at cS
  have cS := (callsIn_wide (n := 5)).1 cS
  refine cS.mono ?_
  rintro e w' ⟨v, ss, rfl, hS, hrow, hnil, hb⟩
  have hx : Ext none' (upd h b0 (.cells ⟨[.map (some m)]⟩ 73 (0, 0))) (hpOf w') := by
    intro k o hk _
    rw [← hw] at hk
    have hk' : w.heap[k]? = some o := hk
    have hklt := (Array.getElem?_eq_some_iff.1 hk').1
    show w'.heap[k]? = some o
    rw [hb.block k hklt]; exact hk'
  have hsort : ss.mergeSort (fun x y => decide (x ≤ y)) = sortI (kv.map Prod.fst) := mergeSort_of_perm_i (hS.trans (keys_perm he hr))
  rw [hsort] at hrow
  have key : ∃ s : Sl, v = s.v ∧ NewO (upd h b0 (.cells ⟨[.map (some m)]⟩ 73 (0, 0))) (hpOf w') 3 1 s (iz (sortI (kv.map Prod.fst))) := by
    obtain ⟨h1, ⟨rfl, h2⟩ | ⟨g, cap, cur, rfl, hg, hc, hn, hmx, hcs, ht⟩⟩ := hrow
    · refine ⟨⟨none, 0, 0⟩, rfl, hx, ?_, by intro b hb; cases hb⟩
      have : iz (sortI (kv.map Prod.fst)) = [] := List.length_eq_zero_iff.1 (by rw [show (iz (sortI (kv.map Prod.fst))).length = ss.length * 1 from h1, h2])
      rw [this]; exact Own.nil
    · refine ⟨⟨some ⟨g, 0, none⟩, ss.length, cap⟩, rfl, hx, ⟨h1, hn, rfl, cur.toList, ?_, ?_, ?_⟩, ?_⟩
      · exact hc
      · show cur.toList.length = _; rw [Array.length_toList]; exact hcs
      · show List.take (iz _).length cur.toList = _
        have : (iz (sortI (kv.map Prod.fst))).length = ss.length * 1 := h1
        rw [this]; exact ht
      · intro b hb
        simp only [Option.some.injEq] at hb
        have : g = b := congrArg Addr.block hb
        subst this
        rw [← hw]
        show w.heap[g]? = none
        exact Array.getElem?_eq_none hg
  obtain ⟨s, rfl, hn⟩ := key
  refine ⟨_, rfl, ?_, hb.os, hb.output⟩
  exact hK s _ (NewO.trans x0 hn)
end Go.Proofs.Ytabihmedfopdcaa

set_option linter.unusedVariables false
set_option maxRecDepth 100000
namespace Go.Proofs.Ytabihmedfopdcaa
open Go Go.Hw
/-! ### 8 slipway/port.New -/
noncomputable def B8 : Code := match Try.f8.body with | some c => c | none => .skip
def N8 (x0 : Int) (x1 : Int) (h : Hp) (K : Option Addr → Hp → Prop) : Prop :=
  bif (decide (x0 < 1)) then
    K none h
  else
    bif (decide (x0 > 16)) then
      K none h
    else
      bif (decide (x1 < 1)) then
        K none h
      else
        bif (decide (x1 > 32)) then
          K none h
        else
          nw h (.map #[] 0) fun b0 h0 =>
          nw h0 (.cells ⟨[.map (some b0), .int .i64 x0, .int .i64 x1]⟩ 75) fun b1 h1 =>
          K (some (bk b1)) h1
theorem S8 {x0 : Int} {x1 : Int} {h : Hp} {K : Option Addr → Hp → Prop} (hn : N8 x0 x1 h K) : C8 x0 x1 h K := by
  refine calls_of_D Try.func8 (c := B8) rfl (by kernel_rfl) ?_
  refine den_sound hE hm _ .leaf _ _ _ (annOk_leaf) ?_
  refine cast ?_ hn
  kernel_rfl
end Go.Proofs.Ytabihmedfopdcaa

set_option linter.unusedVariables false
set_option maxRecDepth 100000
namespace Go.Proofs.Ytabihmedfopdcaa
open Go Go.Hw
/-! ### 11 (*slipway/port.Ports).Open -/
noncomputable def B11 : Code := match Try.f11.body with | some c => c | none => .skip
def N11_j0 (x0_p : Option Addr) (x1_n : Int) (x5 : Bool) (h : Hp) (K_normal : Hp → Prop) (K_ret : Int → Hp → Prop) : Prop :=
  bif x5 then
    K_ret 1 h
  else
    C27 x0_p x1_n h fun b0 h0 =>
    bif b0 then
      K_ret 130 h0
    else
      C28 x0_p h0 fun b1 h1 =>
      bif b1 then
        K_ret 3 h1
      else
        K_normal h1
noncomputable def N11_j0_t : Xf := pieceT [(0, .c (.ptr)), (1, .c (.int .i64)), (5, .c (.bool))] (codeAt B11 [1, 0, 0, 1]) fun x h Q => N11_j0 x.1 x.2.1 x.2.2 h (fun h' => Q .normal (Sg.env [] ()) h') (fun o0 h' => Q .ret (Sg.env [(4, .c (.int .i64))] o0) h')
theorem N11_j0_ok : Sound Try.prog Try.f11.ntmps N11_j0_t (codeAt B11 [1, 0, 0, 1]) := by
  refine piece_sound (fun e => match e with | .normal => [] | .ret => [4] | _ => []) ?_
  intro x h Q hb
  refine den_sound hE hm _ .leaf _ _ _ (annOk_leaf) ?_
  refine cast ?_ hb
  kernel_rfl
def N11 (x0 : Option Addr) (x1 : Int) (h : Hp) (K : Int → Hp → Prop) : Prop :=
  bif (decide (x1 < 1)) then
    N11_j0 x0 x1 true h
      (fun h0 =>
        C29 x0 x1 h0 fun h1 =>
        K 0 h1)
      (fun n0 h2 =>
        K n0 h2)
  else
    N11_j0 x0 x1 (decide (x1 > 65535)) h
      (fun h3 =>
        C29 x0 x1 h3 fun h4 =>
        K 0 h4)
      (fun n1 h5 =>
        K n1 h5)
theorem S11 {x0 : Option Addr} {x1 : Int} {h : Hp} {K : Int → Hp → Prop} (hn : N11 x0 x1 h K) : C11 x0 x1 h K := by
  refine calls_of_D Try.func11 (c := B11) rfl (by kernel_rfl) ?_
  refine den_sound hE hm _ (.two .leaf (.two (.one (.two .leaf (.xf N11_j0_t))) .leaf)) _ _ _ (⟨annOk_leaf, ⟨⟨annOk_leaf, N11_j0_ok⟩, annOk_leaf⟩⟩) ?_
  refine cast ?_ hn
  kernel_rfl
end Go.Proofs.Ytabihmedfopdcaa

set_option linter.unusedVariables false
set_option maxRecDepth 100000
namespace Go.Proofs.Ytabihmedfopdcaa
open Go Go.Hw
/-! ### 14 (*slipway/port.Ports).Close -/
noncomputable def B14 : Code := match Try.f14.body with | some c => c | none => .skip
def N14 (x0 : Option Addr) (x1 : Int) (h : Hp) (K : Bool → Hp → Prop) : Prop :=
  C27 x0 x1 h fun b0 h0 =>
  nn x0 fun a0 =>
  xM (cell h0 a0) fun m0 =>
  mdK Try.prog 73 (.map m0) (.int .i64 x1) h0 fun h1 =>
  K b0 h1
theorem S14 {x0 : Option Addr} {x1 : Int} {h : Hp} {K : Bool → Hp → Prop} (hn : N14 x0 x1 h K) : C14 x0 x1 h K := by
  refine calls_of_D Try.func14 (c := B14) rfl (by kernel_rfl) ?_
  refine den_sound hE hm _ .leaf _ _ _ (annOk_leaf) ?_
  refine cast ?_ hn
  kernel_rfl
end Go.Proofs.Ytabihmedfopdcaa

set_option linter.unusedVariables false
set_option maxRecDepth 100000
namespace Go.Proofs.Ytabihmedfopdcaa
open Go Go.Hw
/-! ### 13 (*slipway/port.Ports).Put -/
noncomputable def B13 : Code := match Try.f13.body with | some c => c | none => .skip
def N13 (x0 : Option Addr) (x1_0 : Int) (x1_1 : Int) (x1_2 : Int) (x1_3 : Int) (x1_4 : Sl) (h : Hp) (K : Int → Hp → Prop) : Prop :=
  nw h (.cells ⟨[.int .u32 x1_0, .int .u32 x1_1, .int .i64 x1_2, .int .i64 x1_3, .slice x1_4.p x1_4.n x1_4.c]⟩ 39) fun b0 h0 =>
  nn x0 fun a0 =>
  xM (cell h0 a0) fun m0 =>
  xI .i64 (cell h0 ((bk b0).add 3)) fun n0 =>
  xMap h0 m0 fun es0 _ =>
  keyAt (.int .i64) (.int .i64 n0) es0 fun r0 =>
  xP (some (rval r0 (.pointer none))) fun p0 =>
  peq h0 p0 none fun b1 =>
  bif b1 then
    K 131 h0
  else
    xL (cell h0 ((bk b0).add 4)) fun s0 =>
    C31 s0 h0 fun s1 h1 =>
    st h1 ((bk b0).add 4) (.slice s1.p s1.n s1.c) fun h2 =>
    nn p0 fun a1 =>
    xI .u32 (cell h2 (bk b0)) fun n1 =>
    xI .u32 (cell h2 ((bk b0).add 1)) fun n2 =>
    xI .i64 (cell h2 ((bk b0).add 2)) fun n3 =>
    xI .i64 (cell h2 ((bk b0).add 3)) fun n4 =>
    xL (cell h2 ((bk b0).add 4)) fun s2 =>
    C32 (some a1) n1 n2 n3 n4 s2 h2 fun b2 h3 =>
    bif (!b2) then
      nn p0 fun a2 =>
      xI .i64 (cell h3 (a2.add 2)) fun n5 =>
      nn p0 fun a3 =>
      st h3 (a3.add 2) (.int .i64 (IntKind.wrap .i64 (n5 + 1))) fun h4 =>
      K 3 h4
    else
      K 0 h3
theorem S13 {x0 : Option Addr} {x1_0 : Int} {x1_1 : Int} {x1_2 : Int} {x1_3 : Int} {x1_4 : Sl} {h : Hp} {K : Int → Hp → Prop} (hn : N13 x0 x1_0 x1_1 x1_2 x1_3 x1_4 h K) : C13 x0 x1_0 x1_1 x1_2 x1_3 x1_4 h K := by
  refine calls_of_D Try.func13 (c := B13) rfl (by kernel_rfl) ?_
  refine den_sound hE hm _ (.two .leaf (.two (.ord [0, 1, 2, 3, 4, 5, 6, 7]) (.two .leaf (.two .leaf (.two (.two (.ord [0, 1, 2, 3, 4, 5]) .leaf) .leaf))))) _ _ _ (⟨annOk_leaf, ⟨trivial, ⟨annOk_leaf, ⟨annOk_leaf, ⟨⟨trivial, annOk_leaf⟩, annOk_leaf⟩⟩⟩⟩⟩) ?_
  refine cast ?_ hn
  kernel_rfl
end Go.Proofs.Ytabihmedfopdcaa

set_option linter.unusedVariables false
set_option maxRecDepth 100000
namespace Go.Proofs.Ytabihmedfopdcaa
open Go Go.Hw
/-! ### 15 (*slipway/port.Ports).Take -/
noncomputable def B15 : Code := match Try.f15.body with | some c => c | none => .skip
def N15 (x0 : Option Addr) (x1 : Int) (h : Hp) (K : Int → Int → Int → Int → Sl → Bool → Hp → Prop) : Prop :=
  nw h (.cells ⟨[.int .u32 0, .int .u32 0, .int .i64 0, .int .i64 0, .slice none 0 0]⟩ 39) fun b0 h0 =>
  nn x0 fun a0 =>
  xM (cell h0 a0) fun m0 =>
  xMap h0 m0 fun es0 _ =>
  keyAt (.int .i64) (.int .i64 x1) es0 fun r0 =>
  xP (some (rval r0 (.pointer none))) fun p0 =>
  peq h0 p0 none fun b1 =>
  bif b1 then
    st h0 (bk b0) (.int .u32 0) fun h1 =>
    st h1 ((bk b0).add 1) (.int .u32 0) fun h2 =>
    st h2 ((bk b0).add 2) (.int .i64 0) fun h3 =>
    st h3 ((bk b0).add 3) (.int .i64 0) fun h4 =>
    st h4 ((bk b0).add 4) (.slice none 0 0) fun h5 =>
    xI .u32 (cell h5 (bk b0)) fun n0 =>
    xI .u32 (cell h5 ((bk b0).add 1)) fun n1 =>
    xI .i64 (cell h5 ((bk b0).add 2)) fun n2 =>
    xI .i64 (cell h5 ((bk b0).add 3)) fun n3 =>
    xL (cell h5 ((bk b0).add 4)) fun s0 =>
    K n0 n1 n2 n3 s0 false h5
  else
    nn p0 fun a1 =>
    C33 (some a1) h0 fun n4 n5 n6 n7 s1 b2 h6 =>
    st h6 (bk b0) (.int .u32 n4) fun h7 =>
    st h7 ((bk b0).add 1) (.int .u32 n5) fun h8 =>
    st h8 ((bk b0).add 2) (.int .i64 n6) fun h9 =>
    st h9 ((bk b0).add 3) (.int .i64 n7) fun h10 =>
    st h10 ((bk b0).add 4) (.slice s1.p s1.n s1.c) fun h11 =>
    xI .u32 (cell h11 (bk b0)) fun n8 =>
    xI .u32 (cell h11 ((bk b0).add 1)) fun n9 =>
    xI .i64 (cell h11 ((bk b0).add 2)) fun n10 =>
    xI .i64 (cell h11 ((bk b0).add 3)) fun n11 =>
    xL (cell h11 ((bk b0).add 4)) fun s2 =>
    K n8 n9 n10 n11 s2 b2 h11
theorem S15 {x0 : Option Addr} {x1 : Int} {h : Hp} {K : Int → Int → Int → Int → Sl → Bool → Hp → Prop} (hn : N15 x0 x1 h K) : C15 x0 x1 h K := by
  refine calls_of_M Try.func15 (c := B15) rfl (by kernel_rfl) ?_
  refine den_sound hE hm _ .leaf _ _ _ (annOk_leaf) ?_
  refine cast ?_ hn
  kernel_rfl
end Go.Proofs.Ytabihmedfopdcaa

set_option linter.unusedVariables false
set_option maxRecDepth 100000
namespace Go.Proofs.Ytabihmedfopdcaa
open Go Go.Hw
/-! ### 9 (*slipway/port.Ports).Look -/
noncomputable def B9 : Code := match Try.f9.body with | some c => c | none => .skip
def N9_l0_b (x0_p : Option Addr) (x12 : Sl) (x13 : Int) (Φ : Sl → Int → Hp → Prop) (x3_l : Sl) (x14 : Int) (h : Hp) (K_e0 : Sl → Hp → Prop) : Prop :=
  bif (decide (x14 < x13)) then
    idx x14 x12.n <|
    nn x12.p fun a0 =>
    xI .i64 (cell h (a0.add (x14.toNat * 1))) fun n0 =>
    nn x0_p fun a1 =>
    xM (cell h a1) fun m0 =>
    xMap h m0 fun es0 _ =>
    keyAt (.int .i64) (.int .i64 n0) es0 fun r0 =>
    xP (some (rval r0 (.pointer none))) fun p0 =>
    nn p0 fun a2 =>
    xL (cell h a2) fun s0 =>
    nn p0 fun a3 =>
    xI .i64 (cell h (a3.add 2)) fun n1 =>
    nw h (.cells ⟨[.int .i64 n0, .int .i64 ((s0.n : Nat) : Int), .int .i64 n1]⟩ 72) fun b0 h0 =>
    apK Try.prog 72 x3_l (.slice (some (bk b0)) 1 1) h0 fun s1 h1 =>
    Φ s1 (IntKind.wrap .i64 (x14 + 1)) h1
  else
    K_e0 x3_l h
def N9_l0_B (x0_p : Option Addr) (x12 : Sl) (x13 : Int) (K_e0 : Sl → Hp → Prop) (s : Sg.T [(3, .c (.slice)), (14, .c (.int .i64))]) (h : Hp) (Φ : Sg.T [(3, .c (.slice)), (14, .c (.int .i64))] → Hp → Prop) : Prop :=
  N9_l0_b x0_p x12 x13 (fun x3_l x14 h => Φ (x3_l, x14) h) s.1 s.2 h K_e0
def N9_l0 (x0_p : Option Addr) (x12 : Sl) (x13 : Int) (x3_l : Sl) (x14 : Int) (h : Hp) (K_e0 : Sl → Hp → Prop) : Prop :=
  loopP (N9_l0_B x0_p x12 x13 K_e0) (x3_l, x14) h
noncomputable def N9_l0_t : Xf := loopT [(0, .c (.ptr)), (12, .c (.slice)), (13, .c (.int .i64))] [(3, .c (.slice)), (14, .c (.int .i64))] (codeAt B9 [1, 1, 0, 1, 0, 0]) fun F Q => N9_l0_B F.1 F.2.1 F.2.2 (fun o0 h' => Q (.exit 0) (Sg.env [(3, .c (.slice))] o0) h')
theorem N9_l0_ok : Sound Try.prog Try.f9.ntmps N9_l0_t (codeAt B9 [1, 1, 0, 1, 0]) := by
  refine loop_sound (fun e => match e with | .exit 0 => [3] | _ => []) (by kernel_rfl) ?_
  intro F Q s h Φ hb
  refine den_sound hE hm _ (.two .leaf (.two .leaf (.two (.one (.two .leaf (.two .leaf (.ord [0, 1, 2, 3, 4, 5, 6, 7, 8, 9, 10, 11, 12, 13, 14, 15])))) .leaf))) _ _ _ (⟨annOk_leaf, ⟨annOk_leaf, ⟨⟨annOk_leaf, ⟨annOk_leaf, trivial⟩⟩, annOk_leaf⟩⟩⟩) ?_
  refine cast ?_ hb
  kernel_rfl
def N9 (x0 : Option Addr) (h : Hp) (K : Sl → Hp → Prop) : Prop :=
  nn x0 fun a0 =>
  xM (cell h a0) fun m0 =>
  C25 m0 h fun v0 h0 =>
  C24 v0 h0 fun s0 h1 =>
  N9_l0 x0 s0 ((s0.n : Nat) : Int) ⟨none, 0, 0⟩ 0 h1
    (fun s1 h2 =>
      K s1 h2)
theorem S9 {x0 : Option Addr} {h : Hp} {K : Sl → Hp → Prop} (hn : N9 x0 h K) : C9 x0 h K := by
  refine calls_of_D Try.func9 (c := B9) rfl (by kernel_rfl) ?_
  refine den_sound hE hm _ (.two .leaf (.two .leaf (.two (.two .leaf (.one (.xf N9_l0_t))) .leaf))) _ _ _ (⟨annOk_leaf, ⟨annOk_leaf, ⟨⟨annOk_leaf, N9_l0_ok⟩, annOk_leaf⟩⟩⟩) ?_
  refine cast ?_ hn
  kernel_rfl
end Go.Proofs.Ytabihmedfopdcaa

/-
  Ports: what the program's calls do to the state.
-/
set_option linter.unusedSimpArgs false
set_option linter.unusedVariables false
set_option maxRecDepth 20000
namespace Go.Proofs.Ytabihmedfopdcaa
open Go Go.Hw

def openT (t : Tb) (n : Int) : Int × Tb := if n < 1 ∨ 65535 < n then (1, t) else if (findP n t.ps).isSome then (130, t) else if t.most ≤ (t.ps.length : Int) then (3, t) else (0, { t with ps := addP n t.ps })
def closeT (t : Tb) (n : Int) : Bool × Tb := ((findP n t.ps).isSome, { t with ps := delP n t.ps })
def putT (t : Tb) (d : Dg) : Int × Tb := match findP d.d t.ps with
  | none => (131, t)
  | some p => if t.depth ≤ (p.l.length : Int) then (3, { t with ps := updP d.d (fun p => { p with dr := p.dr + 1 }) t.ps }) else (0, { t with ps := updP d.d (fun p => { p with l := p.l ++ [d] }) t.ps })
def takeT (t : Tb) (n : Int) : Option Dg × Tb := match findP n t.ps with
  | none => (none, t)
  | some p => match p.l with
    | [] => (none, t)
    | d :: _ => (some d, { t with ps := updP n (fun p => { p with l := p.l.tail }) t.ps })
structure Ok (M : Nat) (t : Tb) : Prop where
  srt : t.ps.Pairwise fun p q => p.n < q.n
  rng : ∀ p ∈ t.ps, 1 ≤ p.n ∧ p.n ≤ 65535
  len : t.ps.length ≤ 16
  q : ∀ p ∈ t.ps, p.l.length ≤ 32 ∧ 0 ≤ p.dr ∧ p.dr ≤ M
  most : 1 ≤ t.most ∧ t.most ≤ 16
  depth : 1 ≤ t.depth ∧ t.depth ≤ 32
theorem Ok.nod {M : Nat} {t : Tb} (ho : Ok M t) : NodN t.ps := ho.srt.imp fun h e => by omega
theorem Ok.mono {M M' : Nat} {t : Tb} (ho : Ok M t) (h : M ≤ M') : Ok M' t := ⟨ho.srt, ho.rng, ho.len, fun p hp => let ⟨a, b, c⟩ := ho.q p hp; ⟨a, b, by omega⟩, ho.most, ho.depth⟩
theorem addP_mem {n : Int} {ps : List PS} {p : PS} (h : p ∈ addP n ps) : p = newP n ∨ p ∈ ps := by
  have := (addP_perm n ps).mem_iff.1 h
  exact List.mem_cons.1 this
theorem addP_srt {n : Int} : ∀ {ps : List PS}, ps.Pairwise (fun p q => p.n < q.n) → (∀ p ∈ ps, p.n ≠ n) → (addP n ps).Pairwise fun p q => p.n < q.n := by
  intro ps
  induction ps with
  | nil => intro _ _; simp [addP]
  | cons p l ih =>
    intro h hne
    obtain ⟨h1, h2⟩ := List.pairwise_cons.1 h
    unfold addP
    split
    · rename_i hp
      refine List.pairwise_cons.2 ⟨?_, h⟩
      intro x hx
      show n < x.n
      rcases List.mem_cons.1 hx with rfl | hx
      · exact hp
      · have := h1 x hx; omega
    · rename_i hp
      have hpn := hne p (List.mem_cons_self ..)
      refine List.pairwise_cons.2 ⟨?_, ih h2 fun x hx => hne x (List.mem_cons_of_mem _ hx)⟩
      intro x hx
      rcases addP_mem hx with rfl | hx
      · show p.n < n; omega
      · exact h1 x hx
theorem Ok.add {M : Nat} {t : Tb} {n : Int} (ho : Ok M t) (h1 : 1 ≤ n) (h2 : n ≤ 65535) (hf : findP n t.ps = none) (hl : ¬ t.most ≤ (t.ps.length : Int)) : Ok M { t with ps := addP n t.ps } := by
  refine ⟨addP_srt ho.srt (findP_none hf), ?_, ?_, ?_, ho.most, ho.depth⟩
  · intro p hp
    rcases addP_mem hp with rfl | hp
    · exact ⟨h1, h2⟩
    · exact ho.rng p hp
  · have := (addP_perm n t.ps).length_eq
    have h3 := ho.most
    show (addP n t.ps).length ≤ 16
    rw [this, List.length_cons]; omega
  · intro p hp
    rcases addP_mem hp with rfl | hp
    · exact ⟨by simp [newP], by simp [newP], by simp [newP]⟩
    · exact ho.q p hp
theorem Ok.open' {M : Nat} {t : Tb} {n : Int} (ho : Ok M t) : Ok M (openT t n).2 := by
  unfold openT
  split
  · exact ho
  · rename_i h1
    split
    · exact ho
    · rename_i h2
      split
      · exact ho
      · rename_i h3
        refine ho.add (by omega) (by omega) ?_ h3
        cases hf : findP n t.ps with
        | none => rfl
        | some p => rw [hf] at h2; exact absurd rfl h2
theorem Ok.close' {M : Nat} {t : Tb} {n : Int} (ho : Ok M t) : Ok M (closeT t n).2 := by
  refine ⟨ho.srt.filter _, fun p hp => ho.rng p (List.mem_filter.1 hp).1, ?_, fun p hp => ho.q p (List.mem_filter.1 hp).1, ho.most, ho.depth⟩
  exact Nat.le_trans (List.length_filter_le _ _) ho.len
theorem Ok.upd {M M' : Nat} {t : Tb} {n : Int} {f : PS → PS} (ho : Ok M t) (hf : ∀ p, (f p).n = p.n) (hM : M ≤ M') (hq : ∀ p ∈ t.ps, p.n = n → (f p).l.length ≤ 32 ∧ 0 ≤ (f p).dr ∧ (f p).dr ≤ M') : Ok M' { t with ps := updP n f t.ps } := by
  have key : ∀ p, (if p.n = n then f p else p).n = p.n := fun p => by split <;> simp [hf]
  refine ⟨?_, ?_, by simp [updP]; exact ho.len, ?_, ho.most, ho.depth⟩
  · show (t.ps.map _).Pairwise _
    rw [List.pairwise_map]
    exact ho.srt.imp fun {p q} h => by rw [key, key]; exact h
  · intro p hp
    obtain ⟨p, hp1, rfl⟩ := List.mem_map.1 hp
    rw [key]; exact ho.rng p hp1
  · intro p hp
    obtain ⟨p, hp1, rfl⟩ := List.mem_map.1 hp
    split
    · rename_i e; exact hq p hp1 e
    · obtain ⟨a, b, c⟩ := ho.q p hp1; exact ⟨a, b, by omega⟩
theorem Ok.put' {M : Nat} {t : Tb} {d : Dg} (ho : Ok M t) : Ok (M + 1) (putT t d).2 := by
  unfold putT
  split
  · exact ho.mono (by omega)
  · rename_i p hf
    obtain ⟨h1, h2⟩ := findP_some hf
    split
    · refine ho.upd (fun p => rfl) (by omega) ?_
      intro p hp _
      obtain ⟨a, b, c⟩ := ho.q p hp
      refine ⟨a, ?_, ?_⟩ <;> (show _ ; simp only []; omega)
    · rename_i hd
      refine ho.upd (fun p => rfl) (by omega) ?_
      intro p' hp' e
      have : p' = p := by
        have := findP_of ho.nod hp' e
        rw [hf] at this; exact (Option.some.inj this).symm
      subst this
      obtain ⟨a, b, c⟩ := ho.q p' hp'
      have := ho.depth
      refine ⟨?_, b, ?_⟩
      · show (p'.l ++ [d]).length ≤ 32
        simp; omega
      · show p'.dr ≤ _; omega
theorem Ok.take' {M : Nat} {t : Tb} {n : Int} (ho : Ok M t) : Ok M (takeT t n).2 := by
  unfold takeT
  split
  · exact ho
  · split
    · exact ho
    · refine ho.upd (fun p => rfl) (Nat.le_refl _) ?_
      intro p hp _
      obtain ⟨a, b, c⟩ := ho.q p hp
      exact ⟨by show p.l.tail.length ≤ 32; rw [List.length_tail]; omega, b, c⟩

/-! ### the calls -/
theorem p_new {L M : List Asn} {most depth : Int} {h : Hp} {K : Option Addr → Hp → Prop} (hs : Sat (L ++ M) h)
    (hno : ¬ ((1 ≤ most ∧ most ≤ 16) ∧ 1 ≤ depth ∧ depth ≤ 32) → K none h)
    (hK : (1 ≤ most ∧ most ≤ 16) ∧ 1 ≤ depth ∧ depth ≤ 32 → ∀ b h', Sat (L ++ (M ++ [portsA b ⟨most, depth, []⟩])) h' → K (some (bk b)) h') : C8 most depth h K := by
  apply S8; unfold N8
  by_cases e1 : most < 1
  · simp only [e1, decide_true, cond_true]; exact hno (by omega)
  by_cases e2 : most > 16
  · simp only [e1, e2, decide_true, decide_false, cond_true, cond_false]; exact hno (by omega)
  by_cases e3 : depth < 1
  · simp only [e1, e2, e3, decide_true, decide_false, cond_true, cond_false]; exact hno (by omega)
  by_cases e4 : depth > 32
  · simp only [e1, e2, e3, e4, decide_true, decide_false, cond_true, cond_false]; exact hno (by omega)
  simp only [e1, e2, e3, e4, decide_false, cond_false]
  intro m e0
  have hs1 := hs.newMap .i64 e0
  revert hs1
  generalize upd h m _ = h1
  intro hs1 b e5
  have hs2 := hs1.new e5 (.cells ⟨[.map (some m), .int .i64 most, .int .i64 depth]⟩ 75 (0, 0))
  refine hK ⟨⟨by omega, by omega⟩, by omega, by omega⟩ b _ ?_
  have hs2 : Sat (L ++ ((M ++ [mapA .i64 m []]) ++ [row b 75 [.map (some m), .int .i64 most, .int .i64 depth]])) _ := hs2
  have g1 : Sat (L ++ (M ++ ([mapA .i64 m [], row b 75 [.map (some m), .int .i64 most, .int .i64 depth]]))) (upd h1 b (.cells ⟨[.map (some m), .int .i64 most, .int .i64 depth]⟩ 75 (0, 0))) := by
    rw [List.append_assoc] at hs2; exact hs2
  have g2 := Sat.csa g1
  have g3 : Sat ((L ++ M) ++ [row b 75 [.map (some m), .int .i64 most, .int .i64 depth], mapA .i64 m []]) _ := g2.sel [1, 0] (by decide) rfl
  have g4 : Sat (((L ++ M) ++ [row b 75 [.map (some m), .int .i64 most, .int .i64 depth], mapA .i64 m []]) ++ []) (upd h1 b (.cells ⟨[.map (some m), .int .i64 most, .int .i64 depth]⟩ 75 (0, 0))) := by rw [List.append_nil]; exact g3
  have g5 := Sat.asc g4.close
  exact Sat.asc (ports_shut (t := ⟨most, depth, []⟩) (E := []) g5 (List.Perm.refl _))

theorem p_open {L : List Asn} {b : Nat} {t : Tb} {n : Int} {h : Hp} {K : Int → Hp → Prop} (hs : Sat (L ++ [portsA b t]) h) (hn : NodN t.ps) (hK : ∀ h', Sat (L ++ [portsA b (openT t n).2]) h' → K (openT t n).1 h') : C11 (some (bk b)) n h K := by
  apply S11; unfold N11
  have mid : ∀ x5 : Bool, (x5 = true → n < 1 ∨ 65535 < n) → (x5 = false → ¬ (n < 1 ∨ 65535 < n)) → N11_j0 (some (bk b)) n x5 h (fun h0 => C29 (some (bk b)) n h0 fun h1 => K 0 h1) (fun n0 h2 => K n0 h2) := by
    intro x5 q1 q2
    unfold N11_j0
    cases x5 with
    | true =>
      rw [cond_true]
      have e : openT t n = (1, t) := by unfold openT; rw [if_pos (q1 rfl)]
      rw [e] at hK
      exact hK h hs
    | false =>
      rw [cond_false]
      refine p_is hs hn ?_
      have e1 := q2 rfl
      cases hf : findP n t.ps with
      | some p =>
        have e : openT t n = (130, t) := by unfold openT; rw [if_neg e1, hf]; rfl
        rw [e] at hK
        exact hK h hs
      | none =>
        refine p_full hs ?_
        by_cases e2 : t.most ≤ (t.ps.length : Int)
        · have e : openT t n = (3, t) := by unfold openT; rw [if_neg e1, hf]; simp [e2]
          rw [e] at hK
          simp only [e2, decide_true, Option.isSome_none, cond_true, cond_false]
          exact hK h hs
        · have e : openT t n = (0, { t with ps := addP n t.ps }) := by unfold openT; rw [if_neg e1, hf]; simp [e2]
          rw [e] at hK
          simp only [e2, decide_false, Option.isSome_none, cond_false]
          exact p_begin hs hn hf hK
  by_cases e1 : n < 1
  · simp only [e1, decide_true, cond_true]
    exact mid true (fun _ => .inl e1) (fun e => by cases e)
  · simp only [e1, decide_false, cond_false]
    refine mid _ (fun e => .inr (by simpa using e)) (fun e => ?_)
    have : ¬ n > 65535 := by simpa using e
    omega

theorem p_close {L : List Asn} {b : Nat} {t : Tb} {n : Int} {h : Hp} {K : Bool → Hp → Prop} (hs : Sat (L ++ [portsA b t]) h) (hn : NodN t.ps) (hK : ∀ h', Sat (L ++ [portsA b (closeT t n).2]) h' → K (closeT t n).1 h') : C14 (some (bk b)) n h K := by
  apply S14; unfold N14
  refine p_is hs hn ?_
  obtain ⟨m, E, hs, hp⟩ := ports_open hs
  simp only [nn_some']
  refine hs.lM 0 rfl rfl ?_
  refine hs.mdK 1 rfl (kt := 3) (et := 80) (by kernel_rfl) (by kernel_rfl) ?_
  intro h1 hs1
  refine hK _ ?_
  rcases find_case (n := n) hp hn with ⟨h2, _, _, h3⟩ | ⟨j, e, h2, h3, _, _, h4⟩
  · rw [h3] at hs1
    refine ports_shut (t := (closeT t n).2) (m := m) (E := E) hs1 ?_
    show (E.map Prod.snd).Perm (delP n t.ps)
    rw [delP_none (findP_none h2)]; exact hp
  · rw [h4] at hs1
    have hs1 : Sat (L ++ [row b 75 [.map (some m), .int .i64 t.most, .int .i64 t.depth], mapA .i64 m (ptrs (E.eraseIdx j)), star (E.map fun e => placeA t.depth e.1 e.2)]) h1 := hs1
    have g1 := (Sat.csa (A := [row b 75 [.map (some m), .int .i64 t.most, .int .i64 t.depth], mapA .i64 m (ptrs (E.eraseIdx j))]) (B := [star (E.map fun e => placeA t.depth e.1 e.2)]) hs1).out j (by rw [List.getElem?_map, h2]; rfl)
    have g2 : Sat (L ++ [row b 75 [.map (some m), .int .i64 t.most, .int .i64 t.depth], mapA .i64 m (ptrs (E.eraseIdx j)), star ((E.map fun e => placeA t.depth e.1 e.2).eraseIdx j), placeA t.depth e.1 e.2]) h1 := Sat.asc g1
    have g3 : Sat (L ++ [row b 75 [.map (some m), .int .i64 t.most, .int .i64 t.depth], mapA .i64 m (ptrs (E.eraseIdx j)), star ((E.map fun e => placeA t.depth e.1 e.2).eraseIdx j)]) h1 := g2.sel [0, 1, 2] (by decide) rfl
    rw [← map_erase] at g3
    refine ports_shut (t := (closeT t n).2) (m := m) (E := E.eraseIdx j) g3 ?_
    rw [map_erase, erase_delP ((NodN.perm hp).2 hn) (p := e.2) (by rw [List.getElem?_map, h2]; rfl) h3]
    exact hp.filter _

/-- a place out of the table, and back -/
theorem place_out {L : List Asn} {b m j : Nat} {t : Tb} {E : List (Nat × PS)} {e : Nat × PS} {h : Hp} (hs : Sat (L ++ [row b 75 [.map (some m), .int .i64 t.most, .int .i64 t.depth], mapA .i64 m (ptrs E), star (E.map fun e => placeA t.depth e.1 e.2)]) h) (he : E[j]? = some e) :
    Sat ((L ++ [row b 75 [.map (some m), .int .i64 t.most, .int .i64 t.depth], mapA .i64 m (ptrs E), star ((E.map fun e => placeA t.depth e.1 e.2).eraseIdx j)]) ++ [placeA t.depth e.1 e.2]) h := by
  have g1 := (Sat.csa (A := [row b 75 [.map (some m), .int .i64 t.most, .int .i64 t.depth], mapA .i64 m (ptrs E)]) (B := [star (E.map fun e => placeA t.depth e.1 e.2)]) hs).out j (by rw [List.getElem?_map, he]; rfl)
  exact Sat.mv g1
theorem place_in {L : List Asn} {b m j : Nat} {t : Tb} {E : List (Nat × PS)} {e : Nat × PS} {n : Int} {f : PS → PS} {h : Hp} (hs : Sat ((L ++ [row b 75 [.map (some m), .int .i64 t.most, .int .i64 t.depth], mapA .i64 m (ptrs E), star ((E.map fun e => placeA t.depth e.1 e.2).eraseIdx j)]) ++ [placeA t.depth e.1 (f e.2)]) h)
    (he : E[j]? = some e) (hen : e.2.n = n) (hp : (E.map Prod.snd).Perm t.ps) (hn : NodN t.ps) (hf : ∀ p, (f p).n = p.n) : Sat (L ++ [portsA b { t with ps := updP n f t.ps }]) h := by
  have g1 : Sat ((L ++ [row b 75 [.map (some m), .int .i64 t.most, .int .i64 t.depth], mapA .i64 m (ptrs E)]) ++ [star ((E.map fun e => placeA t.depth e.1 e.2).eraseIdx j), placeA t.depth e.1 (f e.2)]) h := Sat.mv hs
  have g2 := Sat.asc (g1.inn j (by rw [List.length_map]; exact lt_of_get he))
  have e1 : (E.map fun e => placeA t.depth e.1 e.2).set j (placeA t.depth e.1 (f e.2)) = (E.set j (e.1, f e.2)).map fun e => placeA t.depth e.1 e.2 := by rw [List.map_set]
  have e2 : ptrs (E.set j (e.1, f e.2)) = ptrs E := by
    unfold ptrs
    rw [List.map_set]
    refine List.ext_getElem? fun k => ?_
    by_cases hk : j = k
    · subst hk
      rw [List.getElem?_set_self (by rw [List.length_map]; exact lt_of_get he), List.getElem?_map, he]
      simp [hf]
    · rw [List.getElem?_set_ne hk]
  rw [e1] at g2
  refine ports_shut (t := { t with ps := updP n f t.ps }) (m := m) (E := E.set j (e.1, f e.2)) (by rw [e2]; exact g2) ?_
  rw [List.map_set]
  show (List.set (E.map Prod.snd) j (f e.2)).Perm (updP n f t.ps)
  rw [set_updP ((NodN.perm hp).2 hn) (p := e.2) (by rw [List.getElem?_map, he]; rfl) hen]
  exact hp.map _

theorem p_put {L : List Asn} {b : Nat} {t : Tb} {d : Dg} {s : Sl} {M : Nat} {h : Hp} {K : Int → Hp → Prop} (hs : Sat (L ++ [portsA b t]) h) (ho : Ok M t) (hM : M ≤ 1000000000000000000) (hr : RdB h s d.data) (hl : d.data.length ≤ 140737488355328)
    (hK : ∀ h', Sat (L ++ [portsA b (putT t d).2]) h' → K (putT t d).1 h') : C13 (some (bk b)) d.a d.b d.c d.d s h K := by
  apply S13; unfold N13
  intro b0 e0
  have hs1 := hs.new e0 (.cells ⟨[.int .u32 d.a, .int .u32 d.b, .int .i64 d.c, .int .i64 d.d, .slice s.p s.n s.c]⟩ 39 (0, 0))
  have hr := hr.ext (Ext.new (o := .cells ⟨[.int .u32 d.a, .int .u32 d.b, .int .i64 d.c, .int .i64 d.d, .slice s.p s.n s.c]⟩ 39 (0, 0)) e0)
  revert hs1 hr
  generalize upd h b0 _ = h1
  intro hs1 hr
  have hs1 : Sat (L ++ [portsA b t, row b0 39 [.int .u32 d.a, .int .u32 d.b, .int .i64 d.c, .int .i64 d.d, .slice s.p s.n s.c]]) h1 := hs1
  have hs2 : Sat ((L ++ [row b0 39 [.int .u32 d.a, .int .u32 d.b, .int .i64 d.c, .int .i64 d.d, .slice s.p s.n s.c]]) ++ [portsA b t]) h1 := Sat.csa (hs1.sel [1, 0] (by decide) rfl)
  obtain ⟨m, E, hs3, hp⟩ := ports_open hs2
  have hs3' : Sat (L ++ [row b0 39 [.int .u32 d.a, .int .u32 d.b, .int .i64 d.c, .int .i64 d.d, .slice s.p s.n s.c], row b 75 [.map (some m), .int .i64 t.most, .int .i64 t.depth], mapA .i64 m (ptrs E), star (E.map fun e => placeA t.depth e.1 e.2)]) h1 := Sat.asc hs3
  simp only [nn_some', add_bk]
  refine hs3'.lM 1 rfl rfl ?_
  refine hs3'.lI 0 rfl rfl ?_
  refine hs3'.lookup 2 rfl ?_
  intro r hrv
  rw [rval_kv hrv]
  rcases find_case (n := d.d) hp ho.nod with ⟨hf, h2, _⟩ | ⟨j, e, he, hen, hf, h2, _⟩
  · rw [h2]
    have ep : putT t d = (131, t) := by unfold putT; rw [hf]
    rw [ep] at hK
    exact hK _ (hs1.sel [0] (by decide) rfl)
  · rw [h2]
    simp only [Option.getD_some, xP_some, peq_none, Option.isNone_some, cond_false]
    refine hs3'.lL 0 rfl rfl ?_
    refine c_bclone (s := ⟨s.p, s.n, s.c⟩) hr hl ?_
    intro s' h3 hn
    have hs4 : Sat ((L ++ [row b0 39 [.int .u32 d.a, .int .u32 d.b, .int .i64 d.c, .int .i64 d.d, .slice s.p s.n s.c], row b 75 [.map (some m), .int .i64 t.most, .int .i64 t.depth], mapA .i64 m (ptrs E), star (E.map fun e => placeA t.depth e.1 e.2)]) ++ [datA (d, s')]) h3 := Sat.csa (hs3'.addNew hn)
    have hs4 : Sat (L ++ [row b0 39 [.int .u32 d.a, .int .u32 d.b, .int .i64 d.c, .int .i64 d.d, .slice s.p s.n s.c], row b 75 [.map (some m), .int .i64 t.most, .int .i64 t.depth], mapA .i64 m (ptrs E), star (E.map fun e => placeA t.depth e.1 e.2), datA (d, s')]) h3 := Sat.asc hs4
    refine hs4.st 0 rfl (by simp) rfl ?_
    intro h4 hs5
    have hs5 : Sat (L ++ [row b0 39 [.int .u32 d.a, .int .u32 d.b, .int .i64 d.c, .int .i64 d.d, s'.v], row b 75 [.map (some m), .int .i64 t.most, .int .i64 t.depth], mapA .i64 m (ptrs E), star (E.map fun e => placeA t.depth e.1 e.2), datA (d, s')]) h4 := hs5
    refine hs5.lI 0 rfl rfl ?_
    refine hs5.lI 0 rfl rfl ?_
    refine hs5.lI 0 rfl rfl ?_
    refine hs5.lI 0 rfl rfl ?_
    refine hs5.lL 0 rfl rfl ?_
    have g1 : Sat ((L ++ [datA (d, s')]) ++ [row b 75 [.map (some m), .int .i64 t.most, .int .i64 t.depth], mapA .i64 m (ptrs E), star (E.map fun e => placeA t.depth e.1 e.2)]) h4 := Sat.csa (hs5.sel [4, 1, 2, 3] (by decide) rfl)
    have g2 := place_out g1 he
    have g3 : Sat (L ++ [datA (d, s'), row b 75 [.map (some m), .int .i64 t.most, .int .i64 t.depth], mapA .i64 m (ptrs E), star ((E.map fun e => placeA t.depth e.1 e.2).eraseIdx j), placeA t.depth e.1 e.2]) h4 := Sat.asc (Sat.asc g2)
    have g4 : Sat ((L ++ [row b 75 [.map (some m), .int .i64 t.most, .int .i64 t.depth], mapA .i64 m (ptrs E), star ((E.map fun e => placeA t.depth e.1 e.2).eraseIdx j)]) ++ [placeA t.depth e.1 e.2, datA (d, s')]) h4 := Sat.csa (g3.sel [1, 2, 3, 4, 0] (by decide) rfl)
    have hin := (findP_some hf).1
    obtain ⟨q1, q2, q3⟩ := ho.q _ hin
    refine c_qput (d := d) (s := s') g4 (by omega) ?_ ?_
    · intro hd h5 hs6
      have ep : putT t d = (3, { t with ps := updP d.d (fun p => { p with dr := p.dr + 1 }) t.ps }) := by unfold putT; rw [hf]; simp [hd]
      rw [ep] at hK
      simp only [Bool.not_false, cond_true]
      have hs6 : Sat ((L ++ [row b 75 [.map (some m), .int .i64 t.most, .int .i64 t.depth], mapA .i64 m (ptrs E), star ((E.map fun e => placeA t.depth e.1 e.2).eraseIdx j)]) ++ [placeA t.depth e.1 e.2]) h5 := hs6.sel [0] (by decide) rfl
      obtain ⟨z, Q, hs7, hq⟩ := place_open hs6
      refine hs7.lI 0 rfl rfl ?_
      refine hs7.st 0 rfl (by simp) rfl ?_
      intro h6 hs8
      refine hK _ ?_
      rw [wi64i (by omega) (by omega)] at hs8
      exact place_in (f := fun p => { p with dr := p.dr + 1 }) (place_shut (p := { e.2 with dr := e.2.dr + 1 }) (z := z) (Q := Q) hs8 hq) he hen hp ho.nod (fun p => rfl)
    · intro hd h5 hs6
      have ep : putT t d = (0, { t with ps := updP d.d (fun p => { p with l := p.l ++ [d] }) t.ps }) := by unfold putT; rw [hf]; simp only []; rw [if_neg (by omega)]
      rw [ep] at hK
      simp only [Bool.not_true, cond_false]
      exact hK _ (place_in (f := fun p => { p with l := p.l ++ [d] }) hs6 he hen hp ho.nod (fun p => rfl))

/-- what is taken: the datagram, and its bytes -/
def takenA : Option Dg → Sl → List Asn
  | some d, s => [datA (d, s)]
  | none, _ => []
def dgOf (o : Option Dg) : Dg := o.getD ⟨0, 0, 0, 0, []⟩
theorem p_take {L : List Asn} {b : Nat} {t : Tb} {n : Int} {h : Hp} {K : Int → Int → Int → Int → Sl → Bool → Hp → Prop} (hs : Sat (L ++ [portsA b t]) h) (hn : NodN t.ps)
    (hnone : (takeT t n).1 = none → ∀ h', Sat (L ++ [portsA b (takeT t n).2]) h' → K 0 0 0 0 ⟨none, 0, 0⟩ false h')
    (hK : ∀ d, (takeT t n).1 = some d → ∀ s h', Sat (L ++ [portsA b (takeT t n).2, datA (d, s)]) h' → K d.a d.b d.c d.d s true h') : C15 (some (bk b)) n h K := by
  apply S15; unfold N15
  intro b0 e0
  have hs1 := hs.new e0 (.cells ⟨[.int .u32 0, .int .u32 0, .int .i64 0, .int .i64 0, .slice none 0 0]⟩ 39 (0, 0))
  revert hs1
  generalize upd h b0 _ = h1
  intro hs1
  have hs1 : Sat (L ++ [portsA b t, row b0 39 [.int .u32 0, .int .u32 0, .int .i64 0, .int .i64 0, .slice none 0 0]]) h1 := hs1
  have hs2 : Sat ((L ++ [row b0 39 [.int .u32 0, .int .u32 0, .int .i64 0, .int .i64 0, .slice none 0 0]]) ++ [portsA b t]) h1 := Sat.csa (hs1.sel [1, 0] (by decide) rfl)
  obtain ⟨m, E, hs3, hp⟩ := ports_open hs2
  have hs3' : Sat (L ++ [row b0 39 [.int .u32 0, .int .u32 0, .int .i64 0, .int .i64 0, .slice none 0 0], row b 75 [.map (some m), .int .i64 t.most, .int .i64 t.depth], mapA .i64 m (ptrs E), star (E.map fun e => placeA t.depth e.1 e.2)]) h1 := Sat.asc hs3
  simp only [nn_some', add_bk]
  refine hs3'.lM 1 rfl rfl ?_
  refine hs3'.lookup 2 rfl ?_
  intro r hrv
  rw [rval_kv hrv]
  have fin0 : (takeT t n) = (none, t) → ∀ (r0 : Asn) (hh : Hp), Sat (L ++ [portsA b t, r0]) hh → K 0 0 0 0 ⟨none, 0, 0⟩ false hh := by
    intro e r0 hh hs
    rw [e] at hnone
    exact hnone rfl hh (hs.sel [0] (by decide) rfl)
  rcases find_case (n := n) hp hn with ⟨hf, h2, _⟩ | ⟨j, e, he, hen, hf, h2, _⟩
  · rw [h2]
    simp only [Option.getD_none, xP_some, peq_none, Option.isNone_none, cond_true]
    have fin := fin0 (by unfold takeT; rw [hf])
    have hs := hs1
    repeat (first | (refine Sat.st hs 0 rfl (by simp) rfl ?_; intro _ hs; simp only [List.set_cons_zero, List.set_cons_succ] at hs) | (refine Sat.st hs 1 rfl (by simp) rfl ?_; intro _ hs; simp only [List.set_cons_zero, List.set_cons_succ] at hs) | (refine Sat.lI hs 0 rfl rfl ?_) | (refine Sat.lI hs 1 rfl rfl ?_) | (refine Sat.lL hs 0 rfl rfl ?_) | (refine Sat.lL hs 1 rfl rfl ?_) | (refine Sat.lP hs 0 rfl rfl ?_) | (refine Sat.lP hs 1 rfl rfl ?_) | (refine Sat.lB hs 0 rfl rfl ?_) | (refine Sat.lB hs 1 rfl rfl ?_) | (refine Sat.lS hs 0 rfl rfl ?_) | (refine Sat.lS hs 1 rfl rfl ?_) | (refine Sat.lM hs 0 rfl rfl ?_) | (refine Sat.lM hs 1 rfl rfl ?_) | (refine Sat.lA hs 0 rfl rfl ?_) | (refine Sat.lA hs 1 rfl rfl ?_) | (simp only [nn_some', add_bk]))
    exact fin _ _ hs
  · rw [h2]
    simp only [Option.getD_some, xP_some, peq_none, Option.isNone_some, cond_false, nn_some']
    have g2 := place_out hs3 he
    refine c_qtake (depth := t.depth) (p := e.2) g2 ?_ ?_
    · intro hl h4 hs4
      have fin := fin0 (by unfold takeT; rw [hf]; simp only []; rw [hl])
      have g3 := place_in (f := fun p => p) hs4 he hen hp hn (fun p => rfl)
      have e2 : updP n (fun p => p) t.ps = t.ps := by unfold updP; simp
      rw [e2] at g3
      have hs : Sat (L ++ [row b0 39 [.int .u32 0, .int .u32 0, .int .i64 0, .int .i64 0, .slice none 0 0], portsA b t]) h4 := Sat.asc g3
      have hs := hs.sel [1, 0] (by decide) (M' := [portsA b t, row b0 39 [.int .u32 0, .int .u32 0, .int .i64 0, .int .i64 0, .slice none 0 0]]) rfl
      repeat (first | (refine Sat.st hs 0 rfl (by simp) rfl ?_; intro _ hs; simp only [List.set_cons_zero, List.set_cons_succ] at hs) | (refine Sat.st hs 1 rfl (by simp) rfl ?_; intro _ hs; simp only [List.set_cons_zero, List.set_cons_succ] at hs) | (refine Sat.lI hs 0 rfl rfl ?_) | (refine Sat.lI hs 1 rfl rfl ?_) | (refine Sat.lL hs 0 rfl rfl ?_) | (refine Sat.lL hs 1 rfl rfl ?_) | (refine Sat.lP hs 0 rfl rfl ?_) | (refine Sat.lP hs 1 rfl rfl ?_) | (refine Sat.lB hs 0 rfl rfl ?_) | (refine Sat.lB hs 1 rfl rfl ?_) | (refine Sat.lS hs 0 rfl rfl ?_) | (refine Sat.lS hs 1 rfl rfl ?_) | (refine Sat.lM hs 0 rfl rfl ?_) | (refine Sat.lM hs 1 rfl rfl ?_) | (refine Sat.lA hs 0 rfl rfl ?_) | (refine Sat.lA hs 1 rfl rfl ?_) | (simp only [nn_some', add_bk]))
      exact fin _ _ hs
    · intro d r hl s h4 hs4
      have et : takeT t n = (some d, { t with ps := updP n (fun p => { p with l := p.l.tail }) t.ps }) := by unfold takeT; rw [hf]; simp only []; rw [hl]
      rw [et] at hK
      have fin := hK d rfl s
      have g0 : Sat (L ++ [row b0 39 [.int .u32 0, .int .u32 0, .int .i64 0, .int .i64 0, .slice none 0 0], row b 75 [.map (some m), .int .i64 t.most, .int .i64 t.depth], mapA .i64 m (ptrs E), star ((E.map fun e => placeA t.depth e.1 e.2).eraseIdx j), placeA t.depth e.1 { e.2 with l := r }, datA (d, s)]) h4 := Sat.asc (Sat.asc hs4)
      have g1 : Sat (L ++ ([row b0 39 [.int .u32 0, .int .u32 0, .int .i64 0, .int .i64 0, .slice none 0 0], datA (d, s)] ++ ([row b 75 [.map (some m), .int .i64 t.most, .int .i64 t.depth], mapA .i64 m (ptrs E), star ((E.map fun e => placeA t.depth e.1 e.2).eraseIdx j)] ++ [placeA t.depth e.1 { e.2 with l := r }]))) h4 := g0.sel [0, 5, 1, 2, 3, 4] (by decide) rfl
      have g2 := Sat.csa (Sat.csa g1)
      have g3 := place_in (f := fun p => { p with l := p.l.tail }) (by simp only [hl, List.tail_cons]; exact g2) he hen hp hn (fun p => rfl)
      have hs : Sat (L ++ [row b0 39 [.int .u32 0, .int .u32 0, .int .i64 0, .int .i64 0, .slice none 0 0], datA (d, s), portsA b { t with ps := updP n (fun p => { p with l := p.l.tail }) t.ps }]) h4 := Sat.asc g3
      have fin' : ∀ {r0 : Asn} {hh : Hp}, Sat (L ++ [r0, datA (d, s), portsA b { t with ps := updP n (fun p => { p with l := p.l.tail }) t.ps }]) hh → K d.a d.b d.c d.d s true hh := fun hs => fin _ (hs.sel [2, 1] (by decide) rfl)
      repeat (first | (refine Sat.st hs 0 rfl (by simp) rfl ?_; intro _ hs; simp only [List.set_cons_zero, List.set_cons_succ] at hs) | (refine Sat.lI hs 0 rfl rfl ?_) | (refine Sat.lL hs 0 rfl rfl ?_) | (refine Sat.lP hs 0 rfl rfl ?_) | (refine Sat.lB hs 0 rfl rfl ?_) | (refine Sat.lS hs 0 rfl rfl ?_) | (refine Sat.lM hs 0 rfl rfl ?_) | (refine Sat.lA hs 0 rfl rfl ?_) | (simp only [nn_some', add_bk]))
      exact fin' hs

/-! ### all open ports -/
def st3 (p : PS) : List Value := [.int .i64 p.n, .int .i64 p.l.length, .int .i64 p.dr]
def sts (ps : List PS) : List Value := ps.flatMap st3
theorem sts_len (ps : List PS) : (sts ps).length = ps.length * 3 := by
  induction ps with
  | nil => rfl
  | cons x l ih => show (st3 x ++ sts l).length = _; rw [List.length_append, ih]; simp [st3]; omega
theorem sts_plain {ps : List PS} : ∀ v ∈ sts ps, plain v = true := by
  intro v hv
  obtain ⟨x, _, hx⟩ := List.mem_flatMap.1 hv
  simp [st3] at hx
  rcases hx with rfl | rfl | rfl <;> rfl
theorem sort_keys {E : List (Nat × PS)} {ps : List PS} (hp : (E.map Prod.snd).Perm ps) (hs : ps.Pairwise fun p q => p.n < q.n) : sortI ((ptrs E).map Prod.fst) = ps.map PS.n := by
  have tr : ∀ a b c : Int, decide (a ≤ b) = true → decide (b ≤ c) = true → decide (a ≤ c) = true := fun a b c h1 h2 => by simp only [decide_eq_true_eq] at *; omega
  have to : ∀ a b : Int, (decide (a ≤ b) || decide (b ≤ a)) = true := fun a b => by simp only [Bool.or_eq_true, decide_eq_true_eq]; omega
  have e : (ptrs E).map Prod.fst = (E.map Prod.snd).map PS.n := by simp [ptrs]
  unfold sortI
  rw [e]
  refine List.Perm.eq_of_pairwise (le := fun a b => a ≤ b) (fun a b _ _ h1 h2 => Int.le_antisymm h1 h2) ?_ ?_ ((List.mergeSort_perm _ _).trans (hp.map _))
  · have := List.pairwise_mergeSort tr to ((E.map Prod.snd).map PS.n)
    exact this.imp fun h => by simpa using h
  · rw [List.pairwise_map]
    exact hs.imp fun h => Int.le_of_lt h
theorem p_look {L : List Asn} {b : Nat} {t : Tb} {M : Nat} {h : Hp} {K : Sl → Hp → Prop} (hs : Sat (L ++ [portsA b t]) h) (ho : Ok M t) (hK : ∀ s h', Sat (L ++ [portsA b t, Hw.own 72 3 s (sts t.ps)]) h' → K s h') : C9 (some (bk b)) h K := by
  apply S9; unfold N9
  obtain ⟨m, E, hs0, hp⟩ := ports_open hs
  have hEl : E.length = t.ps.length := by have := hp.length_eq; simpa using this
  simp only [nn_some']
  refine hs0.lM 0 rfl rfl ?_
  refine c_sorted hs0 1 rfl ?_ ?_ ?_
  · intro x hx
    obtain ⟨e, he, rfl⟩ := List.mem_map.1 hx
    have := ho.rng e.2 (hp.mem_iff.1 (List.mem_map.2 ⟨e, he, rfl⟩))
    have h1 : (IntKind.i64.min : Int) = -9223372036854775808 := by rfl
    have h2 : (IntKind.i64.max : Int) = 9223372036854775807 := by rfl
    simp only [Lit.wf, Bool.and_eq_true, decide_eq_true_eq, h1, h2]; omega
  · have := ho.len; simp [ptrs]; omega
  · intro s0 h1 hn
    rw [sort_keys hp ho.srt] at hn
    have hs1 := (hs.addNew hn).addNil 72 3
    have sn : s0.n = t.ps.length := by have := hn.2.1.1; simp [iz] at this; exact this.symm
    unfold N9_l0
    refine loopP_inv (fun (x : Sl × Int) hc => ∃ i : Nat, x.2 = i ∧ i ≤ t.ps.length ∧ Sat (L ++ [portsA b t, Hw.own 3 1 s0 (iz (t.ps.map PS.n)), Hw.own 72 3 x.1 (sts (t.ps.take i))]) hc) (fun x _ => t.ps.length - x.2.toNat) ?_ ⟨0, rfl, Nat.zero_le _, hs1⟩
    rintro ⟨acc, x⟩ hc ⟨i, hx, hi, hs2⟩
    simp only at hx hs2
    subst hx
    unfold N9_l0_B N9_l0_b
    dsimp only
    by_cases hlt : i < t.ps.length
    · have : decide ((i : Int) < ((s0.n : Nat) : Int)) = true := by simp; omega
      rw [this, cond_true]
      have hpi : t.ps[i]? = some t.ps[i] := List.getElem?_eq_getElem hlt
      generalize t.ps[i] = p at hpi
      refine idx_of (by omega) (by omega) ?_
      simp only [Int.toNat_natCast, Nat.mul_one]
      refine hs2.oI 1 rfl (n := p.n) (by simp [iz, hpi]) ?_
      have hs3 : Sat ((L ++ [Hw.own 3 1 s0 (iz (t.ps.map PS.n)), Hw.own 72 3 acc (sts (t.ps.take i))]) ++ [portsA b t]) hc := Sat.csa (hs2.sel [1, 2, 0] (by decide) rfl)
      obtain ⟨m, E, hs4, hp⟩ := ports_open hs3
      simp only [nn_some']
      refine hs4.lM 0 rfl rfl ?_
      refine hs4.lookup 1 rfl ?_
      intro r hrv
      rw [rval_kv hrv]
      have hmem := List.mem_of_getElem? hpi
      rcases find_case (n := p.n) hp ho.nod with ⟨hf, _⟩ | ⟨j, e, he, hen, hf, h2, _⟩
      · exact absurd rfl (findP_none hf p hmem)
      · have hpe : e.2 = p := by
          have := findP_of ho.nod hmem rfl
          rw [hf] at this; exact Option.some.inj this
        rw [h2]
        simp only [Option.getD_some, xP_some, nn_some', add_bk]
        obtain ⟨z, Q, hs5, hq⟩ := place_open (place_out hs4 he)
        have zn : z.n = p.l.length := by have := (hs5.tail 1 rfl).1; rw [dgs_len] at this; rw [← hpe, ← hq, List.length_map]; omega
        refine hs5.lL 0 rfl rfl ?_
        refine hs5.lI 0 rfl rfl ?_
        rw [hpe]
        show nw hc (.cells ⟨[.int .i64 p.n, .int .i64 (z.n : Int), .int .i64 p.dr]⟩ 72) _
        rw [zn]
        have hq3 := ho.len
        have an : acc.n = i := by have := (hs2.own 2 rfl).1; rw [sts_len, List.length_take] at this; omega
        refine hs2.push 2 rfl (k := 1) (by kernel_rfl) (by kernel_rfl) rfl (by intro v hv; simp at hv; rcases hv with rfl | rfl | rfl <;> rfl) (by rw [show Try.prog.bytesOf 72 = 24 by kernel_rfl]; omega) ?_
        intro acc' h6 hs6 _
        rw [nat_succ64 (by omega)]
        refine ⟨⟨i + 1, rfl, hlt, ?_⟩, by first | omega | (dsimp only; omega)⟩
        have et : t.ps.take (i + 1) = t.ps.take i ++ [p] := by
          have hg : t.ps[i] = p := by have := List.getElem?_eq_getElem hlt; rw [hpi] at this; exact (Option.some.inj this).symm
          rw [← hg, List.take_succ_eq_append_getElem hlt]
        rw [et]
        have es : sts (t.ps.take i ++ [p]) = sts (t.ps.take i) ++ [.int .i64 p.n, .int .i64 (p.l.length : Int), .int .i64 p.dr] := by simp [sts, st3]
        rw [es]
        exact hs6
    · have : decide ((i : Int) < ((s0.n : Nat) : Int)) = false := by simp; omega
      rw [this, cond_false]
      have : i = t.ps.length := by omega
      subst this
      rw [List.take_length] at hs2
      exact hK _ _ (hs2.sel [0, 2] (by decide) rfl)
end Go.Proofs.Ytabihmedfopdcaa

set_option linter.unusedVariables false
set_option maxRecDepth 100000
namespace Go.Proofs.Ytabihmedfopdcaa
open Go Go.Hw
/-! ### 10 slipway/dice.New -/
noncomputable def B10 : Code := match Try.f10.body with | some c => c | none => .skip
def N10 (x0 : Sl) (h : Hp) (K : Option Addr → Hp → Prop) : Prop :=
  C26 x0 h fun s0 h0 =>
  nw h0 (.cells ⟨[.slice s0.p s0.n s0.c]⟩ 88) fun b0 h1 =>
  K (some (bk b0)) h1
theorem S10 {x0 : Sl} {h : Hp} {K : Option Addr → Hp → Prop} (hn : N10 x0 h K) : C10 x0 h K := by
  refine calls_of_D Try.func10 (c := B10) rfl (by kernel_rfl) ?_
  refine den_sound hE hm _ .leaf _ _ _ (annOk_leaf) ?_
  refine cast ?_ hn
  kernel_rfl
end Go.Proofs.Ytabihmedfopdcaa

set_option linter.unusedVariables false
set_option maxRecDepth 100000
namespace Go.Proofs.Ytabihmedfopdcaa
open Go Go.Hw
/-! ### 30 (*slipway/dice.Dice).Port -/
noncomputable def B30 : Code := match Try.f30.body with | some c => c | none => .skip
def N30 (x0 : Option Addr) (h : Hp) (K : Int → Hp → Prop) : Prop :=
  C51 x0 (.func (.func 52) ⟨[]⟩ ⟨[]⟩) h fun n0 h0 =>
  K n0 h0
theorem S30 {x0 : Option Addr} {h : Hp} {K : Int → Hp → Prop} (hn : N30 x0 h K) : C30 x0 h K := by
  refine calls_of_D Try.func30 (c := B30) rfl (by kernel_rfl) ?_
  refine den_sound hE hm _ .leaf _ _ _ (annOk_leaf) ?_
  refine cast ?_ hn
  kernel_rfl
end Go.Proofs.Ytabihmedfopdcaa

set_option linter.unusedVariables false
set_option maxRecDepth 100000
namespace Go.Proofs.Ytabihmedfopdcaa
open Go Go.Hw
/-! ### 51 (*slipway/dice.Dice).made -/
noncomputable def B51 : Code := match Try.f51.body with | some c => c | none => .skip
def N51 (x0 : Option Addr) (x1 : Value) (h : Hp) (K : Int → Hp → Prop) : Prop :=
  C61 x0 h fun n0 h0 =>
  HCallV Try.prog E (x1) [.int .u64 (IntKind.wrap .u64 n0)] h0 fun v0 h1 =>
  xI .i64 (some v0) fun n1 =>
  K n1 h1
theorem S51 {x0 : Option Addr} {x1 : Value} {h : Hp} {K : Int → Hp → Prop} (hn : N51 x0 x1 h K) : C51 x0 x1 h K := by
  refine calls_of_D Try.func51 (c := B51) rfl (by kernel_rfl) ?_
  refine den_sound hE hm _ .leaf _ _ _ (annOk_leaf) ?_
  refine cast ?_ hn
  kernel_rfl
end Go.Proofs.Ytabihmedfopdcaa

set_option linter.unusedVariables false
set_option maxRecDepth 100000
namespace Go.Proofs.Ytabihmedfopdcaa
open Go Go.Hw
/-! ### 52 (*slipway/dice.Dice).Port$1 -/
noncomputable def B52 : Code := match Try.f52.body with | some c => c | none => .skip
def N52 (x0 : Int) (h : Hp) (K : Int → Hp → Prop) : Prop :=
  K (IntKind.wrap .i64 (49152 + (IntKind.wrap .i64 (Int.tmod x0 16384)))) h
theorem S52 {x0 : Int} {h : Hp} {K : Int → Hp → Prop} (hn : N52 x0 h K) : C52 x0 h K := by
  refine calls_of_D Try.func52 (c := B52) rfl (by kernel_rfl) ?_
  refine den_sound hE hm _ .leaf _ _ _ (annOk_leaf) ?_
  refine cast ?_ hn
  kernel_rfl
end Go.Proofs.Ytabihmedfopdcaa

set_option linter.unusedVariables false
set_option maxRecDepth 100000
namespace Go.Proofs.Ytabihmedfopdcaa
open Go Go.Hw
/-! ### 61 (*slipway/dice.Dice).Next -/
noncomputable def B61 : Code := match Try.f61.body with | some c => c | none => .skip
def N61 (x0 : Option Addr) (h : Hp) (K : Int → Hp → Prop) : Prop :=
  nn x0 fun a0 =>
  xL (cell h a0) fun s0 =>
  bif (((s0.n : Nat) : Int) == 0) then
    K 0 h
  else
    nn x0 fun a1 =>
    xL (cell h a1) fun s1 =>
    idx 0 s1.n <|
    nn s1.p fun a2 =>
    xI .u32 (cell h (a2.add ((0 : Int).toNat * 1))) fun n0 =>
    nn x0 fun a3 =>
    xL (cell h a3) fun s2 =>
    bd 1 s2.n fun k0 =>
    nn x0 fun a4 =>
    st h a4 (.slice (sadr s2.p s2.c k0 1) (s2.n - k0) (s2.c - k0)) fun h0 =>
    K n0 h0
theorem S61 {x0 : Option Addr} {h : Hp} {K : Int → Hp → Prop} (hn : N61 x0 h K) : C61 x0 h K := by
  refine calls_of_D Try.func61 (c := B61) rfl (by kernel_rfl) ?_
  refine den_sound hE hm _ .leaf _ _ _ (annOk_leaf) ?_
  refine cast ?_ hn
  kernel_rfl
end Go.Proofs.Ytabihmedfopdcaa

set_option linter.unusedVariables false
set_option maxRecDepth 100000
namespace Go.Proofs.Ytabihmedfopdcaa
open Go Go.Hw
/-! ### 37 (*slipway/dice.Dice).Left -/
noncomputable def B37 : Code := match Try.f37.body with | some c => c | none => .skip
def N37 (x0 : Option Addr) (h : Hp) (K : Int → Hp → Prop) : Prop :=
  nn x0 fun a0 =>
  xL (cell h a0) fun s0 =>
  K ((s0.n : Nat) : Int) h
theorem S37 {x0 : Option Addr} {h : Hp} {K : Int → Hp → Prop} (hn : N37 x0 h K) : C37 x0 h K := by
  refine calls_of_D Try.func37 (c := B37) rfl (by kernel_rfl) ?_
  refine den_sound hE hm _ .leaf _ _ _ (annOk_leaf) ?_
  refine cast ?_ hn
  kernel_rfl
end Go.Proofs.Ytabihmedfopdcaa

set_option linter.unusedVariables false
set_option maxRecDepth 100000
namespace Go.Proofs.Ytabihmedfopdcaa
open Go Go.Hw
/-! ### 26 slices.Clone[[]uint32,uint32] -/
noncomputable def B26 : Code := match Try.f26.body with | some c => c | none => .skip
def N26 (x0 : Sl) (h : Hp) (K : Sl → Hp → Prop) : Prop :=
  bif x0.p.isNone then
    K ⟨none, 0, 0⟩ h
  else
    nw h (.cells ⟨[]⟩ 36) fun b0 h0 =>
    apK Try.prog 36 ⟨some (bk b0), 0, 0⟩ (.slice x0.p x0.n x0.c) h0 fun s0 h1 =>
    K s0 h1
theorem S26 {x0 : Sl} {h : Hp} {K : Sl → Hp → Prop} (hn : N26 x0 h K) : C26 x0 h K := by
  refine calls_of_D Try.func26 (c := B26) rfl (by kernel_rfl) ?_
  refine den_sound hE hm _ .leaf _ _ _ (annOk_leaf) ?_
  refine cast ?_ hn
  kernel_rfl
end Go.Proofs.Ytabihmedfopdcaa

set_option linter.unusedVariables false
set_option maxRecDepth 100000
namespace Go.Proofs.Ytabihmedfopdcaa
open Go Go.Hw
/-! ### 19 slipway/slipwayref06.New -/
noncomputable def B19 : Code := match Try.f19.body with | some c => c | none => .skip
def N19 (x0 : Sl) (h : Hp) (K : Option Addr → Hp → Prop) : Prop :=
  nw h (.cells ⟨[.slice none 0 0]⟩ 98) fun b0 h0 =>
  C34 (some (bk b0)) x0 h0 fun h1 =>
  K (some (bk b0)) h1
theorem S19 {x0 : Sl} {h : Hp} {K : Option Addr → Hp → Prop} (hn : N19 x0 h K) : C19 x0 h K := by
  refine calls_of_D Try.func19 (c := B19) rfl (by kernel_rfl) ?_
  refine den_sound hE hm _ .leaf _ _ _ (annOk_leaf) ?_
  refine cast ?_ hn
  kernel_rfl
end Go.Proofs.Ytabihmedfopdcaa

set_option linter.unusedVariables false
set_option maxRecDepth 100000
namespace Go.Proofs.Ytabihmedfopdcaa
open Go Go.Hw
/-! ### 34 (*slipway/slipwayref06.Dice).Add -/
noncomputable def B34 : Code := match Try.f34.body with | some c => c | none => .skip
def N34 (x0 : Option Addr) (x1 : Sl) (h : Hp) (K : Hp → Prop) : Prop :=
  nn x0 fun a0 =>
  xL (cell h a0) fun s0 =>
  apK Try.prog 36 ⟨none, 0, 0⟩ (.slice s0.p s0.n s0.c) h fun s1 h0 =>
  apK Try.prog 36 s1 (.slice x1.p x1.n x1.c) h0 fun s2 h1 =>
  nn x0 fun a1 =>
  st h1 a1 (.slice s2.p s2.n s2.c) fun h2 =>
  K h2
theorem S34 {x0 : Option Addr} {x1 : Sl} {h : Hp} {K : Hp → Prop} (hn : N34 x0 x1 h K) : C34 x0 x1 h K := by
  refine calls_of_D Try.func34 (c := B34) rfl (by kernel_rfl) ?_
  refine den_sound hE hm _ .leaf _ _ _ (annOk_leaf) ?_
  refine cast ?_ hn
  kernel_rfl
end Go.Proofs.Ytabihmedfopdcaa

set_option linter.unusedVariables false
set_option maxRecDepth 100000
namespace Go.Proofs.Ytabihmedfopdcaa
open Go Go.Hw
/-! ### 55 (*slipway/slipwayref06.Dice).Port -/
noncomputable def B55 : Code := match Try.f55.body with | some c => c | none => .skip
def N55 (x0 : Option Addr) (h : Hp) (K : Int → Hp → Prop) : Prop :=
  C62 x0 h fun n0 h0 =>
  K (IntKind.wrap .i64 (49152 + (IntKind.wrap .i64 (Int.tmod n0 16384)))) h0
theorem S55 {x0 : Option Addr} {h : Hp} {K : Int → Hp → Prop} (hn : N55 x0 h K) : C55 x0 h K := by
  refine calls_of_D Try.func55 (c := B55) rfl (by kernel_rfl) ?_
  refine den_sound hE hm _ .leaf _ _ _ (annOk_leaf) ?_
  refine cast ?_ hn
  kernel_rfl
end Go.Proofs.Ytabihmedfopdcaa

set_option linter.unusedVariables false
set_option maxRecDepth 100000
namespace Go.Proofs.Ytabihmedfopdcaa
open Go Go.Hw
/-! ### 62 (*slipway/slipwayref06.Dice).Next -/
noncomputable def B62 : Code := match Try.f62.body with | some c => c | none => .skip
def N62 (x0 : Option Addr) (h : Hp) (K : Int → Hp → Prop) : Prop :=
  nn x0 fun a0 =>
  xL (cell h a0) fun s0 =>
  bif (((s0.n : Nat) : Int) == 0) then
    K 0 h
  else
    nn x0 fun a1 =>
    xL (cell h a1) fun s1 =>
    idx 0 s1.n <|
    nn s1.p fun a2 =>
    xI .u32 (cell h (a2.add ((0 : Int).toNat * 1))) fun n0 =>
    nn x0 fun a3 =>
    xL (cell h a3) fun s2 =>
    bd 1 s2.n fun k0 =>
    nn x0 fun a4 =>
    st h a4 (.slice (sadr s2.p s2.c k0 1) (s2.n - k0) (s2.c - k0)) fun h0 =>
    K n0 h0
theorem S62 {x0 : Option Addr} {h : Hp} {K : Int → Hp → Prop} (hn : N62 x0 h K) : C62 x0 h K := by
  refine calls_of_D Try.func62 (c := B62) rfl (by kernel_rfl) ?_
  refine den_sound hE hm _ .leaf _ _ _ (annOk_leaf) ?_
  refine cast ?_ hn
  kernel_rfl
end Go.Proofs.Ytabihmedfopdcaa

set_option linter.unusedVariables false
set_option maxRecDepth 100000
namespace Go.Proofs.Ytabihmedfopdcaa
open Go Go.Hw
/-! ### 38 (*slipway/slipwayref06.Dice).Left -/
noncomputable def B38 : Code := match Try.f38.body with | some c => c | none => .skip
def N38 (x0 : Option Addr) (h : Hp) (K : Int → Hp → Prop) : Prop :=
  nn x0 fun a0 =>
  xL (cell h a0) fun s0 =>
  K ((s0.n : Nat) : Int) h
theorem S38 {x0 : Option Addr} {h : Hp} {K : Int → Hp → Prop} (hn : N38 x0 h K) : C38 x0 h K := by
  refine calls_of_D Try.func38 (c := B38) rfl (by kernel_rfl) ?_
  refine den_sound hE hm _ .leaf _ _ _ (annOk_leaf) ?_
  refine cast ?_ hn
  kernel_rfl
end Go.Proofs.Ytabihmedfopdcaa

set_option linter.unusedVariables false
set_option maxRecDepth 100000
namespace Go.Proofs.Ytabihmedfopdcaa
open Go Go.Hw
/-! ### 12 (*slipway/port.Ports).Pick -/
noncomputable def B12 : Code := match Try.f12.body with | some c => c | none => .skip
def N12_l0_b (x0_p : Option Addr) (Φ : Int → Hp → Prop) (x6_n : Int) (h : Hp) (K_e0 : Int → Hp → Prop) : Prop :=
  C27 x0_p x6_n h fun b0 h0 =>
  bif b0 then
    bif (decide ((IntKind.wrap .i64 (x6_n + 1)) > 65535)) then
      Φ 49152 h0
    else
      Φ (IntKind.wrap .i64 (x6_n + 1)) h0
  else
    K_e0 x6_n h0
def N12_l0_B (x0_p : Option Addr) (K_e0 : Int → Hp → Prop) (s : Sg.T [(6, .c (.int .i64))]) (h : Hp) (Φ : Sg.T [(6, .c (.int .i64))] → Hp → Prop) : Prop :=
  N12_l0_b x0_p (fun x6_n h => Φ x6_n h) s h K_e0
def N12_l0 (x0_p : Option Addr) (x6_n : Int) (h : Hp) (K_e0 : Int → Hp → Prop) : Prop :=
  loopP (N12_l0_B x0_p K_e0) x6_n h
noncomputable def N12_l0_t : Xf := loopT [(0, .c (.ptr))] [(6, .c (.int .i64))] (codeAt B12 [1, 1, 1, 0, 0, 0]) fun F Q => N12_l0_B F (fun o0 h' => Q (.exit 0) (Sg.env [(6, .c (.int .i64))] o0) h')
theorem N12_l0_ok : Sound Try.prog Try.f12.ntmps N12_l0_t (codeAt B12 [1, 1, 1, 0, 0]) := by
  refine loop_sound (fun e => match e with | .exit 0 => [6] | _ => []) (by kernel_rfl) ?_
  intro F Q s h Φ hb
  refine den_sound hE hm _ .leaf _ _ _ (annOk_leaf) ?_
  refine cast ?_ hb
  kernel_rfl
def N12 (x0 : Option Addr) (x1 : Option Addr) (h : Hp) (K : Int → Int → Hp → Prop) : Prop :=
  C28 x0 h fun b0 h0 =>
  bif b0 then
    K 0 3 h0
  else
    C30 x1 h0 fun n0 h1 =>
    N12_l0 x0 n0 h1
      (fun n1 h2 =>
        C29 x0 n1 h2 fun h3 =>
        K n1 0 h3)
theorem S12 {x0 : Option Addr} {x1 : Option Addr} {h : Hp} {K : Int → Int → Hp → Prop} (hn : N12 x0 x1 h K) : C12 x0 x1 h K := by
  refine calls_of_D Try.func12 (c := B12) rfl (by kernel_rfl) ?_
  refine den_sound hE hm _ (.two .leaf (.two .leaf (.two .leaf (.two (.one (.xf N12_l0_t)) .leaf)))) _ _ _ (⟨annOk_leaf, ⟨annOk_leaf, ⟨annOk_leaf, ⟨N12_l0_ok, annOk_leaf⟩⟩⟩⟩) ?_
  refine cast ?_ hn
  kernel_rfl
end Go.Proofs.Ytabihmedfopdcaa

/-
  Ports: dice; picking a port.
-/
set_option linter.unusedSimpArgs false
set_option linter.unusedVariables false
set_option maxRecDepth 20000
namespace Go.Proofs.Ytabihmedfopdcaa
open Go Go.Hw

def u32s (l : List Int) : List Value := l.map (Value.int .u32)
theorem u32s_plain {l : List Int} : ∀ v ∈ u32s l, plain v = true := by
  intro v hv
  obtain ⟨n, _, rfl⟩ := List.mem_map.1 hv
  rfl
def diceA (T : TypeId) (b : Nat) (l : List Int) : Asn := exs fun z : Sl => star [row b T [z.v], tailA 36 1 z (u32s l)]
theorem dice_open {T : TypeId} {L : List Asn} {b : Nat} {l : List Int} {h : Hp} (hs : Sat (L ++ [diceA T b l]) h) : ∃ z, Sat (L ++ [row b T [z.v], tailA 36 1 z (u32s l)]) h := by
  obtain ⟨z, hs⟩ := unexP hs
  have hs : Sat (L ++ [star [row b T [z.v], tailA 36 1 z (u32s l)]]) h := hs
  exact ⟨z, hs.open⟩
theorem dice_shut {T : TypeId} {L : List Asn} {b : Nat} {l : List Int} {z : Sl} {h : Hp} (hs : Sat (L ++ [row b T [z.v], tailA 36 1 z (u32s l)]) h) : Sat (L ++ [diceA T b l]) h := by
  have h2 := hs.close
  unfold diceA
  exact exP z h2
/-- numbers that are read -/
structure RdU (h : Hp) (s : Sl) (l : List Int) : Prop where
  n : s.n = l.length
  c : s.n ≤ s.c
  r : Rdc h s.p (u32s l)
theorem RdU.ext {h h' : Hp} {s : Sl} {l : List Int} (H : RdU h s l) (he : Ext none' h h') : RdU h' s l := ⟨H.n, H.c, H.r.ext he⟩
theorem RdU.srcK {h : Hp} {s : Sl} {l : List Int} (H : RdU h s l) {F : List Value → Prop} (hF : F (u32s l)) : Hw.srcK h 1 s.n s.v F := by
  unfold Hw.srcK Sl.v
  simp only []
  have hn := H.n
  cases hp : s.p with
  | none =>
    have : l = [] := by
      cases l with
      | nil => rfl
      | cons b l => obtain ⟨a, ha, _⟩ := H.r 0 (.int .u32 b) rfl; rw [hp] at ha; cases ha
    subst this; exact hF
  | some a =>
    have hr := H.r
    rw [hp] at hr
    simp only []
    rw [hr.rdN _ _ (by simp [u32s]; omega)]
    simp only [List.drop_zero, Nat.mul_one]
    have : (u32s l).take s.n = u32s l := List.take_of_length_le (by simp [u32s]; omega)
    rw [this]; exact hF
def headD (l : List Int) : Int := l.headD 0
theorem u32_n {l : List Int} {T : TypeId} {z : Sl} {L M : List Asn} {h : Hp} (hs : Sat (L ++ M) h) (j : Nat) (hj : M[j]? = some (tailA T 1 z (u32s l))) : z.n = l.length := by
  have := (hs.tail j hj).1
  simp [u32s] at this; exact this.symm
theorem c_diceNew {L M : List Asn} {s : Sl} {l : List Int} {h : Hp} {K : Option Addr → Hp → Prop} (hs : Sat (L ++ M) h) (hr : RdU h s l) (hl : l.length ≤ 35184372087808) (hK : ∀ b h', Sat (L ++ (M ++ [diceA 88 b l])) h' → K (some (bk b)) h') : C10 s h K := by
  apply S10; unfold N10
  have hn := hr.n
  have fin : ∀ (z : Sl) (h1 : Hp), Sat (L ++ (M ++ [tailA 36 1 z (u32s l)])) h1 → nw h1 (.cells ⟨[.slice z.p z.n z.c]⟩ 88) fun b0 h2 => K (some (bk b0)) h2 := by
    intro z h1 hs1 b e0
    have hs2 := hs1.new e0 (.cells ⟨[.slice z.p z.n z.c]⟩ 88 (0, 0))
    refine hK b _ ?_
    have g1 : Sat (L ++ (M ++ ([tailA 36 1 z (u32s l), row b 88 [z.v]]))) (upd h1 b (.cells ⟨[.slice z.p z.n z.c]⟩ 88 (0, 0))) := by
      have hs2 : Sat (L ++ ((M ++ [tailA 36 1 z (u32s l)]) ++ [row b 88 [z.v]])) (upd h1 b (.cells ⟨[.slice z.p z.n z.c]⟩ 88 (0, 0))) := hs2
      rw [List.append_assoc] at hs2; exact hs2
    exact Sat.asc (dice_shut ((Sat.csa g1).sel [1, 0] (by decide) rfl))
  show C26 _ _ _
  apply S26; unfold N26
  cases hp : s.p with
  | none =>
    have : l = [] := by
      cases l with
      | nil => rfl
      | cons x l => obtain ⟨a, ha, _⟩ := hr.r 0 (.int .u32 x) rfl; rw [hp] at ha; cases ha
    subst this
    exact fin ⟨none, 0, 0⟩ h (hs.addNilT 36 1 none)
  | some a =>
    simp only [Option.isNone_some, cond_false]
    intro b0 e0
    have hr1 := hr.ext (Ext.new (o := .cells ⟨[]⟩ 36 (0, 0)) e0)
    have hs1 := (hs.ext (Ext.new (o := .cells ⟨[]⟩ 36 (0, 0)) e0)).addNilT 36 1 (some (bk b0))
    refine (Sat.csa hs1).apT (P := Try.prog) 0 rfl (n := s.n) (ns := u32s l) (by kernel_rfl) (by kernel_rfl) (fun _ => rfl) ?_ (by simp [u32s, hn]) u32s_plain (by
      rw [show Try.prog.bytesOf 36 = 4 by kernel_rfl]; show (0 + s.n) * 2 * 4 ≤ _; omega) ?_
    · intro G hG
      rw [← hp]
      exact hr1.srcK hG
    · intro s' h' hs' _
      rw [List.nil_append] at hs'
      exact fin s' h' (Sat.asc hs')

theorem c_next {L : List Asn} {b : Nat} {l : List Int} {h : Hp} {K : Int → Hp → Prop} (hs : Sat (L ++ [diceA 88 b l]) h) (hK : ∀ h', Sat (L ++ [diceA 88 b l.tail]) h' → K (headD l) h') : C61 (some (bk b)) h K := by
  apply S61; unfold N61
  obtain ⟨z, hs1⟩ := dice_open hs
  have zn := u32_n hs1 1 rfl
  simp only [nn_some']
  refine hs1.lL 0 rfl rfl ?_
  cases l with
  | nil =>
    have : ((((⟨z.p, z.n, z.c⟩ : Sl).n : Nat) : Int) == 0) = true := by show (((z.n : Nat) : Int) == 0) = true; rw [zn]; rfl
    rw [this, cond_true]
    exact hK _ hs
  | cons x l =>
    have : ((((⟨z.p, z.n, z.c⟩ : Sl).n : Nat) : Int) == 0) = false := by show (((z.n : Nat) : Int) == 0) = false; rw [zn]; simp; omega
    rw [this, cond_false]
    have z1 : 1 ≤ z.n := by rw [zn]; simp
    refine hs1.lL 0 rfl rfl ?_
    refine idx_of (by omega) (by show (0 : Int) < (z.n : Int); omega) ?_
    obtain ⟨a, ha, k0⟩ := (hs1.tail 1 rfl).rdc 0 (.int .u32 x) rfl
    simp only [ha, nn_some', Int.toNat_zero, Nat.zero_mul, addzero] at k0 ⊢
    rw [k0, xI_some]
    refine hs1.lL 0 rfl rfl ?_
    refine bd_nat (i := 1) (show 1 ≤ z.n from z1) ?_
    have hs2 := hs1.cutT 1 rfl (k := 1) z1 (by decide)
    refine hs2.st 0 rfl (by simp) rfl ?_
    intro h' hs3
    exact hK _ (dice_shut (z := ⟨sadr z.p z.c 1 1, z.n - 1, z.c - 1⟩) hs3)
theorem c_Next {L : List Asn} {b : Nat} {l : List Int} {h : Hp} {K : Int → Hp → Prop} (hs : Sat (L ++ [diceA 98 b l]) h) (hK : ∀ h', Sat (L ++ [diceA 98 b l.tail]) h' → K (headD l) h') : C62 (some (bk b)) h K := by
  apply S62; unfold N62
  obtain ⟨z, hs1⟩ := dice_open hs
  have zn := u32_n hs1 1 rfl
  simp only [nn_some']
  refine hs1.lL 0 rfl rfl ?_
  cases l with
  | nil =>
    have : ((((⟨z.p, z.n, z.c⟩ : Sl).n : Nat) : Int) == 0) = true := by show (((z.n : Nat) : Int) == 0) = true; rw [zn]; rfl
    rw [this, cond_true]
    exact hK _ hs
  | cons x l =>
    have : ((((⟨z.p, z.n, z.c⟩ : Sl).n : Nat) : Int) == 0) = false := by show (((z.n : Nat) : Int) == 0) = false; rw [zn]; simp; omega
    rw [this, cond_false]
    have z1 : 1 ≤ z.n := by rw [zn]; simp
    refine hs1.lL 0 rfl rfl ?_
    refine idx_of (by omega) (by show (0 : Int) < (z.n : Int); omega) ?_
    obtain ⟨a, ha, k0⟩ := (hs1.tail 1 rfl).rdc 0 (.int .u32 x) rfl
    simp only [ha, nn_some', Int.toNat_zero, Nat.zero_mul, addzero] at k0 ⊢
    rw [k0, xI_some]
    refine hs1.lL 0 rfl rfl ?_
    refine bd_nat (i := 1) (show 1 ≤ z.n from z1) ?_
    have hs2 := hs1.cutT 1 rfl (k := 1) z1 (by decide)
    refine hs2.st 0 rfl (by simp) rfl ?_
    intro h' hs3
    exact hK _ (dice_shut (z := ⟨sadr z.p z.c 1 1, z.n - 1, z.c - 1⟩) hs3)
/-- what is drawn lies so -/
def U32s (l : List Int) : Prop := ∀ x ∈ l, 0 ≤ x ∧ x < 4294967296
theorem headD_u {l : List Int} (hu : U32s l) : 0 ≤ headD l ∧ headD l < 4294967296 := by
  cases l with
  | nil => exact ⟨by decide, by decide⟩
  | cons x l => exact hu x (List.mem_cons_self ..)
theorem U32s.tail {l : List Int} (hu : U32s l) : U32s l.tail := fun x hx => hu x (List.mem_of_mem_tail hx)
def portD (l : List Int) : Int := 49152 + headD l % 16384
theorem portD_r (l : List Int) : 49152 ≤ portD l ∧ portD l ≤ 65535 := by unfold portD; omega
theorem c_dport {L : List Asn} {b : Nat} {l : List Int} {h : Hp} {K : Int → Hp → Prop} (hs : Sat (L ++ [diceA 88 b l]) h) (hu : U32s l) (hK : ∀ h', Sat (L ++ [diceA 88 b l.tail]) h' → K (portD l) h') : C30 (some (bk b)) h K := by
  apply S30; unfold N30
  show C51 _ _ _ _
  apply S51; unfold N51
  refine c_next hs ?_
  intro h1 hs1
  show C52 _ _ _
  apply S52; unfold N52
  obtain ⟨h0, h2⟩ := headD_u hu
  rw [wu64i h0 (by omega), Int.tmod_eq_emod_of_nonneg h0, wi64i (x := headD l % 16384) (by omega) (by omega), wi64i (x := 49152 + headD l % 16384) (by omega) (by omega)]
  exact hK h1 hs1
theorem c_Dport {L : List Asn} {b : Nat} {l : List Int} {h : Hp} {K : Int → Hp → Prop} (hs : Sat (L ++ [diceA 98 b l]) h) (hu : U32s l) (hK : ∀ h', Sat (L ++ [diceA 98 b l.tail]) h' → K (portD l) h') : C55 (some (bk b)) h K := by
  apply S55; unfold N55
  refine c_Next hs ?_
  intro h1 hs1
  obtain ⟨h0, h2⟩ := headD_u hu
  rw [Int.tmod_eq_emod_of_nonneg h0]
  rw [wi64i (x := headD l % 16384) (by omega) (by omega), wi64i (x := 49152 + headD l % 16384) (by omega) (by omega)]
  exact hK h1 hs1
theorem c_dleft {L : List Asn} {b : Nat} {l : List Int} {h : Hp} {K : Int → Hp → Prop} (hs : Sat (L ++ [diceA 88 b l]) h) (hK : K (l.length : Int) h) : C37 (some (bk b)) h K := by
  apply S37; unfold N37
  obtain ⟨z, hs1⟩ := dice_open hs
  have zn := u32_n hs1 1 rfl
  simp only [nn_some']
  refine hs1.lL 0 rfl rfl ?_
  show K ((z.n : Nat) : Int) h
  rw [zn]; exact hK
theorem c_Dleft {L : List Asn} {b : Nat} {l : List Int} {h : Hp} {K : Int → Hp → Prop} (hs : Sat (L ++ [diceA 98 b l]) h) (hK : K (l.length : Int) h) : C38 (some (bk b)) h K := by
  apply S38; unfold N38
  obtain ⟨z, hs1⟩ := dice_open hs
  have zn := u32_n hs1 1 rfl
  simp only [nn_some']
  refine hs1.lL 0 rfl rfl ?_
  show K ((z.n : Nat) : Int) h
  rw [zn]; exact hK
theorem c_DiceNew {L M : List Asn} {s : Sl} {l : List Int} {h : Hp} {K : Option Addr → Hp → Prop} (hs : Sat (L ++ M) h) (hr : ∀ h', Sat (L ++ M) h' → RdU h' s l) (hl : l.length ≤ 1099511627776) (hK : ∀ b h', Sat (L ++ (M ++ [diceA 98 b l])) h' → K (some (bk b)) h') : C19 s h K := by
  apply S19; unfold N19
  intro b e0
  have hn := (hr h hs).n
  have hs1 := hs.new e0 (.cells ⟨[.slice none 0 0]⟩ 98 (0, 0))
  revert hs1
  generalize upd h b _ = h1
  intro hs1
  have hs1 : Sat ((L ++ M) ++ [row b 98 [.slice none 0 0]]) h1 := Sat.csa hs1
  apply S34; unfold N34
  simp only [nn_some']
  refine hs1.lL 0 rfl rfl ?_
  have hs2 := hs1.addNilT 36 1 none
  refine hs2.apT (P := Try.prog) 1 rfl (n := 0) (ns := []) (by kernel_rfl) (by kernel_rfl) (fun _ => rfl) (fun G hG => by unfold srcK; simpa using hG) rfl (by intro v hv; cases hv) (by
      rw [show Try.prog.bytesOf 36 = 4 by kernel_rfl]; decide) ?_
  intro s1 h2 hs3 sn
  have hs3 : Sat ((L ++ M) ++ [row b 98 [.slice none 0 0], tailA 36 1 s1 []]) h2 := hs3
  have sn : s1.n = 0 := sn
  have hr3 := hr h2 hs3.left
  refine hs3.apT (P := Try.prog) 1 rfl (n := s.n) (ns := u32s l) (by kernel_rfl) (by kernel_rfl) (fun _ => rfl) ?_ (by simp [u32s, hn]) u32s_plain (by
      rw [show Try.prog.bytesOf 36 = 4 by kernel_rfl]; show (s1.n + s.n) * 2 * 4 ≤ _; omega) ?_
  · intro G hG
    exact hr3.srcK hG
  · intro s2 h3 hs4 _
    refine hs4.st 0 rfl (by simp) rfl ?_
    intro h4 hs5
    have hs5 : Sat ((L ++ M) ++ [row b 98 [s2.v], tailA 36 1 s2 (u32s l)]) h4 := hs5
    exact hK b h4 (Sat.asc (dice_shut hs5))

/-! ### picking -/
def cyc (x : Int) (j : Nat) : Int := 49152 + (x - 49152 + j) % 16384
/-- y is the first that is free, from x on -/
def IsPick (ps : List PS) (x y : Int) : Prop := ∃ j : Nat, j ≤ 16 ∧ y = cyc x j ∧ findP y ps = none ∧ ∀ i < j, (findP (cyc x i) ps).isSome = true
theorem pigeon : ∀ (L m : List Int), L.Nodup → (∀ x ∈ L, x ∈ m) → L.length ≤ m.length := by
  intro L
  induction L with
  | nil => intro m _ _; exact Nat.zero_le _
  | cons x L ih =>
    intro m hn hs
    obtain ⟨h1, h2⟩ := List.nodup_cons.1 hn
    have hx := hs x (List.mem_cons_self ..)
    have := ih (m.erase x) h2 fun y hy => (List.mem_erase_of_ne (fun e => h1 (by rw [← e]; exact hy))).2 (hs y (List.mem_cons_of_mem _ hy))
    rw [List.length_erase_of_mem hx] at this
    have hpos : 0 < m.length := List.length_pos_of_mem hx
    rw [List.length_cons]; omega
theorem pick_exists {ps : List PS} (hl : ps.length ≤ 16) (x : Int) : ∃ y, IsPick ps x y := by
  have free : ∃ j : Nat, j ≤ 16 ∧ findP (cyc x j) ps = none := by
    apply Classical.byContradiction
    intro hno
    have all : ∀ j : Nat, j ≤ 16 → ∃ p ∈ ps, p.n = cyc x j := by
      intro j hj
      cases hf : findP (cyc x j) ps with
      | none => exact (hno ⟨j, hj, hf⟩).elim
      | some p => obtain ⟨h1, h2⟩ := findP_some hf; exact ⟨p, h1, h2⟩
    have := pigeon ((List.range 17).map (cyc x)) (ps.map PS.n) (by
      rw [List.nodup_iff_pairwise_ne, List.pairwise_map]
      refine List.Pairwise.imp_of_mem ?_ List.nodup_range
      intro a b ha hb hne e
      have ha := List.mem_range.1 ha
      have hb := List.mem_range.1 hb
      unfold cyc at e
      omega) (by
      intro y hy
      obtain ⟨j, hj, rfl⟩ := List.mem_map.1 hy
      have := List.mem_range.1 hj
      obtain ⟨p, hp, e⟩ := all j (by omega)
      exact List.mem_map.2 ⟨p, hp, e⟩)
    simp at this
    omega
  obtain ⟨j, hj, hf⟩ := free
  have least : ∀ j : Nat, j ≤ 16 → findP (cyc x j) ps = none → ∃ y, IsPick ps x y := by
    intro j
    induction j using Nat.strongRecOn with
    | ind j ih =>
      intro hj hf
      by_cases hall : ∀ i < j, (findP (cyc x i) ps).isSome = true
      · exact ⟨_, j, hj, rfl, hf, hall⟩
      · obtain ⟨i, hi⟩ := Classical.not_forall.1 hall
        obtain ⟨hij, hi2⟩ := Classical.not_imp.1 hi
        refine ih i hij (by omega) ?_
        cases hq : findP (cyc x i) ps with
        | none => rfl
        | some p => rw [hq] at hi2; exact absurd rfl hi2
  exact least j hj hf
theorem IsPick.free {ps : List PS} {x y : Int} (h : IsPick ps x y) : findP y ps = none ∧ 49152 ≤ y ∧ y ≤ 65535 := by
  obtain ⟨j, _, rfl, h2, _⟩ := h
  unfold cyc at *
  exact ⟨h2, by omega, by omega⟩
/-- one step on -/
theorem IsPick.step {ps : List PS} {x y : Int} (h : IsPick ps x y) (hx : 49152 ≤ x) (hx2 : x ≤ 65535) (hf : (findP x ps).isSome = true) : x ≠ y ∧ IsPick ps (if x + 1 > 65535 then 49152 else x + 1) y ∧ ((y - (if x + 1 > 65535 then 49152 else x + 1)) % 16384).toNat < ((y - x) % 16384).toNat := by
  obtain ⟨j, h1, h2, h3, h4⟩ := h
  have e0 : cyc x 0 = x := by unfold cyc; omega
  have hne : x ≠ y := by rintro rfl; rw [h3] at hf; cases hf
  cases j with
  | zero => exact absurd (e0.symm.trans h2.symm) hne
  | succ j =>
    have es : ∀ i : Nat, cyc (if x + 1 > 65535 then 49152 else x + 1) i = cyc x (i + 1) := by
      intro i; unfold cyc; split <;> omega
    refine ⟨hne, ⟨j, by omega, by rw [es]; exact h2, h3, fun i hi => by rw [es]; exact h4 (i + 1) (by omega)⟩, ?_⟩
    unfold cyc at h2
    split <;> omega
theorem IsPick.stop {ps : List PS} {x y : Int} (h : IsPick ps x y) (hx : 49152 ≤ x) (hx2 : x ≤ 65535) (hf : findP x ps = none) : y = x := by
  obtain ⟨j, h1, h2, h3, h4⟩ := h
  have e0 : cyc x 0 = x := by unfold cyc; omega
  cases j with
  | zero => rw [h2, e0]
  | succ j => have := h4 0 (by omega); rw [e0, hf] at this; cases this
theorem p_pick {L : List Asn} {b k : Nat} {t : Tb} {l : List Int} {h : Hp} {K : Int → Int → Hp → Prop} (hs : Sat (L ++ [portsA b t, diceA 88 k l]) h) (hn : NodN t.ps) (hu : U32s l)
    (hfull : t.most ≤ (t.ps.length : Int) → K 0 3 h)
    (hK : ¬ t.most ≤ (t.ps.length : Int) → ∃ y, IsPick t.ps (portD l) y ∧ ∀ h', Sat (L ++ [portsA b { t with ps := addP y t.ps }, diceA 88 k l.tail]) h' → K y 0 h') : C12 (some (bk b)) (some (bk k)) h K := by
  apply S12; unfold N12
  have hs1 : Sat ((L ++ [diceA 88 k l]) ++ [portsA b t]) h := Sat.csa (hs.sel [1, 0] (by decide) rfl)
  refine p_full hs1 ?_
  by_cases hd : t.most ≤ (t.ps.length : Int)
  · simp only [hd, decide_true, cond_true]; exact hfull hd
  · simp only [hd, decide_false, cond_false]
    obtain ⟨y, hy, hK⟩ := hK hd
    have hs2 : Sat ((L ++ [portsA b t]) ++ [diceA 88 k l]) h := Sat.csa hs
    refine c_dport hs2 hu ?_
    intro h1 hs3
    have hs4 : Sat ((L ++ [diceA 88 k l.tail]) ++ [portsA b t]) h1 := Sat.csa ((Sat.asc hs3).sel [1, 0] (by decide) rfl)
    unfold N12_l0
    refine loopP_inv (fun (x : Int) hc => Sat ((L ++ [diceA 88 k l.tail]) ++ [portsA b t]) hc ∧ 49152 ≤ x ∧ x ≤ 65535 ∧ IsPick t.ps x y) (fun x _ => ((y - x) % 16384).toNat) ?_ ⟨hs4, (portD_r l).1, (portD_r l).2, hy⟩
    rintro x hc ⟨hs5, x1, x2, hp⟩
    unfold N12_l0_B N12_l0_b
    refine p_is hs5 hn ?_
    cases hf : findP x t.ps with
    | some p =>
      obtain ⟨_, q1, q2⟩ := hp.step x1 x2 (by rw [hf]; rfl)
      simp only [Option.isSome_some, cond_true]
      rw [wi64i (by omega) (by omega)]
      by_cases e : x + 1 > 65535
      · simp only [e, decide_true, cond_true]
        rw [if_pos e] at q1 q2
        exact ⟨⟨hs5, by omega, by omega, q1⟩, q2⟩
      · simp only [e, decide_false, cond_false]
        rw [if_neg e] at q1 q2
        exact ⟨⟨hs5, by omega, by omega, q1⟩, q2⟩
    | none =>
      simp only [Option.isSome_none, cond_false]
      have := hp.stop x1 x2 hf
      subst this
      refine p_begin hs5 hn hf ?_
      intro h6 hs6
      exact hK h6 ((Sat.asc hs6).sel [1, 0] (by decide) rfl)
end Go.Proofs.Ytabihmedfopdcaa

set_option linter.unusedVariables false
set_option maxRecDepth 100000
namespace Go.Proofs.Ytabihmedfopdcaa
open Go Go.Hw
/-! ### 18 slipway/slipwayref13.New -/
noncomputable def B18 : Code := match Try.f18.body with | some c => c | none => .skip
def N18 (x0 : Int) (x1 : Int) (h : Hp) (K : Option Addr → Hp → Prop) : Prop :=
  bif (decide (x0 < 1)) then
    K none h
  else
    bif (decide (x0 > 16)) then
      K none h
    else
      bif (decide (x1 < 1)) then
        K none h
      else
        bif (decide (x1 > 32)) then
          K none h
        else
          nw h (.cells ⟨[.slice none 0 0, .int .i64 x0, .int .i64 x1]⟩ 96) fun b0 h0 =>
          K (some (bk b0)) h0
theorem S18 {x0 : Int} {x1 : Int} {h : Hp} {K : Option Addr → Hp → Prop} (hn : N18 x0 x1 h K) : C18 x0 x1 h K := by
  refine calls_of_D Try.func18 (c := B18) rfl (by kernel_rfl) ?_
  refine den_sound hE hm _ .leaf _ _ _ (annOk_leaf) ?_
  refine cast ?_ hn
  kernel_rfl
end Go.Proofs.Ytabihmedfopdcaa

set_option linter.unusedVariables false
set_option maxRecDepth 100000
namespace Go.Proofs.Ytabihmedfopdcaa
open Go Go.Hw
/-! ### 53 (*slipway/slipwayref13.Ports).at -/
noncomputable def B53 : Code := match Try.f53.body with | some c => c | none => .skip
def N53_l0_b (x0_p : Option Addr) (x1_n : Int) (Φ : Int → Hp → Prop) (x5_i : Int) (h : Hp) (K_e0 : Hp → Prop) (K_ret : Int → Hp → Prop) : Prop :=
  nn x0_p fun a0 =>
  xL (cell h a0) fun s0 =>
  bif (decide (x5_i < ((s0.n : Nat) : Int))) then
    nn x0_p fun a1 =>
    xL (cell h a1) fun s1 =>
    idx x5_i s1.n <|
    nn s1.p fun a2 =>
    xP (cell h (a2.add (x5_i.toNat * 1))) fun p0 =>
    nn p0 fun a3 =>
    xI .i64 (cell h a3) fun n0 =>
    bif (n0 == x1_n) then
      K_ret x5_i h
    else
      Φ (IntKind.wrap .i64 (x5_i + 1)) h
  else
    K_e0 h
def N53_l0_B (x0_p : Option Addr) (x1_n : Int) (K_e0 : Hp → Prop) (K_ret : Int → Hp → Prop) (s : Sg.T [(5, .c (.int .i64))]) (h : Hp) (Φ : Sg.T [(5, .c (.int .i64))] → Hp → Prop) : Prop :=
  N53_l0_b x0_p x1_n (fun x5_i h => Φ x5_i h) s h K_e0 K_ret
def N53_l0 (x0_p : Option Addr) (x1_n : Int) (x5_i : Int) (h : Hp) (K_e0 : Hp → Prop) (K_ret : Int → Hp → Prop) : Prop :=
  loopP (N53_l0_B x0_p x1_n K_e0 K_ret) x5_i h
noncomputable def N53_l0_t : Xf := loopT [(0, .c (.ptr)), (1, .c (.int .i64))] [(5, .c (.int .i64))] (codeAt B53 [1, 0, 1, 0, 0]) fun F Q => N53_l0_B F.1 F.2 (fun h' => Q (.exit 0) (Sg.env [] ()) h') (fun o0 h' => Q .ret (Sg.env [(4, .c (.int .i64))] o0) h')
theorem N53_l0_ok : Sound Try.prog Try.f53.ntmps N53_l0_t (codeAt B53 [1, 0, 1, 0]) := by
  refine loop_sound (fun e => match e with | .exit 0 => [] | .ret => [4] | _ => []) (by kernel_rfl) ?_
  intro F Q s h Φ hb
  refine den_sound hE hm _ .leaf _ _ _ (annOk_leaf) ?_
  refine cast ?_ hb
  kernel_rfl
def N53 (x0 : Option Addr) (x1 : Int) (h : Hp) (K : Int → Hp → Prop) : Prop :=
  N53_l0 x0 x1 0 h
    (fun h0 =>
      K (-1) h0)
    (fun n0 h1 =>
      K n0 h1)
theorem S53 {x0 : Option Addr} {x1 : Int} {h : Hp} {K : Int → Hp → Prop} (hn : N53 x0 x1 h K) : C53 x0 x1 h K := by
  refine calls_of_D Try.func53 (c := B53) rfl (by kernel_rfl) ?_
  refine den_sound hE hm _ (.two .leaf (.two (.two .leaf (.one (.xf N53_l0_t))) .leaf)) _ _ _ (⟨annOk_leaf, ⟨⟨annOk_leaf, N53_l0_ok⟩, annOk_leaf⟩⟩) ?_
  refine cast ?_ hn
  kernel_rfl
end Go.Proofs.Ytabihmedfopdcaa

set_option linter.unusedVariables false
set_option maxRecDepth 100000
namespace Go.Proofs.Ytabihmedfopdcaa
open Go Go.Hw
/-! ### 54 (*slipway/slipwayref13.Ports).add -/
noncomputable def B54 : Code := match Try.f54.body with | some c => c | none => .skip
def N54_j1 (x0_p : Option Addr) (x1_n : Int) (x4_out : Sl) (x5_laid : Bool) (x6_i : Int) (x31 : Bool) (h : Hp) (K_normal : Sl → Bool → Hp → Prop) : Prop :=
  bif x31 then
    nw h (.cells ⟨[.int .i64 x1_n, .int .i64 0, .slice none 0 0]⟩ 112) fun b0 h0 =>
    nw h0 (.cells ⟨[.pointer (some (bk b0))]⟩ 110) fun b1 h1 =>
    apK Try.prog 110 x4_out (.slice (some (bk b1)) 1 1) h1 fun s0 h2 =>
    K_normal s0 true h2
  else
    K_normal x4_out x5_laid h
noncomputable def N54_j1_t : Xf := pieceT [(0, .c (.ptr)), (1, .c (.int .i64)), (4, .c (.slice)), (5, .c (.bool)), (6, .c (.int .i64)), (31, .c (.bool))] (codeAt B54 [1, 1, 0, 1, 0, 0, 1, 0, 0, 0, 1]) fun x h Q => N54_j1 x.1 x.2.1 x.2.2.1 x.2.2.2.1 x.2.2.2.2.1 x.2.2.2.2.2 h (fun o0 o1 h' => Q .normal (Sg.env [(4, .c (.slice)), (5, .c (.bool))] (o0, o1)) h')
theorem N54_j1_ok : Sound Try.prog Try.f54.ntmps N54_j1_t (codeAt B54 [1, 1, 0, 1, 0, 0, 1, 0, 0, 0, 1]) := by
  refine piece_sound (fun e => match e with | .normal => [4, 5] | _ => []) ?_
  intro x h Q hb
  refine den_sound hE hm _ .leaf _ _ _ (annOk_leaf) ?_
  refine cast ?_ hb
  kernel_rfl
def N54_j2 (x0_p : Option Addr) (x1_n : Int) (x4_out : Sl) (x5_laid : Bool) (x6_i : Int) (h : Hp) (K_normal : Sl → Hp → Prop) : Prop :=
  nn x0_p fun a0 =>
  xL (cell h a0) fun s0 =>
  idx x6_i s0.n <|
  nn s0.p fun a1 =>
  xP (cell h (a1.add (x6_i.toNat * 1))) fun p0 =>
  nw h (.cells ⟨[.pointer p0]⟩ 110) fun b0 h0 =>
  apK Try.prog 110 x4_out (.slice (some (bk b0)) 1 1) h0 fun s1 h1 =>
  K_normal s1 h1
noncomputable def N54_j2_t : Xf := pieceT [(0, .c (.ptr)), (1, .c (.int .i64)), (4, .c (.slice)), (5, .c (.bool)), (6, .c (.int .i64))] (codeAt B54 [1, 1, 0, 1, 0, 0, 1, 0, 0, 1]) fun x h Q => N54_j2 x.1 x.2.1 x.2.2.1 x.2.2.2.1 x.2.2.2.2 h (fun o0 h' => Q .normal (Sg.env [(4, .c (.slice))] o0) h')
theorem N54_j2_ok : Sound Try.prog Try.f54.ntmps N54_j2_t (codeAt B54 [1, 1, 0, 1, 0, 0, 1, 0, 0, 1]) := by
  refine piece_sound (fun e => match e with | .normal => [4] | _ => []) ?_
  intro x h Q hb
  refine den_sound hE hm _ .leaf _ _ _ (annOk_leaf) ?_
  refine cast ?_ hb
  kernel_rfl
def N54_l0_b (x0_p : Option Addr) (x1_n : Int) (Φ : Sl → Bool → Int → Hp → Prop) (x4_out : Sl) (x5_laid : Bool) (x6_i : Int) (h : Hp) (K_e0 : Sl → Bool → Hp → Prop) : Prop :=
  nn x0_p fun a0 =>
  xL (cell h a0) fun s0 =>
  bif (decide (x6_i < ((s0.n : Nat) : Int))) then
    bif (!x5_laid) then
      nn x0_p fun a1 =>
      xL (cell h a1) fun s1 =>
      idx x6_i s1.n <|
      nn s1.p fun a2 =>
      xP (cell h (a2.add (x6_i.toNat * 1))) fun p0 =>
      nn p0 fun a3 =>
      xI .i64 (cell h a3) fun n0 =>
      N54_j1 x0_p x1_n x4_out x5_laid x6_i (decide (n0 > x1_n)) h
        (fun s2 b0 h0 =>
          N54_j2 x0_p x1_n s2 b0 x6_i h0
            (fun s3 h1 =>
              Φ s3 b0 (IntKind.wrap .i64 (x6_i + 1)) h1))
    else
      N54_j1 x0_p x1_n x4_out x5_laid x6_i false h
        (fun s4 b1 h2 =>
          N54_j2 x0_p x1_n s4 b1 x6_i h2
            (fun s5 h3 =>
              Φ s5 b1 (IntKind.wrap .i64 (x6_i + 1)) h3))
  else
    K_e0 x4_out x5_laid h
def N54_l0_B (x0_p : Option Addr) (x1_n : Int) (K_e0 : Sl → Bool → Hp → Prop) (s : Sg.T [(4, .c (.slice)), (5, .c (.bool)), (6, .c (.int .i64))]) (h : Hp) (Φ : Sg.T [(4, .c (.slice)), (5, .c (.bool)), (6, .c (.int .i64))] → Hp → Prop) : Prop :=
  N54_l0_b x0_p x1_n (fun x4_out x5_laid x6_i h => Φ (x4_out, x5_laid, x6_i) h) s.1 s.2.1 s.2.2 h K_e0
def N54_l0 (x0_p : Option Addr) (x1_n : Int) (x4_out : Sl) (x5_laid : Bool) (x6_i : Int) (h : Hp) (K_e0 : Sl → Bool → Hp → Prop) : Prop :=
  loopP (N54_l0_B x0_p x1_n K_e0) (x4_out, x5_laid, x6_i) h
noncomputable def N54_l0_t : Xf := loopT [(0, .c (.ptr)), (1, .c (.int .i64))] [(4, .c (.slice)), (5, .c (.bool)), (6, .c (.int .i64))] (codeAt B54 [1, 1, 0, 1, 0, 0]) fun F Q => N54_l0_B F.1 F.2 (fun o0 o1 h' => Q (.exit 0) (Sg.env [(4, .c (.slice)), (5, .c (.bool))] (o0, o1)) h')
theorem N54_l0_ok : Sound Try.prog Try.f54.ntmps N54_l0_t (codeAt B54 [1, 1, 0, 1, 0]) := by
  refine loop_sound (fun e => match e with | .exit 0 => [4, 5] | _ => []) (by kernel_rfl) ?_
  intro F Q s h Φ hb
  refine den_sound hE hm _ (.two .leaf (.two (.one (.two (.two .leaf (.xf N54_j1_t)) (.xf N54_j2_t))) .leaf)) _ _ _ (⟨annOk_leaf, ⟨⟨⟨annOk_leaf, N54_j1_ok⟩, N54_j2_ok⟩, annOk_leaf⟩⟩) ?_
  refine cast ?_ hb
  kernel_rfl
def N54_j3 (x0_p : Option Addr) (x4_out : Sl) (h : Hp) (K_normal : Hp → Prop) : Prop :=
  nn x0_p fun a0 =>
  st h a0 (.slice x4_out.p x4_out.n x4_out.c) fun h0 =>
  K_normal h0
noncomputable def N54_j3_t : Xf := pieceT [(0, .c (.ptr)), (4, .c (.slice))] (codeAt B54 [1, 1, 1, 1]) fun x h Q => N54_j3 x.1 x.2 h (fun h' => Q .normal (Sg.env [] ()) h')
theorem N54_j3_ok : Sound Try.prog Try.f54.ntmps N54_j3_t (codeAt B54 [1, 1, 1, 1]) := by
  refine piece_sound (fun e => match e with | .normal => [] | _ => []) ?_
  intro x h Q hb
  refine den_sound hE hm _ .leaf _ _ _ (annOk_leaf) ?_
  refine cast ?_ hb
  kernel_rfl
def N54 (x0 : Option Addr) (x1 : Int) (h : Hp) (K : Hp → Prop) : Prop :=
  N54_l0 x0 x1 ⟨none, 0, 0⟩ false 0 h
    (fun s0 b0 h0 =>
      bif (!b0) then
        nw h0 (.cells ⟨[.int .i64 x1, .int .i64 0, .slice none 0 0]⟩ 112) fun b1 h1 =>
        nw h1 (.cells ⟨[.pointer (some (bk b1))]⟩ 110) fun b2 h2 =>
        apK Try.prog 110 s0 (.slice (some (bk b2)) 1 1) h2 fun s1 h3 =>
        N54_j3 x0 s1 h3
          (fun h4 =>
            K h4)
      else
        N54_j3 x0 s0 h0
          (fun h5 =>
            K h5))
theorem S54 {x0 : Option Addr} {x1 : Int} {h : Hp} {K : Hp → Prop} (hn : N54 x0 x1 h K) : C54 x0 x1 h K := by
  refine calls_of_D Try.func54 (c := B54) rfl (by kernel_rfl) ?_
  refine den_sound hE hm _ (.two .leaf (.two .leaf (.two (.two .leaf (.one (.xf N54_l0_t))) (.two .leaf (.xf N54_j3_t))))) _ _ _ (⟨annOk_leaf, ⟨annOk_leaf, ⟨⟨annOk_leaf, N54_l0_ok⟩, ⟨annOk_leaf, N54_j3_ok⟩⟩⟩⟩) ?_
  refine cast ?_ hn
  kernel_rfl
end Go.Proofs.Ytabihmedfopdcaa

set_option linter.unusedVariables false
set_option maxRecDepth 100000
namespace Go.Proofs.Ytabihmedfopdcaa
open Go Go.Hw
/-! ### 35 (*slipway/slipwayref13.Ports).Open -/
noncomputable def B35 : Code := match Try.f35.body with | some c => c | none => .skip
def N35 (x0 : Option Addr) (x1 : Int) (h : Hp) (K : Int → Hp → Prop) : Prop :=
  bif (decide (x1 < 1)) then
    K 1 h
  else
    bif (decide (x1 > 65535)) then
      K 1 h
    else
      C53 x0 x1 h fun n0 h0 =>
      bif (decide (n0 ≥ 0)) then
        K 130 h0
      else
        nn x0 fun a0 =>
        xL (cell h0 a0) fun s0 =>
        nn x0 fun a1 =>
        xI .i64 (cell h0 (a1.add 1)) fun n1 =>
        bif (decide (((s0.n : Nat) : Int) ≥ n1)) then
          K 3 h0
        else
          C54 x0 x1 h0 fun h1 =>
          K 0 h1
theorem S35 {x0 : Option Addr} {x1 : Int} {h : Hp} {K : Int → Hp → Prop} (hn : N35 x0 x1 h K) : C35 x0 x1 h K := by
  refine calls_of_D Try.func35 (c := B35) rfl (by kernel_rfl) ?_
  refine den_sound hE hm _ (.two .leaf (.two .leaf (.two .leaf (.two .leaf (.two (.two (.ord [0, 1, 2, 3, 4, 5, 6, 7, 8, 9]) .leaf) .leaf))))) _ _ _ (⟨annOk_leaf, ⟨annOk_leaf, ⟨annOk_leaf, ⟨annOk_leaf, ⟨⟨trivial, annOk_leaf⟩, annOk_leaf⟩⟩⟩⟩⟩) ?_
  refine cast ?_ hn
  kernel_rfl
end Go.Proofs.Ytabihmedfopdcaa

set_option linter.unusedVariables false
set_option maxRecDepth 100000
namespace Go.Proofs.Ytabihmedfopdcaa
open Go Go.Hw
/-! ### 36 (*slipway/slipwayref13.Ports).Pick -/
noncomputable def B36 : Code := match Try.f36.body with | some c => c | none => .skip
def N36_l0_b (x0_p : Option Addr) (Φ : Int → Hp → Prop) (x6_n : Int) (h : Hp) (K_ret : Int → Int → Hp → Prop) : Prop :=
  C53 x0_p x6_n h fun n0 h0 =>
  bif (decide (n0 < 0)) then
    C54 x0_p x6_n h0 fun h1 =>
    K_ret x6_n 0 h1
  else
    bif (decide ((IntKind.wrap .i64 (x6_n + 1)) > 65535)) then
      Φ 49152 h0
    else
      Φ (IntKind.wrap .i64 (x6_n + 1)) h0
def N36_l0_B (x0_p : Option Addr) (K_ret : Int → Int → Hp → Prop) (s : Sg.T [(6, .c (.int .i64))]) (h : Hp) (Φ : Sg.T [(6, .c (.int .i64))] → Hp → Prop) : Prop :=
  N36_l0_b x0_p (fun x6_n h => Φ x6_n h) s h K_ret
def N36_l0 (x0_p : Option Addr) (x6_n : Int) (h : Hp) (K_ret : Int → Int → Hp → Prop) : Prop :=
  loopP (N36_l0_B x0_p K_ret) x6_n h
noncomputable def N36_l0_t : Xf := loopT [(0, .c (.ptr))] [(6, .c (.int .i64))] (codeAt B36 [1, 1, 1, 0, 0]) fun F Q => N36_l0_B F (fun o0 o1 h' => Q .ret (Sg.env [(4, .c (.int .i64)), (5, .c (.int .i64))] (o0, o1)) h')
theorem N36_l0_ok : Sound Try.prog Try.f36.ntmps N36_l0_t (codeAt B36 [1, 1, 1, 0]) := by
  refine loop_sound (fun e => match e with | .ret => [4, 5] | _ => []) (by kernel_rfl) ?_
  intro F Q s h Φ hb
  refine den_sound hE hm _ .leaf _ _ _ (annOk_leaf) ?_
  refine cast ?_ hb
  kernel_rfl
def N36 (x0 : Option Addr) (x1 : Option Addr) (h : Hp) (K : Int → Int → Hp → Prop) : Prop :=
  nn x0 fun a0 =>
  xL (cell h a0) fun s0 =>
  nn x0 fun a1 =>
  xI .i64 (cell h (a1.add 1)) fun n0 =>
  bif (decide (((s0.n : Nat) : Int) ≥ n0)) then
    K 0 3 h
  else
    C55 x1 h fun n1 h0 =>
    N36_l0 x0 n1 h0
      (fun n2 n3 h1 =>
        K n2 n3 h1)
theorem S36 {x0 : Option Addr} {x1 : Option Addr} {h : Hp} {K : Int → Int → Hp → Prop} (hn : N36 x0 x1 h K) : C36 x0 x1 h K := by
  refine calls_of_D Try.func36 (c := B36) rfl (by kernel_rfl) ?_
  refine den_sound hE hm _ (.two .leaf (.two (.two (.ord [0, 1, 2, 3, 4, 5, 6, 7, 8, 9]) .leaf) (.two .leaf (.one (.xf N36_l0_t))))) _ _ _ (⟨annOk_leaf, ⟨⟨trivial, annOk_leaf⟩, ⟨annOk_leaf, N36_l0_ok⟩⟩⟩) ?_
  refine cast ?_ hn
  kernel_rfl
end Go.Proofs.Ytabihmedfopdcaa

set_option linter.unusedVariables false
set_option maxRecDepth 100000
namespace Go.Proofs.Ytabihmedfopdcaa
open Go Go.Hw
/-! ### 39 (*slipway/slipwayref13.Ports).Close -/
noncomputable def B39 : Code := match Try.f39.body with | some c => c | none => .skip
def N39_l0_b (x0_p : Option Addr) (x5_i : Int) (Φ : Sl → Int → Hp → Prop) (x6_out : Sl) (x7_k : Int) (h : Hp) (K_e0 : Sl → Hp → Prop) : Prop :=
  nn x0_p fun a0 =>
  xL (cell h a0) fun s0 =>
  bif (decide (x7_k < ((s0.n : Nat) : Int))) then
    bif (x7_k != x5_i) then
      nn x0_p fun a1 =>
      xL (cell h a1) fun s1 =>
      idx x7_k s1.n <|
      nn s1.p fun a2 =>
      xP (cell h (a2.add (x7_k.toNat * 1))) fun p0 =>
      nw h (.cells ⟨[.pointer p0]⟩ 110) fun b0 h0 =>
      apK Try.prog 110 x6_out (.slice (some (bk b0)) 1 1) h0 fun s2 h1 =>
      Φ s2 (IntKind.wrap .i64 (x7_k + 1)) h1
    else
      Φ x6_out (IntKind.wrap .i64 (x7_k + 1)) h
  else
    K_e0 x6_out h
def N39_l0_B (x0_p : Option Addr) (x5_i : Int) (K_e0 : Sl → Hp → Prop) (s : Sg.T [(6, .c (.slice)), (7, .c (.int .i64))]) (h : Hp) (Φ : Sg.T [(6, .c (.slice)), (7, .c (.int .i64))] → Hp → Prop) : Prop :=
  N39_l0_b x0_p x5_i (fun x6_out x7_k h => Φ (x6_out, x7_k) h) s.1 s.2 h K_e0
def N39_l0 (x0_p : Option Addr) (x5_i : Int) (x6_out : Sl) (x7_k : Int) (h : Hp) (K_e0 : Sl → Hp → Prop) : Prop :=
  loopP (N39_l0_B x0_p x5_i K_e0) (x6_out, x7_k) h
noncomputable def N39_l0_t : Xf := loopT [(0, .c (.ptr)), (5, .c (.int .i64))] [(6, .c (.slice)), (7, .c (.int .i64))] (codeAt B39 [1, 1, 1, 1, 0, 1, 0, 0]) fun F Q => N39_l0_B F.1 F.2 (fun o0 h' => Q (.exit 0) (Sg.env [(6, .c (.slice))] o0) h')
theorem N39_l0_ok : Sound Try.prog Try.f39.ntmps N39_l0_t (codeAt B39 [1, 1, 1, 1, 0, 1, 0]) := by
  refine loop_sound (fun e => match e with | .exit 0 => [6] | _ => []) (by kernel_rfl) ?_
  intro F Q s h Φ hb
  refine den_sound hE hm _ .leaf _ _ _ (annOk_leaf) ?_
  refine cast ?_ hb
  kernel_rfl
def N39 (x0 : Option Addr) (x1 : Int) (h : Hp) (K : Bool → Hp → Prop) : Prop :=
  C53 x0 x1 h fun n0 h0 =>
  bif (decide (n0 < 0)) then
    K false h0
  else
    N39_l0 x0 n0 ⟨none, 0, 0⟩ 0 h0
      (fun s0 h1 =>
        nn x0 fun a0 =>
        st h1 a0 (.slice s0.p s0.n s0.c) fun h2 =>
        K true h2)
theorem S39 {x0 : Option Addr} {x1 : Int} {h : Hp} {K : Bool → Hp → Prop} (hn : N39 x0 x1 h K) : C39 x0 x1 h K := by
  refine calls_of_D Try.func39 (c := B39) rfl (by kernel_rfl) ?_
  refine den_sound hE hm _ (.two .leaf (.two .leaf (.two .leaf (.two .leaf (.two (.two .leaf (.one (.xf N39_l0_t))) .leaf))))) _ _ _ (⟨annOk_leaf, ⟨annOk_leaf, ⟨annOk_leaf, ⟨annOk_leaf, ⟨⟨annOk_leaf, N39_l0_ok⟩, annOk_leaf⟩⟩⟩⟩⟩) ?_
  refine cast ?_ hn
  kernel_rfl
end Go.Proofs.Ytabihmedfopdcaa

set_option linter.unusedVariables false
set_option maxRecDepth 100000
namespace Go.Proofs.Ytabihmedfopdcaa
open Go Go.Hw
/-! ### 41 (*slipway/slipwayref13.Ports).Put -/
noncomputable def B41 : Code := match Try.f41.body with | some c => c | none => .skip
def N41 (x0 : Option Addr) (x1_0 : Int) (x1_1 : Int) (x1_2 : Int) (x1_3 : Int) (x1_4 : Sl) (h : Hp) (K : Int → Hp → Prop) : Prop :=
  nw h (.cells ⟨[.int .u32 x1_0, .int .u32 x1_1, .int .i64 x1_2, .int .i64 x1_3, .slice x1_4.p x1_4.n x1_4.c]⟩ 39) fun b0 h0 =>
  xI .i64 (cell h0 ((bk b0).add 3)) fun n0 =>
  C53 x0 n0 h0 fun n1 h1 =>
  bif (decide (n1 < 0)) then
    K 131 h1
  else
    nn x0 fun a0 =>
    xL (cell h1 a0) fun s0 =>
    idx n1 s0.n <|
    nn s0.p fun a1 =>
    xP (cell h1 (a1.add (n1.toNat * 1))) fun p0 =>
    nn p0 fun a2 =>
    xL (cell h1 (a2.add 2)) fun s1 =>
    nn x0 fun a3 =>
    xI .i64 (cell h1 (a3.add 2)) fun n2 =>
    bif (decide (((s1.n : Nat) : Int) ≥ n2)) then
      nn p0 fun a4 =>
      xI .i64 (cell h1 (a4.add 1)) fun n3 =>
      nn p0 fun a5 =>
      st h1 (a5.add 1) (.int .i64 (IntKind.wrap .i64 (n3 + 1))) fun h2 =>
      K 3 h2
    else
      xI .u32 (cell h1 (bk b0)) fun n4 =>
      xI .u32 (cell h1 ((bk b0).add 1)) fun n5 =>
      xI .i64 (cell h1 ((bk b0).add 2)) fun n6 =>
      xI .i64 (cell h1 ((bk b0).add 3)) fun n7 =>
      xL (cell h1 ((bk b0).add 4)) fun s2 =>
      C56 n4 n5 n6 n7 s2 h1 fun n8 n9 n10 n11 s3 h3 =>
      nw h3 (.cells ⟨[.int .u32 0, .int .u32 0, .int .i64 0, .int .i64 0, .slice none 0 0]⟩ 39) fun b1 h4 =>
      st h4 (bk b1) (.int .u32 n8) fun h5 =>
      st h5 ((bk b1).add 1) (.int .u32 n9) fun h6 =>
      st h6 ((bk b1).add 2) (.int .i64 n10) fun h7 =>
      st h7 ((bk b1).add 3) (.int .i64 n11) fun h8 =>
      st h8 ((bk b1).add 4) (.slice s3.p s3.n s3.c) fun h9 =>
      nn p0 fun a6 =>
      xL (cell h9 (a6.add 2)) fun s4 =>
      xI .u32 (cell h9 (bk b1)) fun n12 =>
      xI .u32 (cell h9 ((bk b1).add 1)) fun n13 =>
      xI .i64 (cell h9 ((bk b1).add 2)) fun n14 =>
      xI .i64 (cell h9 ((bk b1).add 3)) fun n15 =>
      xL (cell h9 ((bk b1).add 4)) fun s5 =>
      nw h9 (.cells ⟨[.int .u32 n12, .int .u32 n13, .int .i64 n14, .int .i64 n15, .slice s5.p s5.n s5.c]⟩ 39) fun b2 h10 =>
      both (xL (cell h10 (a6.add 2)) fun s6 => Only (.slice s4.p s4.n s4.c) h10 (.slice s6.p s6.n s6.c) h10) <|
      apK Try.prog 39 s4 (.slice (some (bk b2)) 1 1) h10 fun s7 h11 =>
      nn p0 fun a7 =>
      st h11 (a7.add 2) (.slice s7.p s7.n s7.c) fun h12 =>
      K 0 h12
theorem S41 {x0 : Option Addr} {x1_0 : Int} {x1_1 : Int} {x1_2 : Int} {x1_3 : Int} {x1_4 : Sl} {h : Hp} {K : Int → Hp → Prop} (hn : N41 x0 x1_0 x1_1 x1_2 x1_3 x1_4 h K) : C41 x0 x1_0 x1_1 x1_2 x1_3 x1_4 h K := by
  refine calls_of_D Try.func41 (c := B41) rfl (by kernel_rfl) ?_
  refine den_sound hE hm _ (.two .leaf (.two .leaf (.two .leaf (.two .leaf (.two (.two (.ord [0, 1, 2, 3, 4, 5, 6, 7, 8, 9]) .leaf) (.two .leaf (.two (.ord [0, 1, 2, 3, 4, 5, 6, 7, 8, 9, 10]) .leaf))))))) _ _ _ (⟨annOk_leaf, ⟨annOk_leaf, ⟨annOk_leaf, ⟨annOk_leaf, ⟨⟨trivial, annOk_leaf⟩, ⟨annOk_leaf, ⟨trivial, annOk_leaf⟩⟩⟩⟩⟩⟩⟩) ?_
  refine cast ?_ hn
  kernel_rfl
end Go.Proofs.Ytabihmedfopdcaa

set_option linter.unusedVariables false
set_option maxRecDepth 100000
namespace Go.Proofs.Ytabihmedfopdcaa
open Go Go.Hw
/-! ### 43 (*slipway/slipwayref13.Ports).Take -/
noncomputable def B43 : Code := match Try.f43.body with | some c => c | none => .skip
def N43_j0 (x0_p : Option Addr) (x4 : Option Addr) (x6_i : Int) (x26 : Bool) (h : Hp) (K_normal : Hp → Prop) (K_ret : Bool → Hp → Prop) : Prop :=
  bif x26 then
    nn x4 fun a0 =>
    st h a0 (.int .u32 0) fun h0 =>
    st h0 (a0.add 1) (.int .u32 0) fun h1 =>
    st h1 (a0.add 2) (.int .i64 0) fun h2 =>
    st h2 (a0.add 3) (.int .i64 0) fun h3 =>
    st h3 (a0.add 4) (.slice none 0 0) fun h4 =>
    K_ret false h4
  else
    K_normal h
noncomputable def N43_j0_t : Xf := pieceT [(0, .c (.ptr)), (4, .c (.ptr)), (6, .c (.int .i64)), (26, .c (.bool))] (codeAt B43 [1, 1, 0, 1]) fun x h Q => N43_j0 x.1 x.2.1 x.2.2.1 x.2.2.2 h (fun h' => Q .normal (Sg.env [] ()) h') (fun o0 h' => Q .ret (Sg.env [(5, .c (.bool))] o0) h')
theorem N43_j0_ok : Sound Try.prog Try.f43.ntmps N43_j0_t (codeAt B43 [1, 1, 0, 1]) := by
  refine piece_sound (fun e => match e with | .normal => [] | .ret => [5] | _ => []) ?_
  intro x h Q hb
  refine den_sound hE hm _ .leaf _ _ _ (annOk_leaf) ?_
  refine cast ?_ hb
  kernel_rfl
def N43_j1 (x0_p : Option Addr) (x4 : Option Addr) (x6_i : Int) (h : Hp) (K_ret : Bool → Hp → Prop) : Prop :=
  nn x0_p fun a0 =>
  xL (cell h a0) fun s0 =>
  idx x6_i s0.n <|
  nn s0.p fun a1 =>
  xP (cell h (a1.add (x6_i.toNat * 1))) fun p0 =>
  nn p0 fun a2 =>
  xL (cell h (a2.add 2)) fun s1 =>
  idx 0 s1.n <|
  nn s1.p fun a3 =>
  xI .u32 (cell h (a3.add ((0 : Int).toNat * 5))) fun n0 =>
  xI .u32 (cell h ((a3.add ((0 : Int).toNat * 5)).add 1)) fun n1 =>
  xI .i64 (cell h ((a3.add ((0 : Int).toNat * 5)).add 2)) fun n2 =>
  xI .i64 (cell h ((a3.add ((0 : Int).toNat * 5)).add 3)) fun n3 =>
  xL (cell h ((a3.add ((0 : Int).toNat * 5)).add 4)) fun s2 =>
  nw h (.cells ⟨[.int .u32 0, .int .u32 0, .int .i64 0, .int .i64 0, .slice none 0 0]⟩ 39) fun b0 h0 =>
  st h0 (bk b0) (.int .u32 n0) fun h1 =>
  st h1 ((bk b0).add 1) (.int .u32 n1) fun h2 =>
  st h2 ((bk b0).add 2) (.int .i64 n2) fun h3 =>
  st h3 ((bk b0).add 3) (.int .i64 n3) fun h4 =>
  st h4 ((bk b0).add 4) (.slice s2.p s2.n s2.c) fun h5 =>
  nn x0_p fun a4 =>
  xL (cell h5 a4) fun s3 =>
  idx x6_i s3.n <|
  nn s3.p fun a5 =>
  xP (cell h5 (a5.add (x6_i.toNat * 1))) fun p1 =>
  nn x0_p fun a6 =>
  xL (cell h5 a6) fun s4 =>
  idx x6_i s4.n <|
  nn s4.p fun a7 =>
  xP (cell h5 (a7.add (x6_i.toNat * 1))) fun p2 =>
  nn p2 fun a8 =>
  xL (cell h5 (a8.add 2)) fun s5 =>
  bd 1 s5.n fun k0 =>
  nn p1 fun a9 =>
  st h5 (a9.add 2) (.slice (sadr s5.p s5.c k0 5) (s5.n - k0) (s5.c - k0)) fun h6 =>
  xI .u32 (cell h6 (bk b0)) fun n4 =>
  xI .u32 (cell h6 ((bk b0).add 1)) fun n5 =>
  xI .i64 (cell h6 ((bk b0).add 2)) fun n6 =>
  xI .i64 (cell h6 ((bk b0).add 3)) fun n7 =>
  xL (cell h6 ((bk b0).add 4)) fun s6 =>
  nn x4 fun a10 =>
  st h6 a10 (.int .u32 n4) fun h7 =>
  st h7 (a10.add 1) (.int .u32 n5) fun h8 =>
  st h8 (a10.add 2) (.int .i64 n6) fun h9 =>
  st h9 (a10.add 3) (.int .i64 n7) fun h10 =>
  st h10 (a10.add 4) (.slice s6.p s6.n s6.c) fun h11 =>
  K_ret true h11
noncomputable def N43_j1_t : Xf := pieceT [(0, .c (.ptr)), (4, .c (.ptr)), (6, .c (.int .i64))] (codeAt B43 [1, 1, 1]) fun x h Q => N43_j1 x.1 x.2.1 x.2.2 h (fun o0 h' => Q .ret (Sg.env [(5, .c (.bool))] o0) h')
theorem N43_j1_ok : Sound Try.prog Try.f43.ntmps N43_j1_t (codeAt B43 [1, 1, 1]) := by
  refine piece_sound (fun e => match e with | .ret => [5] | _ => []) ?_
  intro x h Q hb
  refine den_sound hE hm _ (.two .leaf (.two (.ord [0, 1, 2, 3, 4, 5, 6, 7, 8, 9, 10, 11, 12, 13, 14, 15, 16, 17, 18, 19, 20]) .leaf)) _ _ _ (⟨annOk_leaf, ⟨trivial, annOk_leaf⟩⟩) ?_
  refine cast ?_ hb
  kernel_rfl
def N43 (x0 : Option Addr) (x1 : Int) (h : Hp) (K : Int → Int → Int → Int → Sl → Bool → Hp → Prop) : Prop :=
  nw h (.cells ⟨[.int .u32 0, .int .u32 0, .int .i64 0, .int .i64 0, .slice none 0 0]⟩ 39) fun b0 h0 =>
  C53 x0 x1 h0 fun n0 h1 =>
  bif (decide (n0 < 0)) then
    N43_j0 x0 (some (bk b0)) n0 true h1
      (fun h2 =>
        N43_j1 x0 (some (bk b0)) n0 h2
          (fun b1 h3 =>
            xI .u32 (cell h3 (bk b0)) fun n1 =>
            xI .u32 (cell h3 ((bk b0).add 1)) fun n2 =>
            xI .i64 (cell h3 ((bk b0).add 2)) fun n3 =>
            xI .i64 (cell h3 ((bk b0).add 3)) fun n4 =>
            xL (cell h3 ((bk b0).add 4)) fun s0 =>
            K n1 n2 n3 n4 s0 b1 h3))
      (fun b2 h4 =>
        xI .u32 (cell h4 (bk b0)) fun n5 =>
        xI .u32 (cell h4 ((bk b0).add 1)) fun n6 =>
        xI .i64 (cell h4 ((bk b0).add 2)) fun n7 =>
        xI .i64 (cell h4 ((bk b0).add 3)) fun n8 =>
        xL (cell h4 ((bk b0).add 4)) fun s1 =>
        K n5 n6 n7 n8 s1 b2 h4)
  else
    nn x0 fun a0 =>
    xL (cell h1 a0) fun s2 =>
    idx n0 s2.n <|
    nn s2.p fun a1 =>
    xP (cell h1 (a1.add (n0.toNat * 1))) fun p0 =>
    nn p0 fun a2 =>
    xL (cell h1 (a2.add 2)) fun s3 =>
    N43_j0 x0 (some (bk b0)) n0 (((s3.n : Nat) : Int) == 0) h1
      (fun h5 =>
        N43_j1 x0 (some (bk b0)) n0 h5
          (fun b3 h6 =>
            xI .u32 (cell h6 (bk b0)) fun n9 =>
            xI .u32 (cell h6 ((bk b0).add 1)) fun n10 =>
            xI .i64 (cell h6 ((bk b0).add 2)) fun n11 =>
            xI .i64 (cell h6 ((bk b0).add 3)) fun n12 =>
            xL (cell h6 ((bk b0).add 4)) fun s4 =>
            K n9 n10 n11 n12 s4 b3 h6))
      (fun b4 h7 =>
        xI .u32 (cell h7 (bk b0)) fun n13 =>
        xI .u32 (cell h7 ((bk b0).add 1)) fun n14 =>
        xI .i64 (cell h7 ((bk b0).add 2)) fun n15 =>
        xI .i64 (cell h7 ((bk b0).add 3)) fun n16 =>
        xL (cell h7 ((bk b0).add 4)) fun s5 =>
        K n13 n14 n15 n16 s5 b4 h7)
theorem S43 {x0 : Option Addr} {x1 : Int} {h : Hp} {K : Int → Int → Int → Int → Sl → Bool → Hp → Prop} (hn : N43 x0 x1 h K) : C43 x0 x1 h K := by
  refine calls_of_M Try.func43 (c := B43) rfl (by kernel_rfl) ?_
  refine den_sound hE hm _ (.two .leaf (.two .leaf (.two (.two .leaf (.xf N43_j0_t)) (.xf N43_j1_t)))) _ _ _ (⟨annOk_leaf, ⟨annOk_leaf, ⟨⟨annOk_leaf, N43_j0_ok⟩, N43_j1_ok⟩⟩⟩) ?_
  refine cast ?_ hn
  kernel_rfl
end Go.Proofs.Ytabihmedfopdcaa

set_option linter.unusedVariables false
set_option maxRecDepth 100000
namespace Go.Proofs.Ytabihmedfopdcaa
open Go Go.Hw
/-! ### 46 (*slipway/slipwayref13.Ports).Look -/
noncomputable def B46 : Code := match Try.f46.body with | some c => c | none => .skip
def N46_l0_b (x0_p : Option Addr) (Φ : Sl → Int → Hp → Prop) (x3_out : Sl) (x4_i : Int) (h : Hp) (K_e0 : Sl → Hp → Prop) : Prop :=
  nn x0_p fun a0 =>
  xL (cell h a0) fun s0 =>
  bif (decide (x4_i < ((s0.n : Nat) : Int))) then
    nn x0_p fun a1 =>
    xL (cell h a1) fun s1 =>
    idx x4_i s1.n <|
    nn s1.p fun a2 =>
    xP (cell h (a2.add (x4_i.toNat * 1))) fun p0 =>
    nn p0 fun a3 =>
    xI .i64 (cell h a3) fun n0 =>
    nn x0_p fun a4 =>
    xL (cell h a4) fun s2 =>
    idx x4_i s2.n <|
    nn s2.p fun a5 =>
    xP (cell h (a5.add (x4_i.toNat * 1))) fun p1 =>
    nn p1 fun a6 =>
    xL (cell h (a6.add 2)) fun s3 =>
    nn x0_p fun a7 =>
    xL (cell h a7) fun s4 =>
    idx x4_i s4.n <|
    nn s4.p fun a8 =>
    xP (cell h (a8.add (x4_i.toNat * 1))) fun p2 =>
    nn p2 fun a9 =>
    xI .i64 (cell h (a9.add 1)) fun n1 =>
    nw h (.cells ⟨[.int .i64 n0, .int .i64 ((s3.n : Nat) : Int), .int .i64 n1]⟩ 72) fun b0 h0 =>
    apK Try.prog 72 x3_out (.slice (some (bk b0)) 1 1) h0 fun s5 h1 =>
    Φ s5 (IntKind.wrap .i64 (x4_i + 1)) h1
  else
    K_e0 x3_out h
def N46_l0_B (x0_p : Option Addr) (K_e0 : Sl → Hp → Prop) (s : Sg.T [(3, .c (.slice)), (4, .c (.int .i64))]) (h : Hp) (Φ : Sg.T [(3, .c (.slice)), (4, .c (.int .i64))] → Hp → Prop) : Prop :=
  N46_l0_b x0_p (fun x3_out x4_i h => Φ (x3_out, x4_i) h) s.1 s.2 h K_e0
def N46_l0 (x0_p : Option Addr) (x3_out : Sl) (x4_i : Int) (h : Hp) (K_e0 : Sl → Hp → Prop) : Prop :=
  loopP (N46_l0_B x0_p K_e0) (x3_out, x4_i) h
noncomputable def N46_l0_t : Xf := loopT [(0, .c (.ptr))] [(3, .c (.slice)), (4, .c (.int .i64))] (codeAt B46 [1, 1, 0, 1, 0, 0]) fun F Q => N46_l0_B F (fun o0 h' => Q (.exit 0) (Sg.env [(3, .c (.slice))] o0) h')
theorem N46_l0_ok : Sound Try.prog Try.f46.ntmps N46_l0_t (codeAt B46 [1, 1, 0, 1, 0]) := by
  refine loop_sound (fun e => match e with | .exit 0 => [3] | _ => []) (by kernel_rfl) ?_
  intro F Q s h Φ hb
  refine den_sound hE hm _ (.two .leaf (.two (.one (.ord [0, 1, 2, 3, 4, 5, 6, 7, 8, 9, 10, 11, 12, 13, 14, 15, 16, 17, 18, 19, 20, 21, 22, 23, 24, 25, 26, 27, 28, 29, 30, 31, 32, 33, 34, 35])) .leaf)) _ _ _ (⟨annOk_leaf, ⟨trivial, annOk_leaf⟩⟩) ?_
  refine cast ?_ hb
  kernel_rfl
def N46 (x0 : Option Addr) (h : Hp) (K : Sl → Hp → Prop) : Prop :=
  N46_l0 x0 ⟨none, 0, 0⟩ 0 h
    (fun s0 h0 =>
      K s0 h0)
theorem S46 {x0 : Option Addr} {h : Hp} {K : Sl → Hp → Prop} (hn : N46 x0 h K) : C46 x0 h K := by
  refine calls_of_D Try.func46 (c := B46) rfl (by kernel_rfl) ?_
  refine den_sound hE hm _ (.two .leaf (.two .leaf (.two (.two .leaf (.one (.xf N46_l0_t))) .leaf))) _ _ _ (⟨annOk_leaf, ⟨annOk_leaf, ⟨⟨annOk_leaf, N46_l0_ok⟩, annOk_leaf⟩⟩⟩) ?_
  refine cast ?_ hn
  kernel_rfl
end Go.Proofs.Ytabihmedfopdcaa

set_option linter.unusedVariables false
set_option maxRecDepth 100000
namespace Go.Proofs.Ytabihmedfopdcaa
open Go Go.Hw
/-! ### 56 slipway/slipwayref13.Copied -/
noncomputable def B56 : Code := match Try.f56.body with | some c => c | none => .skip
def N56 (x0_0 : Int) (x0_1 : Int) (x0_2 : Int) (x0_3 : Int) (x0_4 : Sl) (h : Hp) (K : Int → Int → Int → Int → Sl → Hp → Prop) : Prop :=
  nw h (.cells ⟨[.int .u32 x0_0, .int .u32 x0_1, .int .i64 x0_2, .int .i64 x0_3, .slice x0_4.p x0_4.n x0_4.c]⟩ 39) fun b0 h0 =>
  nw h0 (.cells ⟨[.int .u32 0, .int .u32 0, .int .i64 0, .int .i64 0, .slice none 0 0]⟩ 39) fun b1 h1 =>
  xL (cell h1 ((bk b0).add 4)) fun s0 =>
  b2s h1 s0.p s0.n fun s1 =>
  s2b 5 s1 h1 fun s2 h2 =>
  st h2 ((bk b0).add 4) (.slice s2.p s2.n s2.c) fun h3 =>
  xI .u32 (cell h3 (bk b0)) fun n0 =>
  xI .u32 (cell h3 ((bk b0).add 1)) fun n1 =>
  xI .i64 (cell h3 ((bk b0).add 2)) fun n2 =>
  xI .i64 (cell h3 ((bk b0).add 3)) fun n3 =>
  xL (cell h3 ((bk b0).add 4)) fun s3 =>
  st h3 (bk b1) (.int .u32 n0) fun h4 =>
  st h4 ((bk b1).add 1) (.int .u32 n1) fun h5 =>
  st h5 ((bk b1).add 2) (.int .i64 n2) fun h6 =>
  st h6 ((bk b1).add 3) (.int .i64 n3) fun h7 =>
  st h7 ((bk b1).add 4) (.slice s3.p s3.n s3.c) fun h8 =>
  xI .u32 (cell h8 (bk b1)) fun n4 =>
  xI .u32 (cell h8 ((bk b1).add 1)) fun n5 =>
  xI .i64 (cell h8 ((bk b1).add 2)) fun n6 =>
  xI .i64 (cell h8 ((bk b1).add 3)) fun n7 =>
  xL (cell h8 ((bk b1).add 4)) fun s4 =>
  K n4 n5 n6 n7 s4 h8
theorem S56 {x0_0 : Int} {x0_1 : Int} {x0_2 : Int} {x0_3 : Int} {x0_4 : Sl} {h : Hp} {K : Int → Int → Int → Int → Sl → Hp → Prop} (hn : N56 x0_0 x0_1 x0_2 x0_3 x0_4 h K) : C56 x0_0 x0_1 x0_2 x0_3 x0_4 h K := by
  refine calls_of_M Try.func56 (c := B56) rfl (by kernel_rfl) ?_
  refine den_sound hE hm _ .leaf _ _ _ (annOk_leaf) ?_
  refine cast ?_ hn
  kernel_rfl
end Go.Proofs.Ytabihmedfopdcaa

set_option linter.unusedVariables false
set_option maxRecDepth 100000
namespace Go.Proofs.Ytabihmedfopdcaa
open Go Go.Hw
/-! ### 44 slipway/slipwayref13.Same -/
noncomputable def B44 : Code := match Try.f44.body with | some c => c | none => .skip
def N44 (x0_0 : Int) (x0_1 : Int) (x0_2 : Int) (x0_3 : Int) (x0_4 : Sl) (x1_0 : Int) (x1_1 : Int) (x1_2 : Int) (x1_3 : Int) (x1_4 : Sl) (h : Hp) (K : Bool → Hp → Prop) : Prop :=
  nw h (.cells ⟨[.int .u32 x0_0, .int .u32 x0_1, .int .i64 x0_2, .int .i64 x0_3, .slice x0_4.p x0_4.n x0_4.c]⟩ 39) fun b0 h0 =>
  nw h0 (.cells ⟨[.int .u32 x1_0, .int .u32 x1_1, .int .i64 x1_2, .int .i64 x1_3, .slice x1_4.p x1_4.n x1_4.c]⟩ 39) fun b1 h1 =>
  xI .u32 (cell h1 (bk b0)) fun n0 =>
  xI .u32 (cell h1 (bk b1)) fun n1 =>
  bif (n0 == n1) then
    xI .u32 (cell h1 ((bk b0).add 1)) fun n2 =>
    xI .u32 (cell h1 ((bk b1).add 1)) fun n3 =>
    bif (n2 == n3) then
      xI .i64 (cell h1 ((bk b0).add 2)) fun n4 =>
      xI .i64 (cell h1 ((bk b1).add 2)) fun n5 =>
      bif (n4 == n5) then
        xI .i64 (cell h1 ((bk b0).add 3)) fun n6 =>
        xI .i64 (cell h1 ((bk b1).add 3)) fun n7 =>
        bif (n6 == n7) then
          xL (cell h1 ((bk b0).add 4)) fun s0 =>
          b2s h1 s0.p s0.n fun s1 =>
          xL (cell h1 ((bk b1).add 4)) fun s2 =>
          b2s h1 s2.p s2.n fun s3 =>
          K (s1.toList == s3.toList) h1
        else
          K false h1
      else
        K false h1
    else
      K false h1
  else
    K false h1
theorem S44 {x0_0 : Int} {x0_1 : Int} {x0_2 : Int} {x0_3 : Int} {x0_4 : Sl} {x1_0 : Int} {x1_1 : Int} {x1_2 : Int} {x1_3 : Int} {x1_4 : Sl} {h : Hp} {K : Bool → Hp → Prop} (hn : N44 x0_0 x0_1 x0_2 x0_3 x0_4 x1_0 x1_1 x1_2 x1_3 x1_4 h K) : C44 x0_0 x0_1 x0_2 x0_3 x0_4 x1_0 x1_1 x1_2 x1_3 x1_4 h K := by
  refine calls_of_D Try.func44 (c := B44) rfl (by kernel_rfl) ?_
  refine den_sound hE hm _ .leaf _ _ _ (annOk_leaf) ?_
  refine cast ?_ hn
  kernel_rfl
end Go.Proofs.Ytabihmedfopdcaa

set_option linter.unusedVariables false
set_option maxRecDepth 100000
namespace Go.Proofs.Ytabihmedfopdcaa
open Go Go.Hw
/-! ### 23 slipway/slipwayref13.SameStates -/
noncomputable def B23 : Code := match Try.f23.body with | some c => c | none => .skip
def N23_l0_b (x0_a : Sl) (x1_b : Sl) (Φ : Int → Hp → Prop) (x5_i : Int) (h : Hp) (K_e0 : Hp → Prop) (K_ret : Bool → Hp → Prop) : Prop :=
  bif (decide (x5_i < ((x0_a.n : Nat) : Int))) then
    idx x5_i x0_a.n <|
    nn x0_a.p fun a0 =>
    xI .i64 (cell h (a0.add (x5_i.toNat * 3))) fun n0 =>
    xI .i64 (cell h ((a0.add (x5_i.toNat * 3)).add 1)) fun n1 =>
    xI .i64 (cell h ((a0.add (x5_i.toNat * 3)).add 2)) fun n2 =>
    idx x5_i x1_b.n <|
    nn x1_b.p fun a1 =>
    xI .i64 (cell h (a1.add (x5_i.toNat * 3))) fun n3 =>
    xI .i64 (cell h ((a1.add (x5_i.toNat * 3)).add 1)) fun n4 =>
    xI .i64 (cell h ((a1.add (x5_i.toNat * 3)).add 2)) fun n5 =>
    bif (!((n0 == n3) && ((n1 == n4) && ((n2 == n5) && true)))) then
      K_ret false h
    else
      Φ (IntKind.wrap .i64 (x5_i + 1)) h
  else
    K_e0 h
def N23_l0_B (x0_a : Sl) (x1_b : Sl) (K_e0 : Hp → Prop) (K_ret : Bool → Hp → Prop) (s : Sg.T [(5, .c (.int .i64))]) (h : Hp) (Φ : Sg.T [(5, .c (.int .i64))] → Hp → Prop) : Prop :=
  N23_l0_b x0_a x1_b (fun x5_i h => Φ x5_i h) s h K_e0 K_ret
def N23_l0 (x0_a : Sl) (x1_b : Sl) (x5_i : Int) (h : Hp) (K_e0 : Hp → Prop) (K_ret : Bool → Hp → Prop) : Prop :=
  loopP (N23_l0_B x0_a x1_b K_e0 K_ret) x5_i h
noncomputable def N23_l0_t : Xf := loopT [(0, .c (.slice)), (1, .c (.slice))] [(5, .c (.int .i64))] (codeAt B23 [1, 1, 0, 1, 0, 0]) fun F Q => N23_l0_B F.1 F.2 (fun h' => Q (.exit 0) (Sg.env [] ()) h') (fun o0 h' => Q .ret (Sg.env [(4, .c (.bool))] o0) h')
theorem N23_l0_ok : Sound Try.prog Try.f23.ntmps N23_l0_t (codeAt B23 [1, 1, 0, 1, 0]) := by
  refine loop_sound (fun e => match e with | .exit 0 => [] | .ret => [4] | _ => []) (by kernel_rfl) ?_
  intro F Q s h Φ hb
  refine den_sound hE hm _ (.two .leaf (.two (.one (.two (.ord [0, 1, 2, 3, 4, 5, 6, 7, 8]) .leaf)) .leaf)) _ _ _ (⟨annOk_leaf, ⟨⟨trivial, annOk_leaf⟩, annOk_leaf⟩⟩) ?_
  refine cast ?_ hb
  kernel_rfl
def N23 (x0 : Sl) (x1 : Sl) (h : Hp) (K : Bool → Hp → Prop) : Prop :=
  bif (((x0.n : Nat) : Int) != ((x1.n : Nat) : Int)) then
    K false h
  else
    N23_l0 x0 x1 0 h
      (fun h0 =>
        K true h0)
      (fun b0 h1 =>
        K b0 h1)
theorem S23 {x0 : Sl} {x1 : Sl} {h : Hp} {K : Bool → Hp → Prop} (hn : N23 x0 x1 h K) : C23 x0 x1 h K := by
  refine calls_of_D Try.func23 (c := B23) rfl (by kernel_rfl) ?_
  refine den_sound hE hm _ (.two .leaf (.two .leaf (.two (.two .leaf (.one (.xf N23_l0_t))) .leaf))) _ _ _ (⟨annOk_leaf, ⟨annOk_leaf, ⟨⟨annOk_leaf, N23_l0_ok⟩, annOk_leaf⟩⟩⟩) ?_
  refine cast ?_ hn
  kernel_rfl
end Go.Proofs.Ytabihmedfopdcaa

/-
  Ports: the document's table and its calls.
-/
set_option linter.unusedSimpArgs false
set_option linter.unusedVariables false
set_option maxRecDepth 20000
namespace Go.Proofs.Ytabihmedfopdcaa
open Go Go.Hw

def datB (x : Qd) : Asn := Hw.byt 5 x.2 x.1.data
def rportA (q : Nat) (p : PS) : Asn := exs fun z : Sl × List Qd => star [row q 112 [.int .i64 p.n, .int .i64 p.dr, z.1.v], tailA 39 5 z.1 (dgs z.2), star (z.2.map datB), pur (z.2.map Prod.fst = p.l)]
def ptrL (E : List (Nat × PS)) : List Value := E.map fun e => .pointer (some (bk e.1))
theorem ptrL_plain {E : List (Nat × PS)} : ∀ v ∈ ptrL E, plain v = true := by
  intro v hv
  obtain ⟨n, _, rfl⟩ := List.mem_map.1 hv
  rfl
def rpA (e : Nat × PS) : Asn := rportA e.1 e.2
def refP (R : Nat) (t : Tb) : Asn := exs fun x : Sl × List (Nat × PS) => star [row R 96 [x.1.v, .int .i64 t.most, .int .i64 t.depth], Hw.own 110 1 x.1 (ptrL x.2), star (x.2.map rpA), pur (x.2.map Prod.snd = t.ps)]
theorem refP_open {L : List Asn} {R : Nat} {t : Tb} {h : Hp} (hs : Sat (L ++ [refP R t]) h) :
    ∃ s E, Sat (L ++ [row R 96 [s.v, .int .i64 t.most, .int .i64 t.depth], Hw.own 110 1 s (ptrL E), star (E.map rpA)]) h ∧ E.map Prod.snd = t.ps ∧ s.n = t.ps.length := by
  obtain ⟨⟨s, E⟩, hs⟩ := unexP hs
  have hs : Sat (L ++ [star [row R 96 [s.v, .int .i64 t.most, .int .i64 t.depth], Hw.own 110 1 s (ptrL E), star (E.map rpA), pur (E.map Prod.snd = t.ps)]]) h := hs
  have hs := hs.open
  refine ⟨s, E, hs.sel [0, 1, 2] (by decide) rfl, hs.pur 3 rfl, ?_⟩
  have h1 := (hs.own 1 rfl).1
  rw [← hs.pur 3 rfl]
  simp [ptrL] at h1 ⊢; exact h1.symm
theorem refP_shut {L : List Asn} {R : Nat} {t : Tb} {s : Sl} {E : List (Nat × PS)} {h : Hp} (hs : Sat (L ++ [row R 96 [s.v, .int .i64 t.most, .int .i64 t.depth], Hw.own 110 1 s (ptrL E), star (E.map rpA)]) h) (hp : E.map Prod.snd = t.ps) : Sat (L ++ [refP R t]) h := by
  have h1 : Sat (L ++ [row R 96 [s.v, .int .i64 t.most, .int .i64 t.depth], Hw.own 110 1 s (ptrL E), star (E.map rpA), pur (E.map Prod.snd = t.ps)]) h := Sat.addPur hs hp
  have h2 := h1.close
  unfold refP
  exact exP (s, E) h2
theorem rport_open {L : List Asn} {q : Nat} {p : PS} {h : Hp} (hs : Sat (L ++ [rportA q p]) h) :
    ∃ z Q, Sat (L ++ [row q 112 [.int .i64 p.n, .int .i64 p.dr, z.v], tailA 39 5 z (dgs Q), star (Q.map datB)]) h ∧ Q.map Prod.fst = p.l ∧ z.n = p.l.length := by
  obtain ⟨⟨z, Q⟩, hs⟩ := unexP hs
  have hs : Sat (L ++ [star [row q 112 [.int .i64 p.n, .int .i64 p.dr, z.v], tailA 39 5 z (dgs Q), star (Q.map datB), pur (Q.map Prod.fst = p.l)]]) h := hs
  have hs := hs.open
  refine ⟨z, Q, hs.sel [0, 1, 2] (by decide) rfl, hs.pur 3 rfl, ?_⟩
  have h1 := (hs.tail 1 rfl).1
  rw [dgs_len] at h1
  rw [← hs.pur 3 rfl, List.length_map]; omega
theorem rport_shut {L : List Asn} {q : Nat} {p : PS} {z : Sl} {Q : List Qd} {h : Hp} (hs : Sat (L ++ [row q 112 [.int .i64 p.n, .int .i64 p.dr, z.v], tailA 39 5 z (dgs Q), star (Q.map datB)]) h) (hp : Q.map Prod.fst = p.l) : Sat (L ++ [rportA q p]) h := by
  have h1 : Sat (L ++ [row q 112 [.int .i64 p.n, .int .i64 p.dr, z.v], tailA 39 5 z (dgs Q), star (Q.map datB), pur (Q.map Prod.fst = p.l)]) h := Sat.addPur hs hp
  have h2 := h1.close
  unfold rportA
  exact exP (z, Q) h2
/-- the row of one of them -/
theorem rp_at {L : List Asn} {E : List (Nat × PS)} {h : Hp} (hs : Sat (L ++ [star (E.map rpA)]) h) {i : Nat} {e : Nat × PS} (he : E[i]? = some e) : ∃ z : Sl, Blk h e.1 112 [.int .i64 e.2.n, .int .i64 e.2.dr, z.v] ∧ z.n = e.2.l.length := by
  have h1 := Sat.csa (A := [star ((E.map rpA).eraseIdx i)]) (B := [rpA e]) (hs.out i (by rw [List.getElem?_map, he]; rfl))
  obtain ⟨z, Q, h2, _, h3⟩ := rport_open h1
  exact ⟨z, h2.blk 0 rfl, h3⟩
/-- the first of a number; -1 -/
def idxP (n : Int) : List PS → Int
  | [] => -1
  | p :: l => if p.n = n then 0 else if idxP n l < 0 then -1 else idxP n l + 1
theorem idxP_case (n : Int) : ∀ ps : List PS, (idxP n ps = -1 ∧ ∀ p ∈ ps, p.n ≠ n) ∨ ∃ (i : Nat) (p : PS), idxP n ps = i ∧ ps[i]? = some p ∧ p.n = n ∧ ∀ k q, k < i → ps[k]? = some q → q.n ≠ n := by
  intro ps
  induction ps with
  | nil => exact .inl ⟨rfl, by simp⟩
  | cons p ps ih =>
    by_cases e : p.n = n
    · exact .inr ⟨0, p, by simp [idxP, e], rfl, e, fun k q hk => by omega⟩
    · rcases ih with ⟨h1, h2⟩ | ⟨i, q, h1, h2, h3, h4⟩
      · refine .inl ⟨by simp [idxP, e, h1], fun x hx => ?_⟩
        rcases List.mem_cons.1 hx with rfl | hx
        · exact e
        · exact h2 x hx
      · refine .inr ⟨i + 1, q, ?_, by simpa using h2, h3, ?_⟩
        · simp only [idxP, e, if_false, h1]
          rw [if_neg (by omega)]; omega
        · intro k x hk hx
          cases k with
          | zero => simp at hx; subst hx; exact e
          | succ k => exact h4 k x (by omega) (by simpa using hx)
theorem idxP_find {n : Int} {ps : List PS} (hn : NodN ps) : (idxP n ps = -1 ∧ findP n ps = none) ∨ ∃ (i : Nat) (p : PS), idxP n ps = i ∧ ps[i]? = some p ∧ p.n = n ∧ findP n ps = some p := by
  rcases idxP_case n ps with ⟨h1, h2⟩ | ⟨i, p, h1, h2, h3, _⟩
  · refine .inl ⟨h1, ?_⟩
    cases hf : findP n ps with
    | none => rfl
    | some p => obtain ⟨q1, q2⟩ := findP_some hf; exact absurd q2 (h2 p q1)
  · exact .inr ⟨i, p, h1, h2, h3, findP_of hn (List.mem_of_getElem? h2) h3⟩
theorem get_E {E : List (Nat × PS)} {ps : List PS} (hE : E.map Prod.snd = ps) {i : Nat} {p : PS} (hp : ps[i]? = some p) : ∃ q, E[i]? = some (q, p) := by
  rw [← hE, List.getElem?_map] at hp
  obtain ⟨⟨q, p'⟩, h1, rfl⟩ := Option.map_eq_some_iff.1 hp
  exact ⟨q, h1⟩
theorem c_at {L : List Asn} {R : Nat} {t : Tb} {n : Int} {h : Hp} {K : Int → Hp → Prop} (hs : Sat (L ++ [refP R t]) h) (hl : t.ps.length ≤ 16) (hK : K (idxP n t.ps) h) : C53 (some (bk R)) n h K := by
  apply S53; unfold N53 N53_l0
  obtain ⟨s, E, hs1, hE, sn⟩ := refP_open hs
  have hEl : E.length = t.ps.length := by rw [← hE, List.length_map]
  refine loopP_inv (fun (x : Int) hc => hc = h ∧ ∃ i : Nat, x = i ∧ i ≤ t.ps.length ∧ ∀ k q, k < i → t.ps[k]? = some q → q.n ≠ n) (fun x _ => t.ps.length - x.toNat) ?_ ⟨rfl, 0, rfl, Nat.zero_le _, fun k q hk => by omega⟩
  rintro x hc ⟨rfl, i, rfl, hi, hb⟩
  unfold N53_l0_B N53_l0_b
  simp only [nn_some']
  refine hs1.lL 0 rfl rfl ?_
  by_cases hlt : i < t.ps.length
  · have : decide ((i : Int) < ((((⟨s.p, s.n, s.c⟩ : Sl).n : Nat)) : Int)) = true := by show decide ((i : Int) < (s.n : Int)) = true; simp; omega
    rw [this, cond_true]
    have hp : t.ps[i]? = some t.ps[i] := List.getElem?_eq_getElem hlt
    generalize t.ps[i] = p at hp
    obtain ⟨q, he⟩ := get_E hE hp
    refine hs1.lL 0 rfl rfl ?_
    refine idx_of (by omega) (by show (i : Int) < (s.n : Int); omega) ?_
    simp only [Int.toNat_natCast, Nat.mul_one]
    refine hs1.oP 1 rfl (t := some (bk q)) (by simp [ptrL, he]) ?_
    simp only [nn_some']
    obtain ⟨z, hb2, _⟩ := rp_at (Sat.csa (A := [row R 96 [s.v, .int .i64 t.most, .int .i64 t.depth], Hw.own 110 1 s (ptrL E)]) hs1) he
    rw [hb2.cell]
    simp only [List.getElem?_cons_zero, xI_some]
    by_cases e : p.n = n
    · have hq : (p.n == n) = true := by simpa using e
      rw [hq, cond_true]
      rcases idxP_case n t.ps with ⟨_, h2⟩ | ⟨j, p', h1, h2, h3, h4⟩
      · exact absurd e (h2 p (List.mem_of_getElem? hp))
      · have : j = i := by
          rcases Nat.lt_trichotomy j i with hh | hh | hh
          · exact absurd h3 (hb j p' hh h2)
          · exact hh
          · exact absurd e (h4 i p hh hp)
        subst this
        rw [h1] at hK; exact hK
    · have hq : (p.n == n) = false := by simpa using e
      rw [hq, cond_false, nat_succ64 (by omega)]
      refine ⟨⟨trivial, i + 1, rfl, hlt, ?_⟩, by omega⟩
      intro k x hk hx
      rcases Nat.lt_or_ge k i with hh | hh
      · exact hb k x hh hx
      · have : k = i := by omega
        subst this
        rw [hp] at hx; cases hx; exact e
  · have : decide ((i : Int) < ((((⟨s.p, s.n, s.c⟩ : Sl).n : Nat)) : Int)) = false := by show decide ((i : Int) < (s.n : Int)) = false; simp; omega
    rw [this, cond_false]
    rcases idxP_case n t.ps with ⟨h1, _⟩ | ⟨j, p', h1, h2, h3, _⟩
    · rw [h1] at hK; exact hK
    · have := lt_of_get h2
      exact absurd h3 (hb j p' (by omega) h2)

/-! a port more -/
def addE (q : Nat) (n : Int) : List (Nat × PS) → List (Nat × PS)
  | [] => [(q, newP n)]
  | e :: l => if e.2.n > n then (q, newP n) :: e :: l else e :: addE q n l
theorem addE_snd (q : Nat) (n : Int) : ∀ E : List (Nat × PS), (addE q n E).map Prod.snd = addP n (E.map Prod.snd)
  | [] => rfl
  | e :: l => by
    unfold addE
    simp only [List.map_cons, addP]
    split
    · rfl
    · rw [List.map_cons, addE_snd q n l]
theorem addE_perm (q : Nat) (n : Int) : ∀ E : List (Nat × PS), (addE q n E).Perm (E ++ [(q, newP n)])
  | [] => List.Perm.refl _
  | e :: l => by
    unfold addE
    split
    · exact (List.perm_append_comm (l₁ := [(q, newP n)]) (l₂ := e :: l))
    · exact (addE_perm q n l).cons e
theorem addE_none {q : Nat} {n : Int} : ∀ {E : List (Nat × PS)}, (∀ e ∈ E, ¬ e.2.n > n) → addE q n E = E ++ [(q, newP n)]
  | [], _ => rfl
  | e :: l, h => by
    unfold addE
    rw [if_neg (h e (List.mem_cons_self ..)), addE_none fun x hx => h x (List.mem_cons_of_mem _ hx)]; rfl
theorem addE_at {q : Nat} {n : Int} : ∀ {E : List (Nat × PS)} {j : Nat} {e : Nat × PS}, E[j]? = some e → e.2.n > n → (∀ k x, k < j → E[k]? = some x → ¬ x.2.n > n) → addE q n E = E.take j ++ (q, newP n) :: E.drop j
  | [], j, e, h, _, _ => by simp at h
  | x :: l, 0, e, h, he, _ => by simp at h; subst h; unfold addE; rw [if_pos he]; rfl
  | x :: l, j + 1, e, h, he, hb => by
    unfold addE
    rw [if_neg (hb 0 x (by omega) rfl), addE_at (E := l) (j := j) (by simpa using h) he fun k y hk hy => hb (k + 1) y (by omega) (by simpa using hy)]
    rfl
theorem c_add {L : List Asn} {R : Nat} {t : Tb} {n : Int} {h : Hp} {K : Hp → Prop} (hs : Sat (L ++ [refP R t]) h) (hl : t.ps.length ≤ 16) (hK : ∀ h', Sat (L ++ [refP R { t with ps := addP n t.ps }]) h' → K h') : C54 (some (bk R)) n h K := by
  apply S54; unfold N54
  obtain ⟨s, E, hs1, hE, sn⟩ := refP_open hs
  have hEl : E.length = t.ps.length := by rw [← hE, List.length_map]
  -- the end
  have fin : ∀ (q : Nat) (out : Sl) (hh : Hp), Sat (L ++ [row R 96 [s.v, .int .i64 t.most, .int .i64 t.depth], Hw.own 110 1 s (ptrL E), star (E.map rpA), Hw.own 110 1 out (ptrL (addE q n E)), rpA (q, newP n)]) hh → N54_j3 (some (bk R)) out hh fun h4 => K h4 := by
    intro q out hh hs2
    unfold N54_j3
    simp only [nn_some']
    refine hs2.st 0 rfl (by simp) rfl ?_
    intro h4 hs3
    have hs3 : Sat (L ++ [row R 96 [out.v, .int .i64 t.most, .int .i64 t.depth], Hw.own 110 1 s (ptrL E), star (E.map rpA), Hw.own 110 1 out (ptrL (addE q n E)), rpA (q, newP n)]) h4 := hs3
    have g1 : Sat (L ++ ([row R 96 [out.v, .int .i64 t.most, .int .i64 t.depth], Hw.own 110 1 out (ptrL (addE q n E))] ++ [star (E.map rpA), rpA (q, newP n)])) h4 := hs3.sel [0, 3, 2, 4] (by decide) rfl
    have g2 := (Sat.csa g1).into
    have g3 : Sat ((L ++ [row R 96 [out.v, .int .i64 t.most, .int .i64 t.depth], Hw.own 110 1 out (ptrL (addE q n E))]) ++ [star ((addE q n E).map rpA)]) h4 := g2.starPerm (by
      have := ((addE_perm q n E).symm).map rpA
      simpa using this)
    refine hK h4 (refP_shut (t := { t with ps := addP n t.ps }) (Sat.asc g3) ?_)
    rw [addE_snd, hE]
  have hs2 : Sat (L ++ [row R 96 [s.v, .int .i64 t.most, .int .i64 t.depth], Hw.own 110 1 s (ptrL E), star (E.map rpA), Hw.own 110 1 ⟨none, 0, 0⟩ (ptrL [])]) h := hs1.addNil 110 1
  unfold N54_l0
  refine loopP_inv (fun (x : Sl × Bool × Int) hc => ∃ i : Nat, x.2.2 = i ∧ i ≤ E.length ∧
      ((x.2.1 = false ∧ (∀ k y, k < i → E[k]? = some y → ¬ y.2.n > n) ∧ Sat (L ++ [row R 96 [s.v, .int .i64 t.most, .int .i64 t.depth], Hw.own 110 1 s (ptrL E), star (E.map rpA), Hw.own 110 1 x.1 (ptrL (E.take i))]) hc) ∨
       (x.2.1 = true ∧ ∃ (j q : Nat) (e : Nat × PS), j ≤ i ∧ E[j]? = some e ∧ e.2.n > n ∧ (∀ k y, k < j → E[k]? = some y → ¬ y.2.n > n) ∧ Sat (L ++ [row R 96 [s.v, .int .i64 t.most, .int .i64 t.depth], Hw.own 110 1 s (ptrL E), star (E.map rpA), Hw.own 110 1 x.1 (ptrL (E.take j ++ (q, newP n) :: (E.drop j).take (i - j))), rpA (q, newP n)]) hc)))
    (fun x _ => E.length - x.2.2.toNat) ?_ ⟨0, rfl, Nat.zero_le _, .inl ⟨rfl, fun k y hk => by omega, hs2⟩⟩
  clear hs1 hs2 hs
  rintro ⟨out, laid, x⟩ hc ⟨i, hx, hi, hcase⟩
  simp only at hx hcase
  subst hx
  have base : ∃ M, Sat (L ++ ([row R 96 [s.v, .int .i64 t.most, .int .i64 t.depth], Hw.own 110 1 s (ptrL E), star (E.map rpA)] ++ M)) hc := by
    rcases hcase with ⟨_, _, hs⟩ | ⟨_, j, q, e, _, _, _, _, hs⟩
    · exact ⟨[_], hs⟩
    · exact ⟨[_, _], hs⟩
  obtain ⟨MM, base⟩ := base
  have base := (Sat.csa base).left
  unfold N54_l0_B N54_l0_b
  dsimp only
  simp only [nn_some']
  refine base.lL 0 rfl rfl ?_
  by_cases hlt : i < E.length
  · have : decide ((i : Int) < ((((⟨s.p, s.n, s.c⟩ : Sl).n : Nat)) : Int)) = true := by show decide ((i : Int) < (s.n : Int)) = true; simp; omega
    rw [this, cond_true]
    have he : E[i]? = some E[i] := List.getElem?_eq_getElem hlt
    generalize hei : E[i] = e at he
    -- the copy of the place
    have copy : ∀ (o2 : Sl) (l2 : Bool) (O : List (Nat × PS)) (M2 : List Asn) (hh : Hp) (Kn : Sl → Hp → Prop), O.length ≤ 64 → Sat (L ++ ([row R 96 [s.v, .int .i64 t.most, .int .i64 t.depth], Hw.own 110 1 s (ptrL E), star (E.map rpA), Hw.own 110 1 o2 (ptrL O)] ++ M2)) hh →
        (∀ o3 h3, Sat (L ++ ([row R 96 [s.v, .int .i64 t.most, .int .i64 t.depth], Hw.own 110 1 s (ptrL E), star (E.map rpA), Hw.own 110 1 o3 (ptrL (O ++ [e]))] ++ M2)) h3 → Kn o3 h3) → N54_j2 (some (bk R)) n o2 l2 i hh Kn := by
      intro o2 l2 O M2 hh Kn hO hs hKn
      unfold N54_j2
      simp only [nn_some']
      have hs0 := (Sat.csa hs).left
      refine hs0.lL 0 rfl rfl ?_
      refine idx_of (by omega) (by show (i : Int) < (s.n : Int); omega) ?_
      simp only [Int.toNat_natCast, Nat.mul_one]
      refine hs0.oP 1 rfl (t := some (bk e.1)) (by simp [ptrL, he]) ?_
      have on : o2.n = O.length := by have := (hs0.own 3 rfl).1; simp [ptrL] at this; exact this.symm
      refine hs.push (P := Try.prog) 3 rfl (k := 1) (by kernel_rfl) (by kernel_rfl) rfl (by intro v hv; simp at hv; subst hv; rfl) (by rw [show Try.prog.bytesOf 110 = 8 by kernel_rfl]; omega) ?_
      intro o3 h3 hs3 _
      refine hKn o3 h3 ?_
      have eo : ptrL (O ++ [e]) = ptrL O ++ [.pointer (some (bk e.1))] := by simp [ptrL]
      rw [eo]
      exact hs3
    rcases hcase with ⟨rfl, hb, hs⟩ | ⟨rfl, j, q, e', hji, hej, hen, hb, hs⟩
    · simp only [Bool.not_false, cond_true]
      refine base.lL 0 rfl rfl ?_
      refine idx_of (by omega) (by show (i : Int) < (s.n : Int); omega) ?_
      simp only [Int.toNat_natCast, Nat.mul_one]
      refine base.oP 1 rfl (t := some (bk e.1)) (by simp [ptrL, he]) ?_
      simp only [nn_some']
      obtain ⟨z, hb2, _⟩ := rp_at (Sat.csa (A := [row R 96 [s.v, .int .i64 t.most, .int .i64 t.depth], Hw.own 110 1 s (ptrL E)]) base) he
      rw [hb2.cell]
      simp only [List.getElem?_cons_zero, xI_some]
      unfold N54_j1
      by_cases en : e.2.n > n
      · simp only [en, decide_true, cond_true]
        intro q e0
        have hs3 := hs.new e0 (.cells ⟨[.int .i64 n, .int .i64 0, .slice none 0 0]⟩ 112 (0, 0))
        revert hs3
        generalize upd hc q _ = h1
        intro hs3
        have hs3 : Sat (L ++ [row R 96 [s.v, .int .i64 t.most, .int .i64 t.depth], Hw.own 110 1 s (ptrL E), star (E.map rpA), Hw.own 110 1 out (ptrL (E.take i)), row q 112 [.int .i64 n, .int .i64 0, .slice none 0 0]]) h1 := hs3
        have on : out.n = i := by have := (hs3.own 3 rfl).1; simp [ptrL] at this; omega
        refine hs3.push (P := Try.prog) 3 rfl (k := 1) (by kernel_rfl) (by kernel_rfl) rfl (by intro v hv; simp at hv; subst hv; rfl) (by rw [show Try.prog.bytesOf 110 = 8 by kernel_rfl]; omega) ?_
        intro o2 h2 hs4 _
        have eo : ptrL (E.take i ++ [(q, newP n)]) = ptrL (E.take i) ++ [.pointer (some (bk q))] := by simp [ptrL]
        have hs5 : Sat (L ++ ([row R 96 [s.v, .int .i64 t.most, .int .i64 t.depth], Hw.own 110 1 s (ptrL E), star (E.map rpA), Hw.own 110 1 o2 (ptrL (E.take i ++ [(q, newP n)]))] ++ [row q 112 [.int .i64 n, .int .i64 0, .slice none 0 0]])) h2 := by rw [eo]; exact hs4
        have hs6 : Sat (L ++ ([row R 96 [s.v, .int .i64 t.most, .int .i64 t.depth], Hw.own 110 1 s (ptrL E), star (E.map rpA), Hw.own 110 1 o2 (ptrL (E.take i ++ [(q, newP n)]))] ++ [rpA (q, newP n)])) h2 := by
          have g1 := (Sat.csa hs5).addNilT 39 5 none
          have g1' : Sat (((L ++ [row R 96 [s.v, .int .i64 t.most, .int .i64 t.depth], Hw.own 110 1 s (ptrL E), star (E.map rpA), Hw.own 110 1 o2 (ptrL (E.take i ++ [(q, newP n)]))]) ++ [row q 112 [.int .i64 n, .int .i64 0, (⟨none, 0, 0⟩ : Sl).v], tailA 39 5 ⟨none, 0, 0⟩ (dgs [])]) ++ []) h2 := by rw [List.append_nil]; exact g1
          exact Sat.asc (rport_shut (p := newP n) (Q := []) (Sat.asc g1'.close) rfl)
        refine copy o2 true _ _ _ _ (by simp; omega) hs6 ?_
        intro o3 h3 hs7
        rw [nat_succ64 (by omega)]
        refine ⟨⟨i + 1, rfl, hlt, .inr ⟨(by first | rfl | trivial), i, q, e, by omega, he, en, hb, ?_⟩⟩, by first | omega | (dsimp only; omega)⟩
        have et : E.take i ++ (q, newP n) :: (E.drop i).take (i + 1 - i) = E.take i ++ [(q, newP n)] ++ [e] := by
          rw [show i + 1 - i = 1 by omega, List.drop_eq_getElem_cons hlt, hei]; simp
        rw [et]; exact hs7
      · simp only [en, decide_false, cond_false]
        have hs' : Sat (L ++ ([row R 96 [s.v, .int .i64 t.most, .int .i64 t.depth], Hw.own 110 1 s (ptrL E), star (E.map rpA), Hw.own 110 1 out (ptrL (E.take i))] ++ [])) hc := by rw [List.append_nil]; exact hs
        refine copy out false _ _ _ _ (by simp; omega) hs' ?_
        intro o3 h3 hs7
        rw [nat_succ64 (by omega)]
        refine ⟨⟨i + 1, rfl, hlt, .inl ⟨(by first | rfl | trivial), ?_, ?_⟩⟩, by first | omega | (dsimp only; omega)⟩
        · intro k y hk hy
          rcases Nat.lt_or_ge k i with hh | hh
          · exact hb k y hh hy
          · have : k = i := by omega
            subst this
            rw [he] at hy; cases hy; exact en
        · rw [List.take_succ_eq_append_getElem hlt, hei]
          rw [List.append_nil] at hs7; exact hs7
    · simp only [Bool.not_true, cond_false]
      unfold N54_j1
      simp only [cond_false]
      have hs' : Sat (L ++ ([row R 96 [s.v, .int .i64 t.most, .int .i64 t.depth], Hw.own 110 1 s (ptrL E), star (E.map rpA), Hw.own 110 1 out (ptrL (E.take j ++ (q, newP n) :: (E.drop j).take (i - j)))] ++ [rpA (q, newP n)])) hc := hs
      refine copy out true _ _ _ _ (by simp; omega) hs' ?_
      intro o3 h3 hs7
      rw [nat_succ64 (by omega)]
      refine ⟨⟨i + 1, rfl, hlt, .inr ⟨(by first | rfl | trivial), j, q, e', by omega, hej, hen, hb, ?_⟩⟩, by first | omega | (dsimp only; omega)⟩
      have et : E.take j ++ (q, newP n) :: (E.drop j).take (i + 1 - j) = (E.take j ++ (q, newP n) :: (E.drop j).take (i - j)) ++ [e] := by
        have hd : (E.drop j)[i - j]? = some e := by rw [List.getElem?_drop, show j + (i - j) = i by omega]; exact he
        have hdl := lt_of_get hd
        rw [show i + 1 - j = (i - j) + 1 by omega, List.take_succ_eq_append_getElem hdl]
        have : (E.drop j)[i - j] = e := by rw [List.getElem?_eq_getElem hdl] at hd; exact Option.some.inj hd
        rw [this]; simp
      rw [et]; exact hs7
  · have : decide ((i : Int) < ((((⟨s.p, s.n, s.c⟩ : Sl).n : Nat)) : Int)) = false := by show decide ((i : Int) < (s.n : Int)) = false; simp; omega
    rw [this, cond_false]
    have hie : i = E.length := by omega
    subst hie
    rcases hcase with ⟨rfl, hb, hs⟩ | ⟨rfl, j, q, e', hji, hej, hen, hb, hs⟩
    · simp only [Bool.not_false, cond_true]
      intro q e0
      have hs3 := hs.new e0 (.cells ⟨[.int .i64 n, .int .i64 0, .slice none 0 0]⟩ 112 (0, 0))
      revert hs3
      generalize upd hc q _ = h1
      intro hs3
      rw [List.take_length] at hs3
      have hs3 : Sat (L ++ [row R 96 [s.v, .int .i64 t.most, .int .i64 t.depth], Hw.own 110 1 s (ptrL E), star (E.map rpA), Hw.own 110 1 out (ptrL E), row q 112 [.int .i64 n, .int .i64 0, .slice none 0 0]]) h1 := hs3
      have on : out.n = E.length := by have := (hs3.own 3 rfl).1; simp [ptrL] at this; omega
      refine hs3.push (P := Try.prog) 3 rfl (k := 1) (by kernel_rfl) (by kernel_rfl) rfl (by intro v hv; simp at hv; subst hv; rfl) (by rw [show Try.prog.bytesOf 110 = 8 by kernel_rfl]; omega) ?_
      intro o2 h2 hs4 _
      have eo : ptrL (addE q n E) = ptrL E ++ [.pointer (some (bk q))] := by
        rw [addE_none (fun e he => by obtain ⟨k, hk, rfl⟩ := List.getElem_of_mem he; exact hb k _ hk (List.getElem?_eq_getElem hk))]
        simp [ptrL]
      have hs5 : Sat ((L ++ [row R 96 [s.v, .int .i64 t.most, .int .i64 t.depth], Hw.own 110 1 s (ptrL E), star (E.map rpA), Hw.own 110 1 o2 (ptrL (addE q n E))]) ++ [row q 112 [.int .i64 n, .int .i64 0, (⟨none, 0, 0⟩ : Sl).v]]) h2 := by rw [eo]; exact Sat.csa hs4
      have g1 := hs5.addNilT 39 5 none
      have g1' : Sat (((L ++ [row R 96 [s.v, .int .i64 t.most, .int .i64 t.depth], Hw.own 110 1 s (ptrL E), star (E.map rpA), Hw.own 110 1 o2 (ptrL (addE q n E))]) ++ [row q 112 [.int .i64 n, .int .i64 0, (⟨none, 0, 0⟩ : Sl).v], tailA 39 5 ⟨none, 0, 0⟩ (dgs [])]) ++ []) h2 := by rw [List.append_nil]; exact g1
      exact fin q o2 h2 (Sat.asc (rport_shut (p := newP n) (Q := []) (Sat.asc g1'.close) rfl))
    · simp only [Bool.not_true, cond_false]
      refine fin q out hc ?_
      rw [addE_at hej hen hb]
      have : (E.drop j).take (E.length - j) = E.drop j := List.take_of_length_le (by rw [List.length_drop]; omega)
      rw [this] at hs; exact hs
end Go.Proofs.Ytabihmedfopdcaa
