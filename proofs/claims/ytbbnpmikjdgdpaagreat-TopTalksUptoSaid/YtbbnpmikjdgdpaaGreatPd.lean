/- Texts of a walk over heaps, printed by program and by hand: lemmas for the law that is proved in this claim. No condition. -/
import Derived.Test.YtbbnpmikjdgdpaaGreatProg
import Derived.Test.YtbbnpmikjdgdpaaGreatPc
set_option linter.unusedSimpArgs false
set_option linter.unusedVariables false
set_option maxRecDepth 100000
namespace Go.Proofs.YtbbnpmikjdgdpaaGreat
open Go Go.Hw
def E : Nat → Bool := fun f => (Nat.blt 2 f && Nat.blt f 112) || (Nat.blt 128 f && Nat.blt f 145)
theorem hE : EnterOk Tryz.prog E := by
 have all : ∀ f ∈ List.range' 3 142, (!E f || match Tryz.prog.funcs[f]? with | some fn => !fn.body.isNone && !(fn.name == "runtime.NumGoroutine") | none => false) = true := by
  rw [← List.all_eq_true]
  kernel_rfl
 intro f h
 have hm : f ∈ List.range' 3 142 := by
  simp only [E, Bool.and_eq_true, Bool.or_eq_true, Nat.blt_eq] at h
  simp only [List.mem_range'_1]; omega
 have := all f hm
 rw [h] at this
 simp only [Bool.not_true, Bool.false_or] at this
 split at this
 ·rename_i fn hf
  simp only [Bool.and_eq_true, Bool.not_eq_true'] at this
  exact ⟨fn, hf, this.1, this.2⟩
 ·cases this
theorem hm : Tryz.prog.follows .mixedOrders = true := by kernel_rfl
def C3 (x0 : Sl) (x1 : Int) (h : Hp) (K : Bool → Hp → Prop) : Prop :=
 HCalls Tryz.prog 3 ⟨[.slice x0.p x0.n x0.c, .int .i64 x1]⟩ h fun v h' => VT.on (.c (.bool)) (some v) fun r => K r h'
def C4 (x0 : Int) (x1 : Int) (h : Hp) (K : Option Addr → Hp → Prop) : Prop :=
 HCalls Tryz.prog 4 ⟨[.int .u8 x0, .int .u32 x1]⟩ h fun v h' => VT.on (.c (.ptr)) (some v) fun r => K r h'
def C5 (x0 : Option Addr) (x1 : Int) (h : Hp) (K : Int → Hp → Prop) : Prop :=
 HCalls Tryz.prog 5 ⟨[.pointer x0, .int .i64 x1]⟩ h fun v h' => VT.on (.c (.int .i64)) (some v) fun r => K r h'
def C6 (x0 : Option Addr) (x1_0 : Int) (x1_1 : Int) (x1_2 : Int) (x1_3 : Int) (x1_4 : Sl) (x2 : Int) (h : Hp) (K : Int → Hp → Prop) : Prop :=
 HCalls Tryz.prog 6 ⟨[.pointer x0, .agg ⟨[.int .u32 x1_0, .int .u32 x1_1, .int .i64 x1_2, .int .i64 x1_3, .slice x1_4.p x1_4.n x1_4.c]⟩, .int .i64 x2]⟩ h fun v h' => VT.on (.c (.int .i64)) (some v) fun r => K r h'
def C7 (x0 : Option Addr) (x1 : Option Addr) (x2 : Int) (h : Hp) (K : Bool → Hp → Prop) : Prop :=
 HCalls Tryz.prog 7 ⟨[.pointer x0, .pointer x1, .int .i64 x2]⟩ h fun v h' => VT.on (.c (.bool)) (some v) fun r => K r h'
def C8 (x0 : Option Addr) (x1 : Int) (h : Hp) (K : Int → Int → Int → Int → Sl → Bool → Hp → Prop) : Prop :=
 HCalls Tryz.prog 8 ⟨[.pointer x0, .int .i64 x1]⟩ h fun v h' => tupOn [.agg [.int .u32, .int .u32, .int .i64, .int .i64, .slice], .c (.bool)] v fun r => K r.1.1 r.1.2.1 r.1.2.2.1 r.1.2.2.2.1 r.1.2.2.2.2 r.2 h'
def C9 (x0 : Int) (x1 : Int) (h : Hp) (K : Option Addr → Hp → Prop) : Prop :=
 HCalls Tryz.prog 9 ⟨[.int .i64 x0, .int .i64 x1]⟩ h fun v h' => VT.on (.c (.ptr)) (some v) fun r => K r h'
def C10 (x0 : Option Addr) (x1_0 : Int) (x1_1 : Int) (x1_2 : Int) (x1_3 : Int) (x1_4 : Int) (x1_5 : Int) (h : Hp) (K : Option Addr → Hp → Prop) : Prop :=
 HCalls Tryz.prog 10 ⟨[.pointer x0, .agg ⟨[.int .u8 x1_0, .int .u8 x1_1, .int .u8 x1_2, .int .u8 x1_3, .int .u8 x1_4, .int .u8 x1_5]⟩]⟩ h fun v h' => VT.on (.c (.ptr)) (some v) fun r => K r h'
def C11 (x0 : Option Addr) (h : Hp) (K : Option Addr → Hp → Prop) : Prop :=
 HCalls Tryz.prog 11 ⟨[.pointer x0]⟩ h fun v h' => VT.on (.c (.ptr)) (some v) fun r => K r h'
def C12 (x0 : Option Addr) (x1 : Int) (x2 : Int) (x3 : Int) (h : Hp) (K : Int → Hp → Prop) : Prop :=
 HCalls Tryz.prog 12 ⟨[.pointer x0, .int .u32 x1, .int .u32 x2, .int .u32 x3]⟩ h fun v h' => VT.on (.c (.int .i64)) (some v) fun r => K r h'
def C13 (x0 : Option Addr) (x1 : Int) (h : Hp) (K : Int → Hp → Prop) : Prop :=
 HCalls Tryz.prog 13 ⟨[.pointer x0, .int .i64 x1]⟩ h fun v h' => VT.on (.c (.int .i64)) (some v) fun r => K r h'
def C14 (x0 : Option Addr) (h : Hp) (K : Int → Hp → Prop) : Prop :=
 HCalls Tryz.prog 14 ⟨[.pointer x0]⟩ h fun v h' => VT.on (.c (.int .u32)) (some v) fun r => K r h'
def C15 (x0 : Int) (x1 : Int) (x2_0 : Int) (x2_1 : Int) (x2_2 : Sl) (h : Hp) (K : Sl → Int → Hp → Prop) : Prop :=
 HCalls Tryz.prog 15 ⟨[.int .u32 x0, .int .u32 x1, .agg ⟨[.int .i64 x2_0, .int .i64 x2_1, .slice x2_2.p x2_2.n x2_2.c]⟩]⟩ h fun v h' => tupOn [.c (.slice), .c (.int .i64)] v fun r => K r.1 r.2 h'
def C16 (x0 : Option Addr) (x1 : Int) (x2 : Int) (x3 : Int) (x4 : Sl) (x5 : Int) (h : Hp) (K : Int → Hp → Prop) : Prop :=
 HCalls Tryz.prog 16 ⟨[.pointer x0, .int .u32 x1, .int .u32 x2, .int .i64 x3, .slice x4.p x4.n x4.c, .int .i64 x5]⟩ h fun v h' => VT.on (.c (.int .i64)) (some v) fun r => K r h'
def C17 (x0 : Option Addr) (h : Hp) (K : Sl → Bool → Hp → Prop) : Prop :=
 HCalls Tryz.prog 17 ⟨[.pointer x0]⟩ h fun v h' => tupOn [.c (.slice), .c (.bool)] v fun r => K r.1 r.2 h'
def C18 (x0 : Option Addr) (x1 : Sl) (h : Hp) (K : Bool → Hp → Prop) : Prop :=
 HCalls Tryz.prog 18 ⟨[.pointer x0, .slice x1.p x1.n x1.c]⟩ h fun v h' => VT.on (.c (.bool)) (some v) fun r => K r h'
def C19 (x0 : Option Addr) (x1 : Int) (x2 : Int) (h : Hp) (K : Int → Hp → Prop) : Prop :=
 HCalls Tryz.prog 19 ⟨[.pointer x0, .int .i64 x1, .int .i64 x2]⟩ h fun v h' => VT.on (.c (.int .i64)) (some v) fun r => K r h'
def C20 (x0 : Option Addr) (x1 : Int) (h : Hp) (K : Int → Int → Int → Int → Sl → Bool → Hp → Prop) : Prop :=
 HCalls Tryz.prog 20 ⟨[.pointer x0, .int .i64 x1]⟩ h fun v h' => tupOn [.agg [.int .u32, .int .u32, .int .i64, .int .i64, .slice], .c (.bool)] v fun r => K r.1.1 r.1.2.1 r.1.2.2.1 r.1.2.2.2.1 r.1.2.2.2.2 r.2 h'
def C21  (h : Hp) (K : Option Addr → Hp → Prop) : Prop :=
 HCalls Tryz.prog 21 ⟨[]⟩ h fun v h' => VT.on (.c (.ptr)) (some v) fun r => K r h'
def C22 (x0_0 : Int) (x0_1 : Int) (x0_2 : Int) (x0_3 : Int) (x0_4 : Int) (x0_5 : Int) (x1 : Int) (h : Hp) (K : Option Addr → Hp → Prop) : Prop :=
 HCalls Tryz.prog 22 ⟨[.agg ⟨[.int .u8 x0_0, .int .u8 x0_1, .int .u8 x0_2, .int .u8 x0_3, .int .u8 x0_4, .int .u8 x0_5]⟩, .int .i64 x1]⟩ h fun v h' => VT.on (.c (.ptr)) (some v) fun r => K r h'
def C23 (x0 : Option Addr) (h : Hp) (K : Int → Int → Int → Int → Int → Int → Hp → Prop) : Prop :=
 HCalls Tryz.prog 23 ⟨[.pointer x0]⟩ h fun v h' => VT.on (.agg [.int .u8, .int .u8, .int .u8, .int .u8, .int .u8, .int .u8]) (some v) fun r => K r.1 r.2.1 r.2.2.1 r.2.2.2.1 r.2.2.2.2.1 r.2.2.2.2.2 h'
def C24 (x0 : Int) (x1 : Int) (h : Hp) (K : Option Addr → Hp → Prop) : Prop :=
 HCalls Tryz.prog 24 ⟨[.int .i64 x0, .int .i64 x1]⟩ h fun v h' => VT.on (.c (.ptr)) (some v) fun r => K r h'
def C25 (x0 : Option Addr) (x1 : Int) (x2 : Int) (x3 : Int) (h : Hp) (K : Int → Hp → Prop) : Prop :=
 HCalls Tryz.prog 25 ⟨[.pointer x0, .int .u32 x1, .int .u32 x2, .int .u32 x3]⟩ h fun v h' => VT.on (.c (.int .i64)) (some v) fun r => K r h'
def C26 (x0 : Option Addr) (h : Hp) (K : Hp → Prop) : Prop :=
 HCalls Tryz.prog 26 ⟨[.pointer x0]⟩ h fun _ h' => K h'
def C27 (x0 : Option Addr) (x1 : Int) (h : Hp) (K : Bool → Hp → Prop) : Prop :=
 HCalls Tryz.prog 27 ⟨[.pointer x0, .int .i64 x1]⟩ h fun v h' => VT.on (.c (.bool)) (some v) fun r => K r h'
def C28 (x0 : Option Addr) (h : Hp) (K : Bool → Hp → Prop) : Prop :=
 HCalls Tryz.prog 28 ⟨[.pointer x0]⟩ h fun v h' => VT.on (.c (.bool)) (some v) fun r => K r h'
def C29 (x0 : Option Addr) (x1 : Int) (h : Hp) (K : Hp → Prop) : Prop :=
 HCalls Tryz.prog 29 ⟨[.pointer x0, .int .i64 x1]⟩ h fun _ h' => K h'
def C30 (x0 : Option Addr) (h : Hp) (K : Int → Hp → Prop) : Prop :=
 HCalls Tryz.prog 30 ⟨[.pointer x0]⟩ h fun v h' => VT.on (.c (.int .u32)) (some v) fun r => K r h'
def C31 (x0 : Int) (x1 : Int) (h : Hp) (K : Sl → Hp → Prop) : Prop :=
 HCalls Tryz.prog 31 ⟨[.int .u64 x0, .int .i64 x1]⟩ h fun v h' => VT.on (.c (.slice)) (some v) fun r => K r h'
def C32 (x0 : Sl) (h : Hp) (K : Int → Hp → Prop) : Prop :=
 HCalls Tryz.prog 32 ⟨[.slice x0.p x0.n x0.c]⟩ h fun v h' => VT.on (.c (.int .u16)) (some v) fun r => K r h'
def C33 (x0 : Int) (x1 : Int) (x2 : Sl) (h : Hp) (K : Sl → Hp → Prop) : Prop :=
 HCalls Tryz.prog 33 ⟨[.int .u32 x0, .int .u32 x1, .slice x2.p x2.n x2.c]⟩ h fun v h' => VT.on (.c (.slice)) (some v) fun r => K r h'
def C34 (x0 : Option Addr) (x1 : Int) (h : Hp) (K : Int → Int → Hp → Prop) : Prop :=
 HCalls Tryz.prog 34 ⟨[.pointer x0, .int .u32 x1]⟩ h fun v h' => tupOn [.c (.int .i64), .c (.int .u32)] v fun r => K r.1 r.2 h'
def C35 (x0_0 : Int) (x0_1 : Int) (x0_2 : Int) (x0_3 : Int) (x0_4 : Bool) (x0_5 : Int) (x0_6 : Int) (x1 : Sl) (h : Hp) (K : Sl → Int → Hp → Prop) : Prop :=
 HCalls Tryz.prog 35 ⟨[.agg ⟨[.int .i64 x0_0, .int .i64 x0_1, .int .i64 x0_2, .int .i64 x0_3, .bool x0_4, .int .u32 x0_5, .int .u32 x0_6]⟩, .slice x1.p x1.n x1.c]⟩ h fun v h' => tupOn [.c (.slice), .c (.int .i64)] v fun r => K r.1 r.2 h'
def C36 (x0 : Option Addr) (x1 : Sl) (h : Hp) (K : Hp → Prop) : Prop :=
 HCalls Tryz.prog 36 ⟨[.pointer x0, .slice x1.p x1.n x1.c]⟩ h fun _ h' => K h'
def C37 (x0 : Int) (x1 : Sl) (h : Hp) (K : Int → Int → Int → Int → Int → Int → Int → Sl → Hp → Prop) : Prop :=
 HCalls Tryz.prog 37 ⟨[.int .i64 x0, .slice x1.p x1.n x1.c]⟩ h fun v h' => VT.on (.agg [.int .u8, .int .u8, .int .u8, .int .u8, .int .u8, .int .u8, .int .i64, .slice]) (some v) fun r => K r.1 r.2.1 r.2.2.1 r.2.2.2.1 r.2.2.2.2.1 r.2.2.2.2.2.1 r.2.2.2.2.2.2.1 r.2.2.2.2.2.2.2 h'
def C38 (x0 : Option Addr) (x1 : Int) (x2 : Int) (x3 : Sl) (x4 : Int) (h : Hp) (K : Sl → Hp → Prop) : Prop :=
 HCalls Tryz.prog 38 ⟨[.pointer x0, .int .u32 x1, .int .u32 x2, .slice x3.p x3.n x3.c, .int .i64 x4]⟩ h fun v h' => VT.on (.c (.slice)) (some v) fun r => K r h'
def C39 (x0 : Option Addr) (x1 : Int) (h : Hp) (K : Option Addr → Hp → Prop) : Prop :=
 HCalls Tryz.prog 39 ⟨[.pointer x0, .int .i64 x1]⟩ h fun v h' => VT.on (.c (.ptr)) (some v) fun r => K r h'
def C40 (x0 : Option Addr) (h : Hp) (K : Sl → Hp → Prop) : Prop :=
 HCalls Tryz.prog 40 ⟨[.pointer x0]⟩ h fun v h' => VT.on (.c (.slice)) (some v) fun r => K r h'
def C41 (x0 : Option Addr) (x1 : Sl) (x2 : Bool) (h : Hp) (K : Hp → Prop) : Prop :=
 HCalls Tryz.prog 41 ⟨[.pointer x0, .slice x1.p x1.n x1.c, .bool x2]⟩ h fun _ h' => K h'
def C42 (x0 : Option Addr) (h : Hp) (K : Hp → Prop) : Prop :=
 HCalls Tryz.prog 42 ⟨[.pointer x0]⟩ h fun _ h' => K h'
def C43 (x0 : Option Addr) (x1 : Int) (h : Hp) (K : Sl → Hp → Prop) : Prop :=
 HCalls Tryz.prog 43 ⟨[.pointer x0, .int .i64 x1]⟩ h fun v h' => VT.on (.c (.slice)) (some v) fun r => K r h'
def C44 (x0_0 : Int) (x0_1 : Int) (x0_2 : Int) (x0_3 : Int) (x0_4 : Int) (x0_5 : Int) (x0_6 : Int) (x0_7 : Int) (x0_8 : Int) (x0_9 : Int) (x0_10 : Int) (x0_11 : Int) (x0_12 : Int) (x0_13 : Sl) (h : Hp) (K : Value → Hp → Prop) : Prop :=
 HCalls Tryz.prog 44 ⟨[.agg ⟨[.int .u8 x0_0, .int .u8 x0_1, .int .u8 x0_2, .int .u8 x0_3, .int .u8 x0_4, .int .u8 x0_5, .int .u8 x0_6, .int .u8 x0_7, .int .u8 x0_8, .int .u8 x0_9, .int .u8 x0_10, .int .u8 x0_11, .int .i64 x0_12, .slice x0_13.p x0_13.n x0_13.c]⟩]⟩ h fun v h' => VT.on (.c (.any)) (some v) fun r => K r h'
def C45 (x0 : Option Addr) (x1_0 : Int) (x1_1 : Int) (x1_2 : Int) (x1_3 : Int) (x1_4 : Bool) (x1_5 : Int) (x1_6 : Int) (h : Hp) (K : Bool → Hp → Prop) : Prop :=
 HCalls Tryz.prog 45 ⟨[.pointer x0, .agg ⟨[.int .i64 x1_0, .int .i64 x1_1, .int .i64 x1_2, .int .i64 x1_3, .bool x1_4, .int .u32 x1_5, .int .u32 x1_6]⟩]⟩ h fun v h' => VT.on (.c (.bool)) (some v) fun r => K r h'
def C46 (x0 : Option Addr) (h : Hp) (K : Int → Int → Int → Int → Sl → Bool → Hp → Prop) : Prop :=
 HCalls Tryz.prog 46 ⟨[.pointer x0]⟩ h fun v h' => tupOn [.agg [.int .u32, .int .u32, .int .i64, .int .i64, .slice], .c (.bool)] v fun r => K r.1.1 r.1.2.1 r.1.2.2.1 r.1.2.2.2.1 r.1.2.2.2.2 r.2 h'
def C47 (x0 : Int) (h : Hp) (K : Bool → Hp → Prop) : Prop :=
 HCalls Tryz.prog 47 ⟨[.int .u32 x0]⟩ h fun v h' => VT.on (.c (.bool)) (some v) fun r => K r h'
def C48 (x0 : Int) (h : Hp) (K : Bool → Hp → Prop) : Prop :=
 HCalls Tryz.prog 48 ⟨[.int .u32 x0]⟩ h fun v h' => VT.on (.c (.bool)) (some v) fun r => K r h'
def C49 (x0_0 : Int) (x0_1 : Int) (x0_2 : Int) (x1 : Int) (h : Hp) (K : Bool → Hp → Prop) : Prop :=
 HCalls Tryz.prog 49 ⟨[.agg ⟨[.int .u32 x0_0, .int .u32 x0_1, .int .u32 x0_2]⟩, .int .u32 x1]⟩ h fun v h' => VT.on (.c (.bool)) (some v) fun r => K r h'
def C50 (x0 : Int) (h : Hp) (K : Int → Hp → Prop) : Prop :=
 HCalls Tryz.prog 50 ⟨[.int .u64 x0]⟩ h fun v h' => VT.on (.c (.int .u16)) (some v) fun r => K r h'
def C51 (x0_0 : Int) (x0_1 : Int) (x0_2 : Int) (x1 : Int) (h : Hp) (K : Bool → Hp → Prop) : Prop :=
 HCalls Tryz.prog 51 ⟨[.agg ⟨[.int .u32 x0_0, .int .u32 x0_1, .int .u32 x0_2]⟩, .int .u32 x1]⟩ h fun v h' => VT.on (.c (.bool)) (some v) fun r => K r h'
def C52 (x0_0 : Int) (x0_1 : Int) (x0_2 : Int) (x1 : Int) (h : Hp) (K : Bool → Hp → Prop) : Prop :=
 HCalls Tryz.prog 52 ⟨[.agg ⟨[.int .u32 x0_0, .int .u32 x0_1, .int .u32 x0_2]⟩, .int .u32 x1]⟩ h fun v h' => VT.on (.c (.bool)) (some v) fun r => K r h'
def C53 (x0 : Option Addr) (x1_0 : Int) (x1_1 : Int) (x1_2 : Int) (x1_3 : Int) (x1_4 : Int) (x1_5 : Int) (x1_6 : Int) (x1_7 : Sl) (h : Hp) (K : Sl → Int → Hp → Prop) : Prop :=
 HCalls Tryz.prog 53 ⟨[.pointer x0, .agg ⟨[.int .u8 x1_0, .int .u8 x1_1, .int .u8 x1_2, .int .u8 x1_3, .int .u8 x1_4, .int .u8 x1_5, .int .i64 x1_6, .slice x1_7.p x1_7.n x1_7.c]⟩]⟩ h fun v h' => tupOn [.c (.slice), .c (.int .i64)] v fun r => K r.1 r.2 h'
def C54  (h : Hp) (K : Int → Int → Int → Int → Int → Int → Hp → Prop) : Prop :=
 HCalls Tryz.prog 54 ⟨[]⟩ h fun v h' => VT.on (.agg [.int .u8, .int .u8, .int .u8, .int .u8, .int .u8, .int .u8]) (some v) fun r => K r.1 r.2.1 r.2.2.1 r.2.2.2.1 r.2.2.2.2.1 r.2.2.2.2.2 h'
def C55 (x0 : Option Addr) (x1 : Int) (h : Hp) (K : Hp → Prop) : Prop :=
 HCalls Tryz.prog 55 ⟨[.pointer x0, .int .i64 x1]⟩ h fun _ h' => K h'
def C56 (x0 : Option Addr) (h : Hp) (K : Bool → Hp → Prop) : Prop :=
 HCalls Tryz.prog 56 ⟨[.pointer x0]⟩ h fun v h' => VT.on (.c (.bool)) (some v) fun r => K r h'
def C57 (x0 : Sl) (h : Hp) (K : Sl → Hp → Prop) : Prop :=
 HCalls Tryz.prog 57 ⟨[.slice x0.p x0.n x0.c]⟩ h fun v h' => VT.on (.c (.slice)) (some v) fun r => K r h'
def C58 (x0 : Option Addr) (h : Hp) (K : Bool → Hp → Prop) : Prop :=
 HCalls Tryz.prog 58 ⟨[.pointer x0]⟩ h fun v h' => VT.on (.c (.bool)) (some v) fun r => K r h'
def C59 (x0 : Option Addr) (x1 : Int) (h : Hp) (K : Int → Hp → Prop) : Prop :=
 HCalls Tryz.prog 59 ⟨[.pointer x0, .int .i64 x1]⟩ h fun v h' => VT.on (.c (.int .i64)) (some v) fun r => K r h'
def C60 (x0 : Option Addr) (x1 : Int) (x2 : Option Addr) (h : Hp) (K : Int → Int → Int → Int → Int → Int → Int → Sl → Hp → Prop) : Prop :=
 HCalls Tryz.prog 60 ⟨[.pointer x0, .int .u32 x1, .pointer x2]⟩ h fun v h' => VT.on (.agg [.int .u8, .int .u8, .int .u8, .int .u8, .int .u8, .int .u8, .int .i64, .slice]) (some v) fun r => K r.1 r.2.1 r.2.2.1 r.2.2.2.1 r.2.2.2.2.1 r.2.2.2.2.2.1 r.2.2.2.2.2.2.1 r.2.2.2.2.2.2.2 h'
def C61 (x0 : Option Addr) (h : Hp) (K : Int → Int → Hp → Prop) : Prop :=
 HCalls Tryz.prog 61 ⟨[.pointer x0]⟩ h fun v h' => tupOn [.c (.int .i64), .c (.int .i64)] v fun r => K r.1 r.2 h'
def C62 (x0 : Option Addr) (x1 : Int) (h : Hp) (K : Bool → Sl → Int → Hp → Prop) : Prop :=
 HCalls Tryz.prog 62 ⟨[.pointer x0, .int .i64 x1]⟩ h fun v h' => tupOn [.agg [.bool, .slice], .c (.int .i64)] v fun r => K r.1.1 r.1.2 r.2 h'
def C63 (x0 : Sl) (h : Hp) (K : Int → Int → Int → Int → Int → Int → Int → Int → Int → Int → Int → Int → Int → Sl → Int → Hp → Prop) : Prop :=
 HCalls Tryz.prog 63 ⟨[.slice x0.p x0.n x0.c]⟩ h fun v h' => tupOn [.agg [.int .u8, .int .u8, .int .u8, .int .u8, .int .u8, .int .u8, .int .u8, .int .u8, .int .u8, .int .u8, .int .u8, .int .u8, .int .i64, .slice], .c (.int .i64)] v fun r => K r.1.1 r.1.2.1 r.1.2.2.1 r.1.2.2.2.1 r.1.2.2.2.2.1 r.1.2.2.2.2.2.1 r.1.2.2.2.2.2.2.1 r.1.2.2.2.2.2.2.2.1 r.1.2.2.2.2.2.2.2.2.1 r.1.2.2.2.2.2.2.2.2.2.1 r.1.2.2.2.2.2.2.2.2.2.2.1 r.1.2.2.2.2.2.2.2.2.2.2.2.1 r.1.2.2.2.2.2.2.2.2.2.2.2.2.1 r.1.2.2.2.2.2.2.2.2.2.2.2.2.2 r.2 h'
def C64 (x0_0 : Int) (x0_1 : Int) (x0_2 : Int) (x0_3 : Int) (x0_4 : Int) (x0_5 : Int) (x1_0 : Int) (x1_1 : Int) (x1_2 : Int) (x1_3 : Int) (x1_4 : Int) (x1_5 : Int) (x1_6 : Int) (x1_7 : Int) (x1_8 : Int) (x1_9 : Int) (x1_10 : Int) (x1_11 : Int) (x1_12 : Int) (x1_13 : Sl) (h : Hp) (K : Bool → Hp → Prop) : Prop :=
 HCalls Tryz.prog 64 ⟨[.agg ⟨[.int .u8 x0_0, .int .u8 x0_1, .int .u8 x0_2, .int .u8 x0_3, .int .u8 x0_4, .int .u8 x0_5]⟩, .agg ⟨[.int .u8 x1_0, .int .u8 x1_1, .int .u8 x1_2, .int .u8 x1_3, .int .u8 x1_4, .int .u8 x1_5, .int .u8 x1_6, .int .u8 x1_7, .int .u8 x1_8, .int .u8 x1_9, .int .u8 x1_10, .int .u8 x1_11, .int .i64 x1_12, .slice x1_13.p x1_13.n x1_13.c]⟩]⟩ h fun v h' => VT.on (.c (.bool)) (some v) fun r => K r h'
def C65 (x0 : Option Addr) (x1 : Int) (h : Hp) (K : Int → Hp → Prop) : Prop :=
 HCalls Tryz.prog 65 ⟨[.pointer x0, .int .i64 x1]⟩ h fun v h' => VT.on (.c (.int .i64)) (some v) fun r => K r h'
def C66 (x0 : Int) (x1 : Int) (h : Hp) (K : Int → Hp → Prop) : Prop :=
 HCalls Tryz.prog 66 ⟨[.int .i64 x0, .int .i64 x1]⟩ h fun v h' => VT.on (.c (.int .i64)) (some v) fun r => K r h'
def C67 (x0 : Sl) (h : Hp) (K : Int → Int → Int → Int → Int → Int → Int → Int → Int → Int → Int → Int → Int → Int → Int → Int → Hp → Prop) : Prop :=
 HCalls Tryz.prog 67 ⟨[.slice x0.p x0.n x0.c]⟩ h fun v h' => tupOn [.agg [.int .i64, .int .u8, .int .u8, .int .u8, .int .u8, .int .u8, .int .u8, .int .u32, .int .u8, .int .u8, .int .u8, .int .u8, .int .u8, .int .u8, .int .u32], .c (.int .i64)] v fun r => K r.1.1 r.1.2.1 r.1.2.2.1 r.1.2.2.2.1 r.1.2.2.2.2.1 r.1.2.2.2.2.2.1 r.1.2.2.2.2.2.2.1 r.1.2.2.2.2.2.2.2.1 r.1.2.2.2.2.2.2.2.2.1 r.1.2.2.2.2.2.2.2.2.2.1 r.1.2.2.2.2.2.2.2.2.2.2.1 r.1.2.2.2.2.2.2.2.2.2.2.2.1 r.1.2.2.2.2.2.2.2.2.2.2.2.2.1 r.1.2.2.2.2.2.2.2.2.2.2.2.2.2.1 r.1.2.2.2.2.2.2.2.2.2.2.2.2.2.2 r.2 h'
def C68 (x0 : Sl) (h : Hp) (K : Int → Int → Int → Int → Bool → Int → Int → Sl → Int → Hp → Prop) : Prop :=
 HCalls Tryz.prog 68 ⟨[.slice x0.p x0.n x0.c]⟩ h fun v h' => tupOn [.agg [.int .i64, .int .i64, .int .i64, .int .i64, .bool, .int .u32, .int .u32], .c (.slice), .c (.int .i64)] v fun r => K r.1.1 r.1.2.1 r.1.2.2.1 r.1.2.2.2.1 r.1.2.2.2.2.1 r.1.2.2.2.2.2.1 r.1.2.2.2.2.2.2 r.2.1 r.2.2 h'
def C69 (x0 : Int) (x1 : Int) (x2 : Sl) (h : Hp) (K : Int → Int → Sl → Int → Hp → Prop) : Prop :=
 HCalls Tryz.prog 69 ⟨[.int .u32 x0, .int .u32 x1, .slice x2.p x2.n x2.c]⟩ h fun v h' => tupOn [.agg [.int .i64, .int .i64, .slice], .c (.int .i64)] v fun r => K r.1.1 r.1.2.1 r.1.2.2 r.2 h'
def C70 (x0 : Sl) (h : Hp) (K : Int → Int → Int → Sl → Int → Hp → Prop) : Prop :=
 HCalls Tryz.prog 70 ⟨[.slice x0.p x0.n x0.c]⟩ h fun v h' => tupOn [.agg [.int .i64, .int .i64, .int .u32, .slice], .c (.int .i64)] v fun r => K r.1.1 r.1.2.1 r.1.2.2.1 r.1.2.2.2 r.2 h'
def C71 (x0 : Option Addr) (x1 : Int) (h : Hp) (K : Bool → Hp → Prop) : Prop :=
 HCalls Tryz.prog 71 ⟨[.pointer x0, .int .u32 x1]⟩ h fun v h' => VT.on (.c (.bool)) (some v) fun r => K r h'
def C72 (x0 : Int) (h : Hp) (K : Int → Hp → Prop) : Prop :=
 HCalls Tryz.prog 72 ⟨[.int .u32 x0]⟩ h fun v h' => VT.on (.c (.int .i64)) (some v) fun r => K r h'
def C73 (x0_0 : Int) (x0_1 : Int) (x0_2 : Int) (h : Hp) (K : Int → Int → Bool → Hp → Prop) : Prop :=
 HCalls Tryz.prog 73 ⟨[.agg ⟨[.int .u32 x0_0, .int .u32 x0_1, .int .u32 x0_2]⟩]⟩ h fun v h' => tupOn [.c (.int .u32), .c (.int .u32), .c (.bool)] v fun r => K r.1 r.2.1 r.2.2 h'
def C74 (x0 : Option Addr) (x1_0 : Int) (x1_1 : Int) (x1_2 : Int) (x1_3 : Int) (x1_4 : Int) (x1_5 : Int) (x1_6 : Int) (x1_7 : Sl) (h : Hp) (K : Sl → Int → Hp → Prop) : Prop :=
 HCalls Tryz.prog 74 ⟨[.pointer x0, .agg ⟨[.int .u8 x1_0, .int .u8 x1_1, .int .u8 x1_2, .int .u8 x1_3, .int .u8 x1_4, .int .u8 x1_5, .int .i64 x1_6, .slice x1_7.p x1_7.n x1_7.c]⟩]⟩ h fun v h' => tupOn [.c (.slice), .c (.int .i64)] v fun r => K r.1 r.2 h'
def C75 (x0 : Option Addr) (h : Hp) (K : Sl → Hp → Prop) : Prop :=
 HCalls Tryz.prog 75 ⟨[.pointer x0]⟩ h fun v h' => VT.on (.c (.slice)) (some v) fun r => K r h'
def C76 (x0_0 : Int) (x0_1 : Int) (x0_2 : Int) (x0_3 : Int) (x0_4 : Int) (x0_5 : Int) (x0_6 : Int) (x0_7 : Int) (x0_8 : Int) (x0_9 : Int) (x0_10 : Int) (x0_11 : Int) (x0_12 : Int) (x0_13 : Int) (x0_14 : Int) (h : Hp) (K : Sl → Int → Hp → Prop) : Prop :=
 HCalls Tryz.prog 76 ⟨[.agg ⟨[.int .i64 x0_0, .int .u8 x0_1, .int .u8 x0_2, .int .u8 x0_3, .int .u8 x0_4, .int .u8 x0_5, .int .u8 x0_6, .int .u32 x0_7, .int .u8 x0_8, .int .u8 x0_9, .int .u8 x0_10, .int .u8 x0_11, .int .u8 x0_12, .int .u8 x0_13, .int .u32 x0_14]⟩]⟩ h fun v h' => tupOn [.c (.slice), .c (.int .i64)] v fun r => K r.1 r.2 h'
def C77 (x0_0 : Int) (x0_1 : Int) (x0_2 : Int) (x0_3 : Int) (x0_4 : Int) (x0_5 : Int) (x1 : Int) (x2 : Int) (h : Hp) (K : Int → Int → Int → Int → Int → Int → Int → Int → Int → Int → Int → Int → Int → Int → Int → Hp → Prop) : Prop :=
 HCalls Tryz.prog 77 ⟨[.agg ⟨[.int .u8 x0_0, .int .u8 x0_1, .int .u8 x0_2, .int .u8 x0_3, .int .u8 x0_4, .int .u8 x0_5]⟩, .int .u32 x1, .int .u32 x2]⟩ h fun v h' => VT.on (.agg [.int .i64, .int .u8, .int .u8, .int .u8, .int .u8, .int .u8, .int .u8, .int .u32, .int .u8, .int .u8, .int .u8, .int .u8, .int .u8, .int .u8, .int .u32]) (some v) fun r => K r.1 r.2.1 r.2.2.1 r.2.2.2.1 r.2.2.2.2.1 r.2.2.2.2.2.1 r.2.2.2.2.2.2.1 r.2.2.2.2.2.2.2.1 r.2.2.2.2.2.2.2.2.1 r.2.2.2.2.2.2.2.2.2.1 r.2.2.2.2.2.2.2.2.2.2.1 r.2.2.2.2.2.2.2.2.2.2.2.1 r.2.2.2.2.2.2.2.2.2.2.2.2.1 r.2.2.2.2.2.2.2.2.2.2.2.2.2.1 r.2.2.2.2.2.2.2.2.2.2.2.2.2.2 h'
def C78 (x0 : Option Addr) (x1 : Int) (h : Hp) (K : Bool → Sl → Int → Hp → Prop) : Prop :=
 HCalls Tryz.prog 78 ⟨[.pointer x0, .int .i64 x1]⟩ h fun v h' => tupOn [.agg [.bool, .slice], .c (.int .i64)] v fun r => K r.1.1 r.1.2 r.2 h'
def C79 (x0 : Sl) (x1 : Int) (x2 : Int) (h : Hp) (K : Int → Int → Hp → Prop) : Prop :=
 HCalls Tryz.prog 79 ⟨[.slice x0.p x0.n x0.c, .int .i64 x1, .int .i64 x2]⟩ h fun v h' => tupOn [.c (.int .u64), .c (.int .i64)] v fun r => K r.1 r.2 h'
def C80 (x0_0 : Int) (x0_1 : Int) (x0_2 : Int) (x0_3 : Int) (x0_4 : Int) (x0_5 : Int) (h : Hp) (K : Bool → Hp → Prop) : Prop :=
 HCalls Tryz.prog 80 ⟨[.agg ⟨[.int .u8 x0_0, .int .u8 x0_1, .int .u8 x0_2, .int .u8 x0_3, .int .u8 x0_4, .int .u8 x0_5]⟩]⟩ h fun v h' => VT.on (.c (.bool)) (some v) fun r => K r h'
def C81 (x0 : Sl) (x1 : Int) (h : Hp) (K : Int → Hp → Prop) : Prop :=
 HCalls Tryz.prog 81 ⟨[.slice x0.p x0.n x0.c, .int .i64 x1]⟩ h fun v h' => VT.on (.c (.int .u32)) (some v) fun r => K r h'
def C82  (h : Hp) (K : Int → Int → Int → Int → Int → Int → Hp → Prop) : Prop :=
 HCalls Tryz.prog 82 ⟨[]⟩ h fun v h' => VT.on (.agg [.int .u8, .int .u8, .int .u8, .int .u8, .int .u8, .int .u8]) (some v) fun r => K r.1 r.2.1 r.2.2.1 r.2.2.2.1 r.2.2.2.2.1 r.2.2.2.2.2 h'
def C84 (x0 : Bool) (x1 : Int) (h : Hp) (K : Hp → Prop) : Prop :=
 HCalls Tryz.prog 84 ⟨[.bool x0, .int .i64 x1]⟩ h fun _ h' => K h'
def C85 (x0 : Int) (x1 : Int) (x2 : Option Addr) (h : Hp) (K : Int → Hp → Prop) : Prop :=
 HCalls Tryz.prog 85 ⟨[.int .i64 x0, .int .i64 x1, .pointer x2]⟩ h fun v h' => VT.on (.c (.int .i64)) (some v) fun r => K r h'
def C86 (x0 : Int) (x1 : Option Addr) (h : Hp) (K : Int → Hp → Prop) : Prop :=
 HCalls Tryz.prog 86 ⟨[.int .i64 x0, .pointer x1]⟩ h fun v h' => VT.on (.c (.int .i64)) (some v) fun r => K r h'
def C88 (x0 : Int) (h : Hp) (K : Int → Hp → Prop) : Prop :=
 HCalls Tryz.prog 88 ⟨[.int .u32 x0]⟩ h fun v h' => VT.on (.c (.int .i64)) (some v) fun r => K r h'
def C89 (x0_0 : Int) (x0_1 : Int) (x0_2 : Int) (x0_3 : Int) (x0_4 : Int) (x0_5 : Int) (x0_6 : Int) (x0_7 : Int) (x0_8 : Int) (x0_9 : Int) (x0_10 : Int) (x0_11 : Int) (x0_12 : Int) (x0_13 : Sl) (h : Hp) (K : Sl → Int → Hp → Prop) : Prop :=
 HCalls Tryz.prog 89 ⟨[.agg ⟨[.int .u8 x0_0, .int .u8 x0_1, .int .u8 x0_2, .int .u8 x0_3, .int .u8 x0_4, .int .u8 x0_5, .int .u8 x0_6, .int .u8 x0_7, .int .u8 x0_8, .int .u8 x0_9, .int .u8 x0_10, .int .u8 x0_11, .int .i64 x0_12, .slice x0_13.p x0_13.n x0_13.c]⟩]⟩ h fun v h' => tupOn [.c (.slice), .c (.int .i64)] v fun r => K r.1 r.2 h'
def C90 (x0 : Option Addr) (x1 : Int) (x2 : Sl) (h : Hp) (K : Int → Hp → Prop) : Prop :=
 HCalls Tryz.prog 90 ⟨[.pointer x0, .int .i64 x1, .slice x2.p x2.n x2.c]⟩ h fun v h' => VT.on (.c (.int .i64)) (some v) fun r => K r h'
def C91 (x0 : Sl) (h : Hp) (K : Hp → Prop) : Prop :=
 HCalls Tryz.prog 91 ⟨[.slice x0.p x0.n x0.c]⟩ h fun _ h' => K h'
def C92 (x0 : Int) (h : Hp) (K : Int → Hp → Prop) : Prop :=
 HCalls Tryz.prog 92 ⟨[.int .u32 x0]⟩ h fun v h' => VT.on (.c (.int .i64)) (some v) fun r => K r h'
def C93 (x0 : Sl) (x1 : Int) (x2 : Int) (x3 : Int) (h : Hp) (K : Hp → Prop) : Prop :=
 HCalls Tryz.prog 93 ⟨[.slice x0.p x0.n x0.c, .int .i64 x1, .int .i64 x2, .int .i64 x3]⟩ h fun _ h' => K h'
def C94 (x0 : Int) (h : Hp) (K : Int → Hp → Prop) : Prop :=
 HCalls Tryz.prog 94 ⟨[.int .u64 x0]⟩ h fun v h' => VT.on (.c (.int .i64)) (some v) fun r => K r h'
def C95 (x0 : Sl) (x1 : Int) (x2 : Int) (h : Hp) (K : Hp → Prop) : Prop :=
 HCalls Tryz.prog 95 ⟨[.slice x0.p x0.n x0.c, .int .i64 x1, .int .i64 x2]⟩ h fun _ h' => K h'
def C96 (x0 : Sl) (x1 : Int) (x2 : Int) (h : Hp) (K : Hp → Prop) : Prop :=
 HCalls Tryz.prog 96 ⟨[.slice x0.p x0.n x0.c, .int .i64 x1, .int .i64 x2]⟩ h fun _ h' => K h'
def C97 (x0 : Sl) (x1 : Int) (x2 : Int) (h : Hp) (K : Hp → Prop) : Prop :=
 HCalls Tryz.prog 97 ⟨[.slice x0.p x0.n x0.c, .int .i64 x1, .int .i64 x2]⟩ h fun _ h' => K h'
def C98 (x0 : Sl) (x1 : Int) (x2 : Int) (h : Hp) (K : Int → Int → Hp → Prop) : Prop :=
 HCalls Tryz.prog 98 ⟨[.slice x0.p x0.n x0.c, .int .i64 x1, .int .i64 x2]⟩ h fun v h' => tupOn [.c (.int .i64), .c (.int .i64)] v fun r => K r.1 r.2 h'
def C99 (x0 : Sl) (x1 : Int) (x2 : Int) (h : Hp) (K : Hp → Prop) : Prop :=
 HCalls Tryz.prog 99 ⟨[.slice x0.p x0.n x0.c, .int .i64 x1, .int .i64 x2]⟩ h fun _ h' => K h'
def C100 (x0 : Sl) (x1 : Int) (x2 : Int) (h : Hp) (K : Bool → Hp → Prop) : Prop :=
 HCalls Tryz.prog 100 ⟨[.slice x0.p x0.n x0.c, .int .i64 x1, .int .i64 x2]⟩ h fun v h' => VT.on (.c (.bool)) (some v) fun r => K r h'
def C101 (x0 : Int) (x1 : Int) (h : Hp) (K : Bool → Hp → Prop) : Prop :=
 HCalls Tryz.prog 101 ⟨[.int .u32 x0, .int .u32 x1]⟩ h fun v h' => VT.on (.c (.bool)) (some v) fun r => K r h'
def C102 (x0 : Sl) (x1 : Int) (x2 : Int) (x3 : Int) (h : Hp) (K : Int → Hp → Prop) : Prop :=
 HCalls Tryz.prog 102 ⟨[.slice x0.p x0.n x0.c, .int .i64 x1, .int .i64 x2, .int .i64 x3]⟩ h fun v h' => VT.on (.c (.int .i64)) (some v) fun r => K r h'
def C103 (x0 : Sl) (x1 : Int) (x2 : Int) (x3 : Int) (h : Hp) (K : Int → Bool → Hp → Prop) : Prop :=
 HCalls Tryz.prog 103 ⟨[.slice x0.p x0.n x0.c, .int .i64 x1, .int .i64 x2, .int .i64 x3]⟩ h fun v h' => tupOn [.c (.int .i64), .c (.bool)] v fun r => K r.1 r.2 h'
def C104 (x0 : Int) (h : Hp) (K : Int → Hp → Prop) : Prop :=
 HCalls Tryz.prog 104 ⟨[.int .u64 x0]⟩ h fun v h' => VT.on (.c (.int .i64)) (some v) fun r => K r h'
def C105 (x0 : Sl) (x1 : Int) (x2 : Int) (x3 : Int) (h : Hp) (K : Hp → Prop) : Prop :=
 HCalls Tryz.prog 105 ⟨[.slice x0.p x0.n x0.c, .int .i64 x1, .int .i64 x2, .int .i64 x3]⟩ h fun _ h' => K h'
def C106 (x0 : Int) (h : Hp) (K : Int → Hp → Prop) : Prop :=
 HCalls Tryz.prog 106 ⟨[.int .i64 x0]⟩ h fun v h' => VT.on (.c (.int .u64)) (some v) fun r => K r h'
def C107 (x0 : Option Addr) (h : Hp) (K : Int → Hp → Prop) : Prop :=
 HCalls Tryz.prog 107 ⟨[.pointer x0]⟩ h fun v h' => VT.on (.c (.int .u64)) (some v) fun r => K r h'
def C108 (x0 : Sl) (x1 : Int) (x2 : Option Addr) (h : Hp) (K : Int → Hp → Prop) : Prop :=
 HCalls Tryz.prog 108 ⟨[.slice x0.p x0.n x0.c, .int .i64 x1, .pointer x2]⟩ h fun v h' => VT.on (.c (.int .i64)) (some v) fun r => K r h'
def C109 (x0 : Sl) (x1 : Int) (x2 : Int) (x3 : Int) (x4 : Option Addr) (h : Hp) (K : Int → Hp → Prop) : Prop :=
 HCalls Tryz.prog 109 ⟨[.slice x0.p x0.n x0.c, .int .i64 x1, .int .i64 x2, .int .i64 x3, .pointer x4]⟩ h fun v h' => VT.on (.c (.int .i64)) (some v) fun r => K r h'
def C110 (x0 : Int) (h : Hp) (K : Bool → Hp → Prop) : Prop :=
 HCalls Tryz.prog 110 ⟨[.int .u32 x0]⟩ h fun v h' => VT.on (.c (.bool)) (some v) fun r => K r h'
def C111 (x0 : Sl) (x1 : Int) (x2 : Int) (x3 : Option Addr) (h : Hp) (K : Int → Int → Hp → Prop) : Prop :=
 HCalls Tryz.prog 111 ⟨[.slice x0.p x0.n x0.c, .int .i64 x1, .int .i64 x2, .pointer x3]⟩ h fun v h' => tupOn [.c (.int .i64), .c (.int .i64)] v fun r => K r.1 r.2 h'
def C129 (x0_0 : Int) (x0_1 : Int) (x0_2 : Int) (x0_3 : Int) (x0_4 : Bool) (x0_5 : Int) (x0_6 : Int) (x0_7 : Int) (x0_8 : Int) (x0_9 : Sl) (x0_10 : Sl) (x1 : Option Addr) (x2 : Int) (h : Hp) (K : Hp → Prop) : Prop :=
 HCalls Tryz.prog 129 ⟨[.agg ⟨[.int .i64 x0_0, .int .i64 x0_1, .int .i64 x0_2, .int .i64 x0_3, .bool x0_4, .int .u32 x0_5, .int .u32 x0_6, .int .i64 x0_7, .int .i64 x0_8, .slice x0_9.p x0_9.n x0_9.c, .slice x0_10.p x0_10.n x0_10.c]⟩, .pointer x1, .int .i64 x2]⟩ h fun _ h' => K h'
def C130 (x0 : Option Addr) (x1_0 : Int) (x1_1 : Int) (x1_2 : Int) (x1_3 : Int) (x1_4 : Sl) (h : Hp) (K : Int → Hp → Prop) : Prop :=
 HCalls Tryz.prog 130 ⟨[.pointer x0, .agg ⟨[.int .u32 x1_0, .int .u32 x1_1, .int .i64 x1_2, .int .i64 x1_3, .slice x1_4.p x1_4.n x1_4.c]⟩]⟩ h fun v h' => VT.on (.c (.int .i64)) (some v) fun r => K r h'
def C131 (x0 : Option Addr) (x1 : Int) (x2_0 : Int) (x2_1 : Int) (x2_2 : Int) (x2_3 : Sl) (x3 : Int) (h : Hp) (K : Hp → Prop) : Prop :=
 HCalls Tryz.prog 131 ⟨[.pointer x0, .int .u32 x1, .agg ⟨[.int .i64 x2_0, .int .i64 x2_1, .int .u32 x2_2, .slice x2_3.p x2_3.n x2_3.c]⟩, .int .i64 x3]⟩ h fun _ h' => K h'
def C132 (x0 : Int) (x1 : Sl) (h : Hp) (K : Int → Int → Int → Sl → Hp → Prop) : Prop :=
 HCalls Tryz.prog 132 ⟨[.int .i64 x0, .slice x1.p x1.n x1.c]⟩ h fun v h' => VT.on (.agg [.int .i64, .int .i64, .int .u32, .slice]) (some v) fun r => K r.1 r.2.1 r.2.2.1 r.2.2.2 h'
def C133 (x0 : Option Addr) (x1_0 : Int) (x1_1 : Int) (x1_2 : Int) (x1_3 : Int) (x1_4 : Sl) (h : Hp) (K : Bool → Hp → Prop) : Prop :=
 HCalls Tryz.prog 133 ⟨[.pointer x0, .agg ⟨[.int .u32 x1_0, .int .u32 x1_1, .int .i64 x1_2, .int .i64 x1_3, .slice x1_4.p x1_4.n x1_4.c]⟩]⟩ h fun v h' => VT.on (.c (.bool)) (some v) fun r => K r h'
def C137 (x0_0 : Int) (x0_1 : Int) (x0_2 : Int) (x0_3 : Int) (x0_4 : Int) (x0_5 : Int) (x0_6 : Int) (x0_7 : Int) (x0_8 : Int) (x0_9 : Int) (x0_10 : Int) (x0_11 : Int) (x0_12 : Int) (x0_13 : Int) (x0_14 : Int) (x1 : Option Addr) (x2 : Int) (h : Hp) (K : Hp → Prop) : Prop :=
 HCalls Tryz.prog 137 ⟨[.agg ⟨[.int .i64 x0_0, .int .u8 x0_1, .int .u8 x0_2, .int .u8 x0_3, .int .u8 x0_4, .int .u8 x0_5, .int .u8 x0_6, .int .u32 x0_7, .int .u8 x0_8, .int .u8 x0_9, .int .u8 x0_10, .int .u8 x0_11, .int .u8 x0_12, .int .u8 x0_13, .int .u32 x0_14]⟩, .pointer x1, .int .i64 x2]⟩ h fun _ h' => K h'
def C138 (x0 : Option Addr) (x1 : Int) (x2_0 : Int) (x2_1 : Int) (x2_2 : Int) (x2_3 : Int) (x2_4 : Int) (x2_5 : Int) (x2_6 : Int) (x2_7 : Int) (x2_8 : Int) (x2_9 : Int) (x2_10 : Int) (x2_11 : Int) (x2_12 : Int) (x2_13 : Int) (x2_14 : Int) (h : Hp) (K : Hp → Prop) : Prop :=
 HCalls Tryz.prog 138 ⟨[.pointer x0, .int .u32 x1, .agg ⟨[.int .i64 x2_0, .int .u8 x2_1, .int .u8 x2_2, .int .u8 x2_3, .int .u8 x2_4, .int .u8 x2_5, .int .u8 x2_6, .int .u32 x2_7, .int .u8 x2_8, .int .u8 x2_9, .int .u8 x2_10, .int .u8 x2_11, .int .u8 x2_12, .int .u8 x2_13, .int .u32 x2_14]⟩]⟩ h fun _ h' => K h'
def C139 (x0 : Option Addr) (x1_0 : Int) (x1_1 : Int) (x1_2 : Int) (x1_3 : Int) (x1_4 : Int) (x1_5 : Int) (x1_6 : Int) (x1_7 : Int) (x1_8 : Int) (x1_9 : Int) (x1_10 : Int) (x1_11 : Int) (x1_12 : Int) (x1_13 : Int) (x1_14 : Int) (x2 : Int) (x3 : Int) (h : Hp) (K : Sl → Hp → Prop) : Prop :=
 HCalls Tryz.prog 139 ⟨[.pointer x0, .agg ⟨[.int .i64 x1_0, .int .u8 x1_1, .int .u8 x1_2, .int .u8 x1_3, .int .u8 x1_4, .int .u8 x1_5, .int .u8 x1_6, .int .u32 x1_7, .int .u8 x1_8, .int .u8 x1_9, .int .u8 x1_10, .int .u8 x1_11, .int .u8 x1_12, .int .u8 x1_13, .int .u32 x1_14]⟩, .int .u32 x2, .int .i64 x3]⟩ h fun v h' => VT.on (.c (.slice)) (some v) fun r => K r h'
def C140 (x0_0 : Int) (x0_1 : Int) (x0_2 : Int) (x0_3 : Int) (x0_4 : Int) (x0_5 : Int) (x1 : Int) (x2_0 : Int) (x2_1 : Int) (x2_2 : Int) (x2_3 : Int) (x2_4 : Int) (x2_5 : Int) (x2_6 : Int) (x2_7 : Int) (x2_8 : Int) (x2_9 : Int) (x2_10 : Int) (x2_11 : Int) (x2_12 : Int) (x2_13 : Int) (x2_14 : Int) (h : Hp) (K : Bool → Hp → Prop) : Prop :=
 HCalls Tryz.prog 140 ⟨[.agg ⟨[.int .u8 x0_0, .int .u8 x0_1, .int .u8 x0_2, .int .u8 x0_3, .int .u8 x0_4, .int .u8 x0_5]⟩, .int .u32 x1, .agg ⟨[.int .i64 x2_0, .int .u8 x2_1, .int .u8 x2_2, .int .u8 x2_3, .int .u8 x2_4, .int .u8 x2_5, .int .u8 x2_6, .int .u32 x2_7, .int .u8 x2_8, .int .u8 x2_9, .int .u8 x2_10, .int .u8 x2_11, .int .u8 x2_12, .int .u8 x2_13, .int .u32 x2_14]⟩]⟩ h fun v h' => VT.on (.c (.bool)) (some v) fun r => K r h'
def C141 (x0 : Sl) (x1 : Int) (h : Hp) (K : Bool → Hp → Prop) : Prop :=
 HCalls Tryz.prog 141 ⟨[.slice x0.p x0.n x0.c, .int .u32 x1]⟩ h fun v h' => VT.on (.c (.bool)) (some v) fun r => K r h'
def C142 (x0 : Option Addr) (x1_0 : Int) (x1_1 : Int) (x1_2 : Int) (x1_3 : Int) (x1_4 : Int) (x1_5 : Int) (x1_6 : Int) (x1_7 : Int) (x1_8 : Int) (x1_9 : Int) (x1_10 : Int) (x1_11 : Int) (x1_12 : Int) (x1_13 : Int) (x1_14 : Int) (x2 : Bool) (h : Hp) (K : Sl → Hp → Prop) : Prop :=
 HCalls Tryz.prog 142 ⟨[.pointer x0, .agg ⟨[.int .i64 x1_0, .int .u8 x1_1, .int .u8 x1_2, .int .u8 x1_3, .int .u8 x1_4, .int .u8 x1_5, .int .u8 x1_6, .int .u32 x1_7, .int .u8 x1_8, .int .u8 x1_9, .int .u8 x1_10, .int .u8 x1_11, .int .u8 x1_12, .int .u8 x1_13, .int .u32 x1_14]⟩, .bool x2]⟩ h fun v h' => VT.on (.c (.slice)) (some v) fun r => K r h'
def C143 (x0_0 : Int) (x0_1 : Int) (x0_2 : Int) (x0_3 : Int) (x0_4 : Int) (x0_5 : Int) (x1_0 : Int) (x1_1 : Int) (x1_2 : Int) (x1_3 : Int) (x1_4 : Int) (x1_5 : Int) (x1_6 : Int) (x1_7 : Int) (x1_8 : Int) (x1_9 : Int) (x1_10 : Int) (x1_11 : Int) (x1_12 : Int) (x1_13 : Int) (x1_14 : Int) (h : Hp) (K : Int → Int → Int → Int → Int → Int → Int → Int → Int → Int → Int → Int → Int → Int → Int → Hp → Prop) : Prop :=
 HCalls Tryz.prog 143 ⟨[.agg ⟨[.int .u8 x0_0, .int .u8 x0_1, .int .u8 x0_2, .int .u8 x0_3, .int .u8 x0_4, .int .u8 x0_5]⟩, .agg ⟨[.int .i64 x1_0, .int .u8 x1_1, .int .u8 x1_2, .int .u8 x1_3, .int .u8 x1_4, .int .u8 x1_5, .int .u8 x1_6, .int .u32 x1_7, .int .u8 x1_8, .int .u8 x1_9, .int .u8 x1_10, .int .u8 x1_11, .int .u8 x1_12, .int .u8 x1_13, .int .u32 x1_14]⟩]⟩ h fun v h' => VT.on (.agg [.int .i64, .int .u8, .int .u8, .int .u8, .int .u8, .int .u8, .int .u8, .int .u32, .int .u8, .int .u8, .int .u8, .int .u8, .int .u8, .int .u8, .int .u32]) (some v) fun r => K r.1 r.2.1 r.2.2.1 r.2.2.2.1 r.2.2.2.2.1 r.2.2.2.2.2.1 r.2.2.2.2.2.2.1 r.2.2.2.2.2.2.2.1 r.2.2.2.2.2.2.2.2.1 r.2.2.2.2.2.2.2.2.2.1 r.2.2.2.2.2.2.2.2.2.2.1 r.2.2.2.2.2.2.2.2.2.2.2.1 r.2.2.2.2.2.2.2.2.2.2.2.2.1 r.2.2.2.2.2.2.2.2.2.2.2.2.2.1 r.2.2.2.2.2.2.2.2.2.2.2.2.2.2 h'
end Go.Proofs.YtbbnpmikjdgdpaaGreat

set_option linter.unusedVariables false
set_option maxRecDepth 100000
namespace Go.Proofs.YtbbnpmikjdgdpaaGreat
open Go Go.Hw
noncomputable def B50 : Code := match Tryz.f50.body with | some c => c | none => .skip
def N50_l0_b  (Φ : Int → Hp → Prop) (x0 : Int) (h : Hp) (K0 : Int → Hp → Prop) : Prop :=
 bif (decide (x0 > 65535)) then
 Φ (IntKind.wrap .u64 ((IntKind.wrap .u64 (BitVec.ofInt 64 x0 &&& BitVec.ofInt 64 65535).toNat) + (Int.fdiv x0 (2 ^ 16)))) h
 else
 K0 x0 h
def N50_l0_B  (K0 : Int → Hp → Prop) (s : Sg.T [(0, .c (.int .u64))]) (h : Hp) (Φ : Sg.T [(0, .c (.int .u64))] → Hp → Prop) : Prop :=
 N50_l0_b  (fun x0 h => Φ x0 h) s h K0
def N50_l0  (x0 : Int) (h : Hp) (K0 : Int → Hp → Prop) : Prop :=
 loopP (N50_l0_B  K0) x0 h
noncomputable def N50_l0_t : Xf := loopT [] [(0, .c (.int .u64))] (codeAt B50 [1, 0, 0, 0]) fun F Q => N50_l0_B  (fun o0 h' => Q (.exit 0) (Sg.env [(0, .c (.int .u64))] o0) h')
theorem N50_l0_ok : Sound Tryz.prog Tryz.f50.ntmps N50_l0_t (codeAt B50 [1, 0, 0]) := by
 refine loop_sound (fun e => match e with | .exit 0 => [0] | _ => []) (by kernel_rfl) ?_
 intro F Q s h Φ hb
 refine den_sound hE hm _ .leaf _ _ _ (annOk_leaf) ?_
 refine cast ?_ hb
 kernel_rfl
def N50 (x0 : Int) (h : Hp) (K : Int → Hp → Prop) : Prop :=
 N50_l0 x0 h
 (fun n0 h0 =>
 K (IntKind.wrap .u16 n0) h0)
theorem S50 {x0 : Int} {h : Hp} {K : Int → Hp → Prop} (hn : N50 x0 h K) : C50 x0 h K := by
 refine calls_of_D Tryz.func50 (c := B50) rfl (by kernel_rfl) ?_
 refine den_sound hE hm _ (.two .leaf (.two (.one (.xf N50_l0_t)) .leaf)) _ _ _ (⟨annOk_leaf, ⟨N50_l0_ok, annOk_leaf⟩⟩) ?_
 refine cast ?_ hn
 kernel_rfl
end Go.Proofs.YtbbnpmikjdgdpaaGreat

set_option linter.unusedVariables false
set_option maxRecDepth 100000
namespace Go.Proofs.YtbbnpmikjdgdpaaGreat
open Go Go.Hw
noncomputable def B47 : Code := match Tryz.f47.body with | some c => c | none => .skip
def N47 (x0 : Int) (h : Hp) (K : Bool → Hp → Prop) : Prop :=
 bif (decide ((Int.fdiv x0 (2 ^ 24)) > 0)) then
 bif (decide ((Int.fdiv x0 (2 ^ 24)) < 224)) then
 K ((Int.fdiv x0 (2 ^ 24)) != 127) h
 else
 K false h
 else
 K false h
theorem S47 {x0 : Int} {h : Hp} {K : Bool → Hp → Prop} (hn : N47 x0 h K) : C47 x0 h K := by
 refine calls_of_D Tryz.func47 (c := B47) rfl (by kernel_rfl) ?_
 refine den_sound hE hm _ .leaf _ _ _ (annOk_leaf) ?_
 refine cast ?_ hn
 kernel_rfl
end Go.Proofs.YtbbnpmikjdgdpaaGreat

set_option linter.unusedVariables false
set_option maxRecDepth 100000
namespace Go.Proofs.YtbbnpmikjdgdpaaGreat
open Go Go.Hw
noncomputable def B80 : Code := match Tryz.f80.body with | some c => c | none => .skip
def N80 (x0_0 x0_1 x0_2 x0_3 x0_4 x0_5 : Int) (h : Hp) (K : Bool → Hp → Prop) : Prop :=
 nw h (.cells ⟨[.int .u8 x0_0, .int .u8 x0_1, .int .u8 x0_2, .int .u8 x0_3, .int .u8 x0_4, .int .u8 x0_5]⟩ 46) fun b0 h0 =>
 xI .u8 (cell h0 (bk b0)) fun n0 =>
 K ((IntKind.wrap .u8 (BitVec.ofInt 8 n0 &&& BitVec.ofInt 8 1).toNat) == 1) h0
theorem S80 {x0_0 x0_1 x0_2 x0_3 x0_4 x0_5 : Int} {h : Hp} {K : Bool → Hp → Prop} (hn : N80 x0_0 x0_1 x0_2 x0_3 x0_4 x0_5 h K) : C80 x0_0 x0_1 x0_2 x0_3 x0_4 x0_5 h K := by
 refine calls_of_D Tryz.func80 (c := B80) rfl (by kernel_rfl) ?_
 refine den_sound hE hm _ .leaf _ _ _ (annOk_leaf) ?_
 refine cast ?_ hn
 kernel_rfl
end Go.Proofs.YtbbnpmikjdgdpaaGreat

set_option linter.unusedVariables false
set_option maxRecDepth 100000
namespace Go.Proofs.YtbbnpmikjdgdpaaGreat
open Go Go.Hw
noncomputable def B54 : Code := match Tryz.f54.body with | some c => c | none => .skip
def N54  (h : Hp) (K : Int → Int → Int → Int → Int → Int → Hp → Prop) : Prop :=
 nw h (.cells ⟨[.int .u8 0, .int .u8 0, .int .u8 0, .int .u8 0, .int .u8 0, .int .u8 0]⟩ 46) fun b0 h0 =>
 st h0 (bk b0) (.int .u8 255) fun h1 =>
 st h1 ((bk b0).add 1) (.int .u8 255) fun h2 =>
 st h2 ((bk b0).add 2) (.int .u8 255) fun h3 =>
 st h3 ((bk b0).add 3) (.int .u8 255) fun h4 =>
 st h4 ((bk b0).add 4) (.int .u8 255) fun h5 =>
 st h5 ((bk b0).add 5) (.int .u8 255) fun h6 =>
 xI .u8 (cell h6 (bk b0)) fun n0 =>
 xI .u8 (cell h6 ((bk b0).add 1)) fun n1 =>
 xI .u8 (cell h6 ((bk b0).add 2)) fun n2 =>
 xI .u8 (cell h6 ((bk b0).add 3)) fun n3 =>
 xI .u8 (cell h6 ((bk b0).add 4)) fun n4 =>
 xI .u8 (cell h6 ((bk b0).add 5)) fun n5 =>
 K n0 n1 n2 n3 n4 n5 h6
theorem S54 {h : Hp} {K : Int → Int → Int → Int → Int → Int → Hp → Prop} (hn : N54 h K) : C54 h K := by
 refine calls_of_M Tryz.func54 (c := B54) rfl (by kernel_rfl) ?_
 refine den_sound hE hm _ .leaf _ _ _ (annOk_leaf) ?_
 refine cast ?_ hn
 kernel_rfl
end Go.Proofs.YtbbnpmikjdgdpaaGreat

/-
 Numbers of Go: what wraps, what bits do, in Lean's numbers.
-/
set_option linter.unusedSimpArgs false
set_option linter.unusedVariables false
namespace Go.Hw
open Go
theorem wu8 (x : Int) : IntKind.wrap .u8 x = x % 256 := by unfold IntKind.wrap; rfl
theorem wu16 (x : Int) : IntKind.wrap .u16 x = x % 65536 := by unfold IntKind.wrap; rfl
theorem wu32 (x : Int) : IntKind.wrap .u32 x = x % 4294967296 := by unfold IntKind.wrap; rfl
theorem wu64 (x : Int) : IntKind.wrap .u64 x = x % 18446744073709551616 := by unfold IntKind.wrap; rfl
theorem wu8i {x : Int} (h0 : 0 ≤ x) (h1 : x < 256) : IntKind.wrap .u8 x = x := by rw [wu8]; omega
theorem wu16i {x : Int} (h0 : 0 ≤ x) (h1 : x < 65536) : IntKind.wrap .u16 x = x := by rw [wu16]; omega
theorem wu64i {x : Int} (h0 : 0 ≤ x) (h1 : x < 18446744073709551616) : IntKind.wrap .u64 x = x := by rw [wu64]; omega
theorem wi64i {x : Int} (h0 : -9223372036854775808 ≤ x) (h1 : x < 9223372036854775808) : IntKind.wrap .i64 x = x := wrap_id h0 (by omega)
theorem bvn (w : Nat) (n : Nat) (h : n < 2 ^ w) : (BitVec.ofInt w (n : Int)).toNat = n := by
 rw [BitVec.toNat_ofInt]
 have h2 : ((n : Int)) % ((2 ^ w : Nat) : Int) = n := Int.emod_eq_of_lt (by omega) (by exact_mod_cast h)
 simp only [h2]; simp
theorem band_low {w : Nat} {x : Int} (k : Nat) (h0 : 0 ≤ x) (h1 : x < 2 ^ w) (hk : k ≤ w) : ((BitVec.ofInt w x &&& BitVec.ofInt w (2 ^ k - 1)).toNat : Int) = x % 2 ^ k := by
 obtain ⟨n, rfl⟩ := Int.eq_ofNat_of_zero_le h0
 have hn : n < 2 ^ w := by exact_mod_cast h1
 have hm : (2 ^ k - 1 : Int) = ((2 ^ k - 1 : Nat) : Int) := by
  have : 1 ≤ 2 ^ k := Nat.one_le_two_pow
  rw [Int.natCast_sub this]; push_cast; rfl
 have hm2 : 2 ^ k - 1 < 2 ^ w := by
  have : 2 ^ k ≤ 2 ^ w := Nat.pow_le_pow_right (by omega) hk
  have : 1 ≤ 2 ^ k := Nat.one_le_two_pow
  omega
 rw [hm, BitVec.toNat_and, bvn w n hn, bvn w _ hm2, Nat.and_two_pow_sub_one_eq_mod]
 push_cast; rfl
theorem bor_low {w : Nat} {x y : Int} (k : Nat) (hx0 : 0 ≤ x) (hx : x * 2 ^ k < 2 ^ w) (hy0 : 0 ≤ y) (hy : y < 2 ^ k) (hk : k ≤ w) : ((BitVec.ofInt w (x * 2 ^ k) ||| BitVec.ofInt w y).toNat : Int) = x * 2 ^ k + y := by
 obtain ⟨a, rfl⟩ := Int.eq_ofNat_of_zero_le hx0
 obtain ⟨b, rfl⟩ := Int.eq_ofNat_of_zero_le hy0
 have ha : a * 2 ^ k < 2 ^ w := by exact_mod_cast hx
 have hb : b < 2 ^ k := by exact_mod_cast hy
 have hb2 : b < 2 ^ w := Nat.lt_of_lt_of_le hb (Nat.pow_le_pow_right (by omega) hk)
 have e : ((a : Int) * 2 ^ k) = ((a * 2 ^ k : Nat) : Int) := by push_cast; rfl
 rw [e, BitVec.toNat_or, bvn w _ ha, bvn w b hb2]
 rw [← Nat.shiftLeft_eq, ← Nat.shiftLeft_add_eq_or_of_lt hb, Nat.shiftLeft_eq]
 push_cast; rfl
theorem bxor_all {w : Nat} {x : Int} (h0 : 0 ≤ x) (h1 : x < 2 ^ w) : ((BitVec.ofInt w (2 ^ w - 1) ^^^ BitVec.ofInt w x).toNat : Int) = 2 ^ w - 1 - x := by
 obtain ⟨n, rfl⟩ := Int.eq_ofNat_of_zero_le h0
 have hn : n < 2 ^ w := by exact_mod_cast h1
 have e1 : BitVec.ofInt w (2 ^ w - 1) = BitVec.allOnes w := by
  apply BitVec.eq_of_toNat_eq
  have h1 : 1 ≤ 2 ^ w := Nat.one_le_two_pow
  have hm : (2 ^ w - 1 : Int) = ((2 ^ w - 1 : Nat) : Int) := by rw [Int.natCast_sub h1]; push_cast; rfl
  rw [hm, bvn w _ (by omega), BitVec.toNat_allOnes]
 rw [e1, BitVec.allOnes_xor, BitVec.toNat_not, bvn w n hn]
 have h1 : 1 ≤ 2 ^ w := Nat.one_le_two_pow
 have : n ≤ 2 ^ w - 1 := by omega
 rw [Int.natCast_sub this, Int.natCast_sub h1]
 push_cast; rfl
theorem not16 {x : Int} (h0 : 0 ≤ x) (h1 : x < 65536) : IntKind.wrap .u16 (BitVec.ofInt 16 65535 ^^^ BitVec.ofInt 16 x).toNat = 65535 - x := by
 have := bxor_all (w := 16) h0 h1
 rw [show ((2 : Int) ^ 16 - 1) = 65535 from rfl] at this
 rw [this, wu16]; omega
theorem not32 {x : Int} (h0 : 0 ≤ x) (h1 : x < 4294967296) : IntKind.wrap .u32 (BitVec.ofInt 32 4294967295 ^^^ BitVec.ofInt 32 x).toNat = 4294967295 - x := by
 have := bxor_all (w := 32) h0 h1
 rw [show ((2 : Int) ^ 32 - 1) = 4294967295 from rfl] at this
 rw [this, wu32]; omega
theorem u8r (b : UInt8) : 0 ≤ (b.toNat : Int) ∧ (b.toNat : Int) < 256 := by have := b.toNat_lt; omega
theorem nat_succ64 {i : Nat} (h : i < 9223372036854775807) : IntKind.wrap .i64 ((i : Int) + 1) = ((i + 1 : Nat) : Int) := by rw [wi64i (by omega) (by omega)]; omega
end Go.Hw

/-
  What stands in separate blocks: a list of assertions, each with blocks of its own.
-/
set_option linter.unusedSimpArgs false
set_option linter.unusedVariables false
namespace Go.Hw
open Go
structure Asn where
  on : (Nat → Prop) → Hp → Prop
  loc : ∀ {F : Nat → Prop} {h h' : Hp}, (∀ x, F x → h' x = h x) → on F h → on F h'
  dom : ∀ {F : Nat → Prop} {h : Hp} {x : Nat}, on F h → F x → h x ≠ none
def Sat (L : List Asn) (h : Hp) : Prop :=
  ∃ F : Nat → Nat → Prop, (∀ (i : Nat) (A : Asn), L[i]? = some A → A.on (F i) h) ∧ ∀ i j x, i < L.length → j < L.length → F i x → F j x → i = j
theorem Sat.get {L : List Asn} {h : Hp} (hs : Sat L h) {i : Nat} {A : Asn} (hi : L[i]? = some A) : ∃ F, A.on F h := let ⟨F, h1, _⟩ := hs; ⟨F i, h1 i A hi⟩
theorem lt_of_get {α : Type} {l : List α} {i : Nat} {x : α} (h : l[i]? = some x) : i < l.length := (List.getElem?_eq_some_iff.1 h).1
theorem get_of_lt {α : Type} {l : List α} {i : Nat} (h : i < l.length) : ∃ x, l[i]? = some x := ⟨l[i], List.getElem?_eq_getElem h⟩
theorem Sat.step {L : List Asn} {h h' : Hp} {i : Nat} {A A' : Asn} (hs : Sat L h) (hi : L[i]? = some A)
    (hst : ∀ F, A.on F h → ∃ F', A'.on F' h' ∧ (∀ x, F' x → F x ∨ h x = none) ∧ ∀ x, ¬ F x → h x ≠ none → h' x = h x) : Sat (L.set i A') h' := by
  obtain ⟨F, h1, h2⟩ := hs
  obtain ⟨F', g1, g2, g3⟩ := hst _ (h1 i A hi)
  have hil := lt_of_get hi
  have dm : ∀ j x, j < L.length → F j x → h x ≠ none := fun j x hj hx => let ⟨B, hB⟩ := get_of_lt hj; B.dom (h1 j B hB) hx
  refine ⟨fun j => if j = i then F' else F j, ?_, ?_⟩
  · intro j B hj
    by_cases e : j = i
    · subst e
      rw [List.getElem?_set_self hil] at hj
      cases hj; simpa using g1
    · rw [List.getElem?_set_ne (fun q => e q.symm)] at hj
      simp only [if_neg e]
      refine B.loc ?_ (h1 j B hj)
      intro x hx
      refine g3 x (fun hq => e (h2 j i x (lt_of_get hj) hil hx hq)) (dm j x (lt_of_get hj) hx)
  · intro j k x hj hk hx hy
    rw [List.length_set] at hj hk
    by_cases e : j = i
    · subst e
      simp only [if_true] at hx
      by_cases e2 : k = j
      · exact e2.symm
      · simp only [if_neg e2] at hy
        rcases g2 x hx with q | q
        · exact h2 j k x hj hk q hy
        · exact (dm k x hk hy q).elim
    · simp only [if_neg e] at hx
      by_cases e2 : k = i
      · subst e2
        simp only [if_true] at hy
        rcases g2 x hy with q | q
        · exact h2 j k x hj hk hx q
        · exact (dm j x hj hx q).elim
      · simp only [if_neg e2] at hy
        exact h2 j k x hj hk hx hy
theorem Sat.ext {L : List Asn} {h h' : Hp} (hs : Sat L h) (he : Ext none' h h') : Sat L h' := by
  obtain ⟨F, h1, h2⟩ := hs
  refine ⟨F, fun i A hi => ?_, h2⟩
  refine A.loc (fun x hx => ?_) (h1 i A hi)
  cases hq : h x with
  | none => exact (A.dom (h1 i A hi) hx hq).elim
  | some o => exact he x o hq (fun e => e)
theorem Sat.more {L : List Asn} {h h' : Hp} {A : Asn} {F' : Nat → Prop} (hs : Sat L h) (he : Ext none' h h') (ha : A.on F' h') (hf : ∀ x, F' x → h x = none) : Sat (L ++ [A]) h' := by
  have hs' := hs.ext he
  obtain ⟨F, h1, h2⟩ := hs
  have dm : ∀ j x, j < L.length → F j x → h x ≠ none := fun j x hj hx => let ⟨B, hB⟩ := get_of_lt hj; B.dom (h1 j B hB) hx
  refine ⟨fun j => if j = L.length then F' else F j, ?_, ?_⟩
  · intro j B hj
    by_cases e : j = L.length
    · subst e
      simp at hj; subst hj; simpa using ha
    · have hlt : j < L.length := by have := lt_of_get hj; simp at this; omega
      rw [List.getElem?_append_left hlt] at hj
      simp only [if_neg e]
      refine B.loc (fun x hx => ?_) (h1 j B hj)
      cases hq : h x with
      | none => exact (dm j x hlt hx hq).elim
      | some o => exact he x o hq (fun e => e)
  · intro j k x hj hk hx hy
    simp at hj hk
    by_cases e : j = L.length
    · simp only [e, if_true] at hx
      by_cases e2 : k = L.length
      · omega
      · simp only [if_neg e2] at hy; exact (dm k x (by omega) hy (hf x hx)).elim
    · simp only [if_neg e] at hx
      by_cases e2 : k = L.length
      · simp only [e2, if_true] at hy; exact (dm j x (by omega) hx (hf x hy)).elim
      · simp only [if_neg e2] at hy; exact h2 j k x (by omega) (by omega) hx hy
theorem Sat.pick {L M : List Asn} {h : Hp} (hs : Sat L h) (f : Nat → Nat) (hf : ∀ (i : Nat) (A : Asn), M[i]? = some A → L[f i]? = some A) (hi : ∀ i j, i < M.length → j < M.length → f i = f j → i = j) : Sat M h := by
  obtain ⟨F, h1, h2⟩ := hs
  refine ⟨fun i => F (f i), fun i A hA => h1 _ A (hf i A hA), fun i j x hil hjl hx hy => ?_⟩
  obtain ⟨A, hA⟩ := get_of_lt hil
  obtain ⟨B, hB⟩ := get_of_lt hjl
  exact hi i j hil hjl (h2 _ _ x (lt_of_get (hf i A hA)) (lt_of_get (hf j B hB)) hx hy)
theorem Sat.left {L M : List Asn} {h : Hp} (hs : Sat (L ++ M) h) : Sat L h :=
  hs.pick (fun i => i) (fun i A hA => by rw [List.getElem?_append_left (lt_of_get hA)]; exact hA) (fun _ _ _ _ e => e)
def was (h0 : Hp) : Asn := ⟨fun F h => ∀ x, (F x ↔ h0 x ≠ none) ∧ (F x → h x = h0 x), fun hl h x => ⟨(h x).1, fun hx => (hl x hx).trans ((h x).2 hx)⟩, fun {F h x} hh hx => by rw [(hh x).2 hx]; exact ((hh x).1).1 hx⟩
def pt (b : Nat) (o : Obj) : Asn := ⟨fun F h => (∀ x, F x ↔ x = b) ∧ h b = some o, fun hl h => ⟨h.1, (hl b ((h.1 b).2 rfl)).trans h.2⟩, fun {F h x} hh hx => by rw [(hh.1 x).1 hx, hh.2]; simp⟩
def row (b : Nat) (T : TypeId) (cs : List Value) : Asn := pt b (.cells ⟨cs⟩ T (0, 0))
def own (T : TypeId) (sz : Nat) (s : Sl) (vs : List Value) : Asn :=
  ⟨fun F h => (∀ x, F x ↔ s.p = some (bk x)) ∧ Own h T sz s vs,
   fun {F h h'} hl hh => ⟨hh.1, by
    obtain ⟨h1, h2, h3⟩ := hh.2
    refine ⟨h1, h2, ?_⟩
    cases hp : s.p with
    | none => rw [hp] at h3; exact h3
    | some a =>
      rw [hp] at h3
      obtain ⟨e, cs, hb, hr⟩ := h3
      exact ⟨e, cs, (hl a.block ((hh.1 _).2 (by rw [hp, e]))).trans hb, hr⟩⟩,
   fun {F h x} hh hx => by
    have hp := (hh.1 x).1 hx
    have h3 := hh.2.2.2
    rw [hp] at h3
    obtain ⟨_, cs, hb, _⟩ := h3
    rw [show h x = _ from hb]; simp⟩
def pur (p : Prop) : Asn := ⟨fun F _ => (∀ x, ¬ F x) ∧ p, fun _ h => h, fun h hx => (h.1 _ hx).elim⟩
def exs {α : Type} (A : α → Asn) : Asn := ⟨fun F h => ∃ a, (A a).on F h, fun hl ⟨a, h⟩ => ⟨a, (A a).loc hl h⟩, fun ⟨a, h⟩ hx => (A a).dom h hx⟩
def star (M : List Asn) : Asn :=
  ⟨fun F h => ∃ G : Nat → Nat → Prop, (∀ (i : Nat) (A : Asn), M[i]? = some A → A.on (G i) h) ∧ (∀ i j x, i < M.length → j < M.length → G i x → G j x → i = j) ∧ ∀ x, F x ↔ ∃ i, i < M.length ∧ G i x,
   fun hl ⟨G, h1, h2, h3⟩ => ⟨G, fun i A hi => A.loc (fun x hx => hl x ((h3 x).2 ⟨i, lt_of_get hi, hx⟩)) (h1 i A hi), h2, h3⟩,
   fun {F h x} ⟨G, h1, h2, h3⟩ hx => by
    obtain ⟨i, hi, hg⟩ := (h3 x).1 hx
    obtain ⟨A, hA⟩ := get_of_lt hi
    exact A.dom (h1 i A hA) hg⟩
theorem Sat.open {L M : List Asn} {h : Hp} (hs : Sat (L ++ [star M]) h) : Sat (L ++ M) h := by
  obtain ⟨F, h1, h2⟩ := hs
  obtain ⟨G, g1, g2, g3⟩ := h1 L.length (star M) (by simp)
  refine ⟨fun i => if i < L.length then F i else G (i - L.length), ?_, ?_⟩
  · intro i A hi
    by_cases e : i < L.length
    · simp only [if_pos e]
      rw [List.getElem?_append_left e] at hi
      exact h1 i A (by rw [List.getElem?_append_left e]; exact hi)
    · simp only [if_neg e]
      rw [List.getElem?_append_right (by omega)] at hi
      exact g1 _ A hi
  · intro i j x hi hj hx hy
    simp only [List.length_append] at hi hj
    have key : ∀ i, i < L.length → ∀ j, ¬ j < L.length → j < L.length + M.length → F i x → G (j - L.length) x → False := by
      intro i hi j hj hj2 hx hy
      have := h2 i L.length x (by simp; omega) (by simp) hx ((g3 x).2 ⟨_, by omega, hy⟩)
      omega
    by_cases e : i < L.length
    · simp only [if_pos e] at hx
      by_cases e2 : j < L.length
      · simp only [if_pos e2] at hy
        exact h2 i j x (by simp; omega) (by simp; omega) hx hy
      · simp only [if_neg e2] at hy
        exact (key i e j e2 hj hx hy).elim
    · simp only [if_neg e] at hx
      by_cases e2 : j < L.length
      · simp only [if_pos e2] at hy
        exact (key j e2 i e hi hy hx).elim
      · simp only [if_neg e2] at hy
        have := g2 _ _ x (by omega) (by omega) hx hy
        omega
theorem Sat.close {L M : List Asn} {h : Hp} (hs : Sat (L ++ M) h) : Sat (L ++ [star M]) h := by
  obtain ⟨F, h1, h2⟩ := hs
  refine ⟨fun i => if i < L.length then F i else fun x => ∃ k, k < M.length ∧ F (L.length + k) x, ?_, ?_⟩
  · intro i A hi
    by_cases e : i < L.length
    · simp only [if_pos e]
      rw [List.getElem?_append_left e] at hi
      exact h1 i A (by rw [List.getElem?_append_left e]; exact hi)
    · simp only [if_neg e]
      have hlt := lt_of_get hi
      simp at hlt
      have : i = L.length := by omega
      subst this
      simp at hi; subst hi
      refine ⟨fun k => F (L.length + k), fun k A hk => h1 _ A (by rw [List.getElem?_append_right (by omega)]; simpa using hk), fun k l x hk hl hx hy => ?_, fun x => Iff.rfl⟩
      have := h2 _ _ x (by simp; omega) (by simp; omega) hx hy
      omega
  · intro i j x hi hj hx hy
    simp at hi hj
    by_cases e : i < L.length
    · simp only [if_pos e] at hx
      by_cases e2 : j < L.length
      · simp only [if_pos e2] at hy
        exact h2 i j x (by simp; omega) (by simp; omega) hx hy
      · simp only [if_neg e2] at hy
        obtain ⟨k, hk, hy⟩ := hy
        have := h2 _ _ x (by simp; omega) (by simp; omega) hx hy
        omega
    · simp only [if_neg e] at hx
      by_cases e2 : j < L.length
      · simp only [if_pos e2] at hy
        obtain ⟨k, hk, hx⟩ := hx
        have := h2 _ _ x (by simp; omega) (by simp; omega) hx hy
        omega
      · omega
theorem Sat.rot {L M : List Asn} {h : Hp} (hs : Sat (L ++ M) h) (j : Nat) {A : Asn} (hj : M[j]? = some A) : Sat ((L ++ M.eraseIdx j) ++ [A]) h := by
  have hjl := lt_of_get hj
  have hel : (M.eraseIdx j).length + 1 = M.length := by rw [List.length_eraseIdx_of_lt hjl]; omega
  refine hs.pick (fun i => if i < L.length + j then i else if i = L.length + (M.length - 1) then L.length + j else i + 1) ?_ ?_
  · intro i B hi
    have hlt := lt_of_get hi
    simp only [List.length_append, List.length_singleton] at hlt
    by_cases e : i < L.length + j
    · simp only [if_pos e]
      rw [List.getElem?_append_left (by simp; omega)] at hi
      by_cases e2 : i < L.length
      · rw [List.getElem?_append_left e2] at hi ⊢; exact hi
      · rw [List.getElem?_append_right (by omega)] at hi ⊢
        rw [List.getElem?_eraseIdx_of_lt (by omega)] at hi; exact hi
    · simp only [if_neg e]
      by_cases e2 : i = L.length + (M.length - 1)
      · simp only [if_pos e2]
        rw [List.getElem?_append_right (by simp; omega)] at hi
        have : i - (L ++ M.eraseIdx j).length = 0 := by simp; omega
        rw [this] at hi
        simp at hi
        rw [List.getElem?_append_right (by omega)]
        simp only [Nat.add_sub_cancel_left]
        rw [hj, hi]
      · simp only [if_neg e2]
        rw [List.getElem?_append_left (by simp; omega)] at hi
        rw [List.getElem?_append_right (by omega)] at hi ⊢
        rw [List.getElem?_eraseIdx_of_ge (by omega)] at hi
        rw [show i + 1 - L.length = i - L.length + 1 by omega]; exact hi
  · intro i k hi hk e
    simp only [List.length_append, List.length_singleton] at hi hk
    split at e <;> split at e <;> (try split at e) <;> (try split at e) <;> omega
theorem Sat.back {L M : List Asn} {h : Hp} {j : Nat} {A' : Asn} (hs : Sat ((L ++ M.eraseIdx j) ++ [A']) h) (hjl : j < M.length) : Sat (L ++ M.set j A') h := by
  have hel : (M.eraseIdx j).length + 1 = M.length := by rw [List.length_eraseIdx_of_lt hjl]; omega
  refine hs.pick (fun i => if i < L.length + j then i else if i = L.length + j then L.length + (M.length - 1) else i - 1) ?_ ?_
  · intro i B hi
    have hlt := lt_of_get hi
    simp only [List.length_append, List.length_set] at hlt
    by_cases e : i < L.length + j
    · simp only [if_pos e]
      rw [List.getElem?_append_left (by simp; omega)]
      by_cases e2 : i < L.length
      · rw [List.getElem?_append_left e2] at hi ⊢; exact hi
      · rw [List.getElem?_append_right (by omega)] at hi ⊢
        rw [List.getElem?_eraseIdx_of_lt (by omega)]
        rw [List.getElem?_set_ne (by omega)] at hi; exact hi
    · simp only [if_neg e]
      by_cases e2 : i = L.length + j
      · simp only [if_pos e2]
        rw [List.getElem?_append_right (by simp; omega)]
        have : L.length + (M.length - 1) - (L ++ M.eraseIdx j).length = 0 := by simp; omega
        rw [this]
        rw [List.getElem?_append_right (by omega)] at hi
        rw [show i - L.length = j by omega, List.getElem?_set_self hjl] at hi
        simpa using hi
      · simp only [if_neg e2]
        rw [List.getElem?_append_left (by simp; omega)]
        rw [List.getElem?_append_right (by omega)] at hi ⊢
        rw [List.getElem?_eraseIdx_of_ge (by omega)]
        rw [List.getElem?_set_ne (by omega)] at hi
        rw [show i - 1 - L.length + 1 = i - L.length by omega]; exact hi
  · intro i k hi hk e
    simp only [List.length_append, List.length_set] at hi hk
    split at e <;> split at e <;> (try split at e) <;> (try split at e) <;> omega
theorem Sat.imp {L M : List Asn} {h : Hp} (hs : Sat (L ++ M) h) (j : Nat) {A A' : Asn} (hj : M[j]? = some A) (hi : ∀ F, A.on F h → A'.on F h) : Sat (L ++ M.set j A') h := by
  have hjl := lt_of_get hj
  have := Sat.step (i := L.length + j) (A := A) (A' := A') (h' := h) hs (by rw [List.getElem?_append_right (by omega)]; simpa using hj) (fun F hF => ⟨F, hi F hF, fun x hx => .inl hx, fun _ _ _ => rfl⟩)
  rwa [List.set_append_right _ _ (by omega), Nat.add_sub_cancel_left] at this
theorem Sat.at {L M : List Asn} {h h' : Hp} (hs : Sat (L ++ M) h) (j : Nat) {A A' : Asn} (hj : M[j]? = some A)
    (hst : ∀ F, A.on F h → ∃ F', A'.on F' h' ∧ (∀ x, F' x → F x ∨ h x = none) ∧ ∀ x, ¬ F x → h x ≠ none → h' x = h x) : Sat (L ++ M.set j A') h' := by
  have hjl := lt_of_get hj
  have := Sat.step (i := L.length + j) (A := A) (A' := A') (h' := h') hs (by rw [List.getElem?_append_right (by omega)]; simpa using hj) hst
  rwa [List.set_append_right _ _ (by omega), Nat.add_sub_cancel_left] at this
theorem Sat.get' {L M : List Asn} {h : Hp} (hs : Sat (L ++ M) h) (j : Nat) {A : Asn} (hj : M[j]? = some A) : ∃ F, A.on F h :=
  hs.get (i := L.length + j) (by rw [List.getElem?_append_right (by omega)]; simpa using hj)
theorem Sat.add {L M : List Asn} {h h' : Hp} {A : Asn} {F' : Nat → Prop} (hs : Sat (L ++ M) h) (he : Ext none' h h') (ha : A.on F' h') (hf : ∀ x, F' x → h x = none) : Sat (L ++ (M ++ [A])) h' := by
  rw [← List.append_assoc]; exact hs.more he ha hf
theorem Sat.blk {L M : List Asn} {h : Hp} (hs : Sat (L ++ M) h) (j : Nat) {b : Nat} {T : TypeId} {cs : List Value} (hj : M[j]? = some (row b T cs)) : Blk h b T cs := let ⟨_, hF⟩ := hs.get' j hj; hF.2
theorem Sat.own {L M : List Asn} {h : Hp} (hs : Sat (L ++ M) h) (j : Nat) {T : TypeId} {sz : Nat} {s : Sl} {vs : List Value} (hj : M[j]? = some (Hw.own T sz s vs)) : Own h T sz s vs := let ⟨_, hF⟩ := hs.get' j hj; hF.2
theorem Sat.was {L M : List Asn} {h h0 : Hp} (hs : Sat (L ++ M) h) (j : Nat) (hj : M[j]? = some (Hw.was h0)) : Ext none' h0 h := by
  obtain ⟨F, hF⟩ := hs.get' j hj
  intro b o hb _
  have := (hF b).2 ((hF b).1.2 (by rw [hb]; simp))
  rw [this]; exact hb
theorem Sat.pur {L M : List Asn} {h : Hp} (hs : Sat (L ++ M) h) (j : Nat) {p : Prop} (hj : M[j]? = some (Hw.pur p)) : p := let ⟨_, hF⟩ := hs.get' j hj; hF.2
theorem Sat.put {L M : List Asn} {h : Hp} (hs : Sat (L ++ M) h) (j : Nat) {b : Nat} {o o' : Obj} (hj : M[j]? = some (Hw.pt b o)) : Sat (L ++ M.set j (Hw.pt b o')) (upd h b o') :=
  hs.at j hj fun F hF => ⟨F, ⟨hF.1, upd_same⟩, fun x hx => .inl hx, fun x hx _ => upd_ne (fun e => hx ((hF.1 x).2 e))⟩
theorem Sat.new {L M : List Asn} {h : Hp} {b : Nat} (hs : Sat (L ++ M) h) (hb : h b = none) (o : Obj) : Sat (L ++ (M ++ [Hw.pt b o])) (upd h b o) :=
  hs.add (Ext.new hb) (F' := fun x => x = b) ⟨fun _ => Iff.rfl, upd_same⟩ (fun x hx => by rw [hx]; exact hb)
theorem Sat.st {L M : List Asn} {h : Hp} {b k : Nat} {T : TypeId} {cs : List Value} {v : Value} {F : Hp → Prop} (hs : Sat (L ++ M) h) (j : Nat) (hj : M[j]? = some (row b T cs)) (hk : k < cs.length) (hp : plain v = true)
    (hF : ∀ h', Sat (L ++ M.set j (row b T (cs.set k v))) h' → F h') : Hw.st h ⟨b, k, none⟩ v F :=
  (hs.blk j hj).st hk hp (hF _ (hs.put j hj))
theorem Sat.addOwn {L M : List Asn} {h h' : Hp} {T : TypeId} {sz : Nat} {s : Sl} {vs : List Value} (hs : Sat (L ++ M) h) (he : Ext none' h h') (ho : Own h' T sz s vs) (hf : ∀ b, s.p = some (bk b) → h b = none) : Sat (L ++ (M ++ [Hw.own T sz s vs])) h' :=
  hs.add he (F' := fun x => s.p = some (bk x)) ⟨fun _ => Iff.rfl, ho⟩ hf
theorem Sat.ap {P : Program} {L M : List Asn} {T : TypeId} {sz : Nat} {s : Sl} {vs ns : List Value} {y : Value} {h : Hp} {F : Sl → Hp → Prop} {n : Nat} (hs : Sat (L ++ M) h) (j : Nat) (hj : M[j]? = some (Hw.own T sz s vs))
    (hsz : P.cellsOf T = sz) (hz : (zc P T).length = sz) (hln : ∀ G : Nat → Prop, lnK y G = G n) (hsrc : ∀ G : List Value → Prop, G ns → srcK h sz n y G)
    (hns : ns.length = n * sz) (hpl : ∀ v ∈ ns, plain v = true) (hby : (s.n + n) * 2 * P.bytesOf T ≤ 2 ^ 48)
    (hF : ∀ s' h', Sat (L ++ M.set j (Hw.own T sz s' (vs ++ ns))) h' → s'.n = s.n + n → F s' h') : apK P T s y h F := by
  refine apK_own (hs.own j hj) hsz hz hln hsrc hns hpl hby ?_
  intro s' h' ho hn he hr
  refine hF s' h' (hs.at j hj fun G hG => ⟨fun x => s'.p = some (bk x), ⟨fun _ => Iff.rfl, ho⟩, fun x hx => ?_, fun x hx hne => ?_⟩) hn
  · rcases hr x hx with e | e
    · exact .inl ((hG.1 x).2 e)
    · exact .inr e
  · cases hq : h x with
    | none => exact (hne hq).elim
    | some o => exact he x o hq (fun e => hx ((hG.1 x).2 e))
theorem Sat.into {L X : List Asn} {A : Asn} {h : Hp} (hs : Sat (L ++ [star X, A]) h) : Sat (L ++ [star (X ++ [A])]) h := by
  have h1 := hs.rot 0 rfl
  have h2 := h1.open
  rw [show (L ++ [star X, A].eraseIdx 0) ++ X = L ++ (A :: X) by simp] at h2
  have h3 := h2.rot 0 rfl
  rw [show (L ++ (A :: X).eraseIdx 0) ++ [A] = L ++ (X ++ [A]) by simp] at h3
  exact h3.close
def orA (A B : Asn) : Asn := ⟨fun F h => A.on F h ∨ B.on F h, fun hl hh => hh.imp (A.loc hl) (B.loc hl), fun hh hx => hh.elim (fun h => A.dom h hx) (fun h => B.dom h hx)⟩
end Go.Hw

/-
 Bytes: slices that read as lists of bytes; rows that are pushed to; new slices.
-/
set_option linter.unusedSimpArgs false
set_option linter.unusedVariables false
namespace Go.Hw
open Go
theorem cellx {h h' : Hp} (he : Ext none' h h') {a : Addr} {v : Value} (hc : cell h a = some v) : cell h' a = some v := by
 unfold cell at hc ⊢
 cases hb : h a.block with
 | none => rw [hb] at hc; cases hc
 | some o => rw [hb] at hc; rw [he _ _ hb (fun e => e)]; exact hc
theorem addadd (a : Addr) (m n : Nat) : (a.add m).add n = a.add (m + n) := by
 unfold Addr.add
 by_cases h1 : m = 0
 ·subst h1; simp
 ·by_cases h2 : n = 0
  ·subst h2; simp
  ·simp [h1, h2, Nat.add_assoc]
@[simp] theorem addzero (a : Addr) : a.add 0 = a := by simp [Addr.add]
def Rdc (h : Hp) (p : Option Addr) (vs : List Value) : Prop := ∀ (i : Nat) (v : Value), vs[i]? = some v → ∃ a, p = some a ∧ cell h (a.add i) = some v
theorem Rdc.ext {h h' : Hp} {p : Option Addr} {vs : List Value} (H : Rdc h p vs) (he : Ext none' h h') : Rdc h' p vs := fun i v hi => let ⟨a, hp, hc⟩ := H i v hi; ⟨a, hp, cellx he hc⟩
theorem Rdc.drop {h : Hp} {a : Addr} {vs : List Value} (H : Rdc h (some a) vs) (k : Nat) : Rdc h (some (a.add k)) (vs.drop k) := by
 intro i v hi
 rw [List.getElem?_drop] at hi
 obtain ⟨b, hb, hc⟩ := H _ v hi
 cases hb
 exact ⟨_, rfl, by rw [addadd]; exact hc⟩
theorem Rdc.take {h : Hp} {p : Option Addr} {vs : List Value} (H : Rdc h p vs) (k : Nat) : Rdc h p (vs.take k) := by
 intro i v hi
 rw [List.getElem?_take] at hi
 split at hi
 ·exact H i v hi
 ·cases hi
theorem Rdc.rdN {h : Hp} {a : Addr} {vs : List Value} (H : Rdc h (some a) vs) : ∀ (n i : Nat), i + n ≤ vs.length → Hw.rdN h a i n = some ((vs.drop i).take n) := by
 intro n
 induction n with
 | zero => intro i _; simp [Hw.rdN]
 | succ n ih =>
  intro i hi
  have hlt : i < vs.length := by omega
  obtain ⟨b, hb, hc⟩ := H i vs[i] (List.getElem?_eq_getElem hlt)
  cases hb
  simp only [Hw.rdN, hc, ih (i + 1) (by omega)]
  rw [List.drop_eq_getElem_cons hlt, List.take_succ_cons]
theorem Blk.rdc {h : Hp} {b : Nat} {T : TypeId} {cs : List Value} (hb : Blk h b T cs) : Rdc h (some (bk b)) cs := fun i v hi => ⟨_, rfl, by rw [add_bk, hb.cell]; exact hi⟩
theorem Own.rdc {h : Hp} {T : TypeId} {sz : Nat} {s : Sl} {vs : List Value} (ho : Own h T sz s vs) : Rdc h s.p vs := by
 intro i v hi
 obtain ⟨b, hp, hc⟩ := ho.get hi
 exact ⟨bk b, hp, by rw [add_bk]; exact hc⟩
def bc (l : List UInt8) : List Value := l.map fun b => .int .u8 b.toNat
@[simp] theorem bc_len (l : List UInt8) : (bc l).length = l.length := by simp [bc]
@[simp] theorem bc_nil : bc [] = [] := rfl
@[simp] theorem bc_cons (b : UInt8) (l : List UInt8) : bc (b :: l) = .int .u8 b.toNat :: bc l := rfl
theorem bc_app (l m : List UInt8) : bc (l ++ m) = bc l ++ bc m := by simp [bc]
theorem bc_get (l : List UInt8) (i : Nat) : (bc l)[i]? = l[i]?.map fun b => .int .u8 b.toNat := by simp [bc]
theorem bc_take (l : List UInt8) (n : Nat) : bc (l.take n) = (bc l).take n := by simp [bc, List.map_take]
theorem bc_drop (l : List UInt8) (n : Nat) : bc (l.drop n) = (bc l).drop n := by simp [bc, List.map_drop]
theorem bc_set (l : List UInt8) (n : Nat) (b : UInt8) : bc (l.set n b) = (bc l).set n (.int .u8 b.toNat) := by simp [bc, List.map_set]
theorem bc_plain {l : List UInt8} : ∀ v ∈ bc l, plain v = true := by
 intro v hv
 obtain ⟨b, _, rfl⟩ := List.mem_map.1 hv
 rfl
theorem cbytes_bc : ∀ (l : List UInt8), cbytes (bc l) = some l := by
 intro l
 induction l with
 | nil => rfl
 | cons b l ih => simp only [bc_cons, cbytes, ih]; simp
structure RdB (h : Hp) (s : Sl) (l : List UInt8) : Prop where
 n : s.n = l.length
 c : s.n ≤ s.c
 r : Rdc h s.p (bc l)
theorem RdB.ext {h h' : Hp} {s : Sl} {l : List UInt8} (H : RdB h s l) (he : Ext none' h h') : RdB h' s l := ⟨H.n, H.c, H.r.ext he⟩
theorem Own.rdb {h : Hp} {T : TypeId} {s : Sl} {l : List UInt8} (ho : Own h T 1 s (bc l)) : RdB h s l := ⟨by have := ho.1; simpa using this.symm, ho.2.1, ho.rdc⟩
theorem RdB.nil {h : Hp} {p : Option Addr} {c : Nat} : RdB h ⟨p, 0, c⟩ [] := ⟨rfl, Nat.zero_le _, by intro i v hi; simp at hi⟩
theorem RdB.get {h : Hp} {s : Sl} {l : List UInt8} (H : RdB h s l) {i : Nat} (hi : i < l.length) : ∃ a, s.p = some a ∧ cell h (a.add i) = some (.int .u8 (l[i]'hi).toNat) :=
 H.r i _ (by rw [bc_get, List.getElem?_eq_getElem hi]; rfl)
theorem RdB.at {h : Hp} {s : Sl} {l : List UInt8} (H : RdB h s l) {x : Int} {i : Nat} (hx : x = i) (hi : i < l.length) {F : Int → Prop} (hF : F ((l[i]'hi).toNat : Int)) :
  idx x s.n (nn s.p fun a => xI .u8 (cell h (a.add (x.toNat * 1))) F) := by
 obtain ⟨a, hp, hc⟩ := H.get hi
 refine idx_of (by omega) (by have := H.n; omega) ?_
 rw [hp]
 subst hx
 simp only [nn_some', Nat.mul_one, Int.toNat_natCast, hc, xI_some]
 exact hF
theorem RdB.b2s {h : Hp} {s : Sl} {l : List UInt8} (H : RdB h s l) {F : ByteArray → Prop} (hF : F ⟨⟨l⟩⟩) : Hw.b2s h s.p s.n F := by
 unfold Hw.b2s
 cases hp : s.p with
 | none =>
  have : l = [] := by
   cases l with
   | nil => rfl
   | cons b l => obtain ⟨a, ha, _⟩ := H.get (i := 0) (by simp); rw [hp] at ha; cases ha
  subst this; exact hF
 | some a =>
  have hr := H.r
  rw [hp] at hr
  simp only []
  rw [hr.rdN _ _ (by rw [H.n]; simp), H.n]
  simp only [List.drop_zero]
  rw [← bc_len, List.take_length, cbytes_bc]
  exact hF
theorem RdB.srcK {h : Hp} {s : Sl} {l : List UInt8} (H : RdB h s l) {n : Nat} (hn : n ≤ l.length) {F : List Value → Prop} (hF : F (bc (l.take n))) : Hw.srcK h 1 n s.v F := by
 unfold Hw.srcK Sl.v
 simp only []
 cases hp : s.p with
 | none =>
  have : l = [] := by
   cases l with
   | nil => rfl
   | cons b l => obtain ⟨a, ha, _⟩ := H.get (i := 0) (by simp); rw [hp] at ha; cases ha
  subst this; simpa using hF
 | some a =>
  have hr := H.r
  rw [hp] at hr
  simp only []
  rw [hr.rdN _ _ (by simp; omega)]
  simp only [List.drop_zero, Nat.mul_one]
  rw [← bc_take]; exact hF
theorem RdB.sub {h : Hp} {s : Sl} {l : List UInt8} (H : RdB h s l) {lo hi : Nat} (h1 : lo ≤ hi) (h2 : hi ≤ l.length) : RdB h ⟨sadr s.p s.c lo 1, hi - lo, s.c - lo⟩ ((l.drop lo).take (hi - lo)) := by
 have hn := H.n
 have hc := H.c
 refine ⟨by simp; omega, by simp; omega, ?_⟩
 show Rdc h (sadr s.p s.c lo 1) _
 unfold sadr
 split
 ·have : hi - lo = 0 := by omega
  rw [this]
  intro i v hi; simp at hi
 ·cases hp : s.p with
  | none =>
   intro i v hi
   obtain ⟨a, ha, _⟩ := H.get (i := 0) (by
    rw [bc_get] at hi
    simp only [Option.map_eq_some_iff] at hi
    obtain ⟨b, hb, _⟩ := hi
    have := lt_of_get hb
    simp at this; omega)
   rw [hp] at ha; cases ha
  | some a =>
   have hr := H.r
   rw [hp] at hr
   have := (hr.drop (lo * 1)).take (hi - lo)
   rw [Nat.mul_one] at this ⊢
   rw [bc_take, bc_drop]
   exact this
theorem Sat.start {h : Hp} : Sat ([] ++ [Hw.was h]) h :=
 ⟨fun _ x => h x ≠ none, fun i A hi => by
  have : i = 0 := by have := lt_of_get hi; simp at this; omega
  subst this
  simp at hi; subst hi
  exact fun x => ⟨Iff.rfl, fun _ => rfl⟩, fun i j x hi hj _ _ => by simp at hi hj; omega⟩
def NewO (h h' : Hp) (T : TypeId) (sz : Nat) (s : Sl) (vs : List Value) : Prop := Ext none' h h' ∧ Own h' T sz s vs ∧ ∀ b, s.p = some (bk b) → h b = none
theorem Sat.newO {L M : List Asn} {h h0 : Hp} (hs : Sat (L ++ M) h) (i j : Nat) {T : TypeId} {sz : Nat} {s : Sl} {vs : List Value} (hi : M[i]? = some (Hw.was h0)) (hj : M[j]? = some (Hw.own T sz s vs)) (hij : i ≠ j) : NewO h0 h T sz s vs := by
 refine ⟨hs.was i hi, hs.own j hj, ?_⟩
 obtain ⟨F, h1, h2⟩ := hs
 intro b hb
 cases hq : h0 b with
 | none => rfl
 | some o =>
  have w := h1 (L.length + i) (Hw.was h0) (by rw [List.getElem?_append_right (by omega)]; simpa using hi)
  have u := h1 (L.length + j) (Hw.own T sz s vs) (by rw [List.getElem?_append_right (by omega)]; simpa using hj)
  have li := lt_of_get hi
  have lj := lt_of_get hj
  have := h2 (L.length + i) (L.length + j) b (by simp; omega) (by simp; omega) ((w b).1.2 (by rw [hq]; simp)) ((u.1 b).2 hb)
  omega
theorem NewO.nil {h : Hp} {T : TypeId} {sz : Nat} : NewO h h T sz ⟨none, 0, 0⟩ [] := ⟨Ext.refl, Own.nil, by intro b hb; cases hb⟩
theorem Sat.addNew {L M : List Asn} {h h' : Hp} {T : TypeId} {sz : Nat} {s : Sl} {vs : List Value} (hs : Sat (L ++ M) h) (hn : NewO h h' T sz s vs) : Sat (L ++ (M ++ [Hw.own T sz s vs])) h' := hs.addOwn hn.1 hn.2.1 hn.2.2
theorem Sat.addNil {L M : List Asn} {h : Hp} (T : TypeId) (sz : Nat) (hs : Sat (L ++ M) h) : Sat (L ++ (M ++ [Hw.own T sz ⟨none, 0, 0⟩ []])) h := hs.addNew NewO.nil
theorem Sat.push {P : Program} {L M : List Asn} {T : TypeId} {sz k : Nat} {s : Sl} {vs ns : List Value} {h : Hp} {F : Sl → Hp → Prop} (hs : Sat (L ++ M) h) (j : Nat) (hj : M[j]? = some (Hw.own T sz s vs))
  (hsz : P.cellsOf T = sz) (hz : (zc P T).length = sz) (hns : ns.length = k * sz) (hpl : ∀ v ∈ ns, plain v = true) (hby : (s.n + k) * 2 * P.bytesOf T ≤ 2 ^ 48)
  (hF : ∀ s' h', Sat (L ++ M.set j (Hw.own T sz s' (vs ++ ns))) h' → s'.n = s.n + k → F s' h') :
  nw h (.cells ⟨ns⟩ T) fun b0 h0 => apK P T s (.slice (some (bk b0)) k k) h0 F := by
 intro b0 e0
 have hs1 := hs.ext (Ext.new (o := .cells ⟨ns⟩ T (0, 0)) e0)
 refine hs1.ap j hj hsz hz (n := k) (fun _ => rfl) ?_ hns hpl hby hF
 intro G hG
 unfold srcK
 simp only []
 rw [rdN_blk (T := T) (cs := ns) Blk.upd_same _ _ (by omega)]
 simp only [List.drop_zero]
 rw [← hns, List.take_length]; exact hG
theorem Sat.mk {P : Program} {L M : List Asn} {T : TypeId} {sz : Nat} {l c : Int} {h : Hp} {F : Sl → Hp → Prop} (hs : Sat (L ++ M) h) (hz : (zc P T).length = sz) (h0 : 0 ≤ l) (h1 : l ≤ c) (h2 : P.bytesOf T * c ≤ 2 ^ 48) (h3 : c ≤ 9223372036854775807)
  (hF : ∀ s' h' , s'.n = l.toNat → s'.c = c.toNat → Sat (L ++ (M ++ [Hw.own T sz s' (zeros P T l.toNat).toList])) h' → F s' h') : mkK P T l c h F := by
 unfold mkK
 simp only [h0, h1, h2, h3, decide_true, Bool.and_self, cond_true]
 intro b hb
 have split : (zeros P T c.toNat).toList.take (l.toNat * (zc P T).length) = (zeros P T l.toNat).toList := by
  unfold zeros Builtin.zeroCells
  have : min (l.toNat * (zc P T).length) (c.toNat * (zc P T).length) = l.toNat * (zc P T).length := Nat.min_eq_left (Nat.mul_le_mul_right _ (by omega))
  simp [← List.map_take, List.take_range, this]
 refine hF ⟨some (bk b), l.toNat, c.toNat⟩ _ rfl rfl (hs.addOwn (Ext.new hb) ⟨?_, ?_, rfl, (zeros P T c.toNat).toList, ?_, ?_, ?_⟩ ?_)
 ·rw [zeros_len, hz]
 ·show l.toNat ≤ c.toNat; omega
 ·show upd h b _ b = some (.cells ⟨(zeros P T c.toNat).toList⟩ T (0, 0))
  rw [upd_same]
 ·rw [zeros_len, hz]
 ·rw [zeros_len]; exact split
 ·intro b' hb'
  simp only [Option.some.injEq] at hb'
  have : b = b' := congrArg Addr.block hb'
  subst this; exact hb
theorem Sat.sto {L M : List Asn} {h : Hp} {T : TypeId} {sz k : Nat} {s : Sl} {vs : List Value} {v : Value} {F : Hp → Prop} (hs : Sat (L ++ M) h) (j : Nat) (hj : M[j]? = some (Hw.own T sz s vs)) (hk : k < vs.length) (hp : plain v = true)
  (hF : ∀ b h', s.p = some (bk b) → Sat (L ++ M.set j (Hw.own T sz s (vs.set k v))) h' → F h') : ∃ b, s.p = some (bk b) ∧ Hw.st h ⟨b, k, none⟩ v F := by
 have ho := hs.own j hj
 obtain ⟨b, cs, hsp, hb, hl, ht⟩ := ho.row (by intro e; rw [e] at hk; simp at hk)
 refine ⟨b, hsp, ?_⟩
 have hlen : vs.length ≤ cs.length := by rw [← ht]; simp; omega
 refine hb.st (by omega) hp ?_
 refine hF b _ hsp (hs.at j hj fun G hG => ⟨G, ⟨hG.1, ?_⟩, fun x hx => .inl hx, fun x hx _ => upd_ne (fun e => hx ((hG.1 x).2 (by rw [hsp, e])))⟩)
 refine ⟨by simpa using ho.1, ho.2.1, ?_⟩
 show match s.p with | none => _ | some a => _
 rw [hsp]
 refine ⟨rfl, cs.set k v, upd_same, by simpa using hl, ?_⟩
 rw [List.length_set, List.take_set, ht]
theorem Sat.stAt {L M : List Asn} {h : Hp} {T : TypeId} {k : Nat} {x : Int} {s : Sl} {vs : List Value} {v : Value} {F : Hp → Prop} (hs : Sat (L ++ M) h) (j : Nat) (hj : M[j]? = some (Hw.own T 1 s vs)) (hx : x = k) (hk : k < vs.length) (hp : plain v = true)
  (hF : ∀ h', Sat (L ++ M.set j (Hw.own T 1 s (vs.set k v))) h' → F h') : idx x s.n (nn s.p fun a => Hw.st h (a.add (x.toNat * 1)) v F) := by
 have ho := hs.own j hj
 refine idx_of (by omega) (by have := ho.1; omega) ?_
 obtain ⟨b, hb, hst⟩ := hs.sto (F := F) j hj hk hp (fun b h' _ hs' => hF h' hs')
 rw [hb]
 subst hx
 simp only [nn_some', add_bk, Int.toNat_natCast, Nat.mul_one]
 exact hst
theorem putd_u8 {n : Int} (h0 : 0 ≤ n) (h1 : n < 256) : ((UInt8.ofNat n.toNat).toNat : Int) = n := by
 rw [UInt8.toNat_ofNat']
 omega
end Go.Hw

/-
 The small functions of layer 1 over numbers: folded words, changed words, hosts, groups.
-/
-- (no ref01.Folded)
-- (no octet.Turn)
-- (no ref01.Turn)
-- (no ref01.IsHost)
-- (no ref01.Group)
-- (no ref01.mark)
set_option linter.unusedSimpArgs false
set_option linter.unusedVariables false
namespace Go.Proofs.YtbbnpmikjdgdpaaGreat
open Go Go.Hw
def fold16 (u : Nat) : Nat := if u = 0 then 0 else (u - 1) % 65535 + 1
theorem fold16_step {u : Nat} (h : 65535 < u) : fold16 (u % 65536 + u / 65536) = fold16 u := by unfold fold16; rw [if_neg (by omega), if_neg (by omega)]; omega
theorem fold16_low {u : Nat} (h : u ≤ 65535) : fold16 u = u := by unfold fold16; split <;> omega
theorem fold16_le (u : Nat) : fold16 u ≤ 65535 := by unfold fold16; split <;> omega
theorem fold16_add (a b : Nat) : fold16 (fold16 a + b) = fold16 (a + b) := by unfold fold16; split <;> split <;> (try split) <;> (try split) <;> omega
theorem c_folded {u : Int} {h : Hp} {K : Int → Hp → Prop} (h0 : 0 ≤ u) (h1 : u < 18446744073709551616) (hK : K ((fold16 u.toNat : Nat) : Int) h) : C50 u h K := by
 apply S50; unfold N50 N50_l0
 refine loopP_inv (fun (x : Int) hc => hc = h ∧ 0 ≤ x ∧ x < 18446744073709551616 ∧ fold16 x.toNat = fold16 u.toNat) (fun x _ => x.toNat) ?_ ⟨rfl, h0, h1, rfl⟩
 rintro x hc ⟨rfl, g0, g1, ge⟩
 unfold N50_l0_B N50_l0_b
 by_cases hx : x > 65535
 ·simp only [hx, decide_true, cond_true]
  have e1 := band_low (w := 64) (x := x) 16 g0 g1 (by omega)
  rw [show ((2 : Int) ^ 16 - 1) = 65535 from rfl, show ((2 : Int) ^ 16) = 65536 from rfl] at e1
  rw [e1, Int.fdiv_eq_ediv_of_nonneg _ (by decide), show ((2 : Int) ^ 16) = 65536 from rfl, wu64i (x := x % 65536) (by omega) (by omega), wu64i (by omega) (by omega)]
  refine ⟨⟨trivial, by omega, by omega, ?_⟩, by omega⟩
  have : (x % 65536 + x / 65536).toNat = x.toNat % 65536 + x.toNat / 65536 := by omega
  rw [this, fold16_step (by omega)]; exact ge
 ·simp only [hx, decide_false, cond_false]
  rw [wu16i g0 (by omega)]
  have : x = ((fold16 u.toNat : Nat) : Int) := by rw [← ge, fold16_low (by omega)]; omega
  rw [this]; exact hK
def turn (s o n : Nat) : Nat := 65535 - fold16 (65535 - s + (65535 - o) + n)
def isHost (ip : Int) : Bool := decide (1 ≤ ip / 16777216) && decide (ip / 16777216 ≤ 223) && decide (ip / 16777216 ≠ 127)
theorem c_isHost {ip : Int} {h : Hp} {K : Bool → Hp → Prop} (hK : K (isHost ip) h) : C47 ip h K := by
 apply S47; unfold N47
 rw [Int.fdiv_eq_ediv_of_nonneg _ (by decide), show ((2 : Int) ^ 24) = 16777216 from rfl]
 unfold isHost at hK
 by_cases h1 : ip / 16777216 > 0
 ·by_cases h2 : ip / 16777216 < 224
  ·have e1 : (1 : Int) ≤ ip / 16777216 := by omega
   have e2 : ip / 16777216 ≤ 223 := by omega
   have e3 : (ip / 16777216 != 127) = decide (ip / 16777216 ≠ 127) := by by_cases e : ip / 16777216 = 127 <;> simp [e]
   simp only [h1, h2, e1, e2, decide_true, cond_true, Bool.true_and] at hK ⊢
   rw [e3]; exact hK
  ·have e2 : ¬ ip / 16777216 ≤ 223 := by omega
   simp only [h1, h2, e2, decide_true, decide_false, cond_true, cond_false, Bool.and_false, Bool.false_and] at hK ⊢; exact hK
 ·have e1 : ¬ (1 : Int) ≤ ip / 16777216 := by omega
  simp only [h1, e1, decide_false, cond_false, Bool.false_and] at hK ⊢; exact hK
theorem c_group {a b c d e f : Int} {h : Hp} {K : Bool → Hp → Prop} (h0 : 0 ≤ a) (h1 : a < 256) (hK : ∀ h', Ext none' h h' → K (a % 2 == 1) h') : C80 a b c d e f h K := by
 apply S80; unfold N80
 intro b0 e0
 have hb : Blk (upd h b0 (.cells ⟨[.int .u8 a, .int .u8 b, .int .u8 c, .int .u8 d, .int .u8 e, .int .u8 f]⟩ 46)) b0 46 _ := Blk.upd_same
 simp only [hb.cell, List.getElem?_cons_zero, xI_some]
 have e1 := band_low (w := 8) (x := a) 1 h0 h1 (by omega)
 rw [show ((2 : Int) ^ 1 - 1) = 1 from rfl, show ((2 : Int) ^ 1) = 2 from rfl] at e1
 rw [e1, wu8i (by omega) (by omega)]
 exact hK _ (Ext.new e0)
theorem c_everyone {h : Hp} {K : Int → Int → Int → Int → Int → Int → Hp → Prop} (hK : ∀ h', Ext none' h h' → K 255 255 255 255 255 255 h') : C54 h K := by
 apply S54; unfold N54
 intro b0 e0
 have hs : Sat ([] ++ [Hw.was h, row b0 46 [.int .u8 0, .int .u8 0, .int .u8 0, .int .u8 0, .int .u8 0, .int .u8 0]]) _ := Sat.start.new e0 _
 revert hs
 generalize upd h b0 _ = h1
 intro hs
 simp only [add_bk]
 refine hs.st 1 rfl (by simp) rfl ?_
 intro h2 hs
 refine hs.st 1 rfl (by simp) rfl ?_
 intro h3 hs
 refine hs.st 1 rfl (by simp) rfl ?_
 intro h4 hs
 refine hs.st 1 rfl (by simp) rfl ?_
 intro h5 hs
 refine hs.st 1 rfl (by simp) rfl ?_
 intro h6 hs
 refine hs.st 1 rfl (by simp) rfl ?_
 intro h7 hs
 have hb : Blk h7 b0 46 [.int .u8 255, .int .u8 255, .int .u8 255, .int .u8 255, .int .u8 255, .int .u8 255] := hs.blk 1 rfl
 have hw : Ext none' h h7 := hs.was 0 rfl
 simp only [hb.cell, List.getElem?_cons_zero, List.getElem?_cons_succ, xI_some]
 exact hK _ hw
def markN (list place : Nat) : Nat := (list * 7 + place * 13 + list / 256 + 1) % 256
end Go.Proofs.YtbbnpmikjdgdpaaGreat

set_option linter.unusedVariables false
set_option maxRecDepth 100000
namespace Go.Proofs.YtbbnpmikjdgdpaaGreat
open Go Go.Hw
noncomputable def B31 : Code := match Tryz.f31.body with | some c => c | none => .skip
def N31_l0_b (x0 : Int) (Φ : Sl → Int → Hp → Prop) (x5 : Sl) (x6 : Int) (h : Hp) (K0 : Sl → Hp → Prop) : Prop :=
 bif (decide (x6 ≥ 0)) then
 bif decide ((IntKind.wrap .i64 (8 * x6)) < 0) then False else
 nw h (.cells ⟨[.int .u8 (IntKind.wrap .u8 (Int.fdiv x0 (2 ^ (min (IntKind.wrap .i64 (8 * x6)).toNat 64))))]⟩ 5) fun b0 h0 =>
 apK Tryz.prog 5 x5 (.slice (some (bk b0)) 1 1) h0 fun s0 h1 =>
 Φ s0 (IntKind.wrap .i64 (x6 - 1)) h1
 else
 K0 x5 h
def N31_l0_B (x0 : Int) (K0 : Sl → Hp → Prop) (s : Sg.T [(5, .c (.slice)), (6, .c (.int .i64))]) (h : Hp) (Φ : Sg.T [(5, .c (.slice)), (6, .c (.int .i64))] → Hp → Prop) : Prop :=
 N31_l0_b x0 (fun x5 x6 h => Φ (x5, x6) h) s.1 s.2 h K0
def N31_l0 (x0 : Int) (x5 : Sl) (x6 : Int) (h : Hp) (K0 : Sl → Hp → Prop) : Prop :=
 loopP (N31_l0_B x0 K0) (x5, x6) h
noncomputable def N31_l0_t : Xf := loopT [(0, .c (.int .u64))] [(5, .c (.slice)), (6, .c (.int .i64))] (codeAt B31 [1, 1, 1, 0, 1, 0, 0]) fun F Q => N31_l0_B F (fun o0 h' => Q (.exit 0) (Sg.env [(5, .c (.slice))] o0) h')
theorem N31_l0_ok : Sound Tryz.prog Tryz.f31.ntmps N31_l0_t (codeAt B31 [1, 1, 1, 0, 1, 0]) := by
 refine loop_sound (fun e => match e with | .exit 0 => [5] | _ => []) (by kernel_rfl) ?_
 intro F Q s h Φ hb
 refine den_sound hE hm _ .leaf _ _ _ (annOk_leaf) ?_
 refine cast ?_ hb
 kernel_rfl
def N31 (x0 x1 : Int) (h : Hp) (K : Sl → Hp → Prop) : Prop :=
 bif (decide (x1 < 1)) then
 K ⟨none, 0, 0⟩ h
 else
 bif (decide (x1 > 8)) then
 K ⟨none, 0, 0⟩ h
 else
 mkK Tryz.prog 5 0 x1 h fun s0 h0 =>
 N31_l0 x0 s0 (IntKind.wrap .i64 (x1 - 1)) h0
 (fun s1 h1 =>
 K s1 h1)
theorem S31 {x0 x1 : Int} {h : Hp} {K : Sl → Hp → Prop} (hn : N31 x0 x1 h K) : C31 x0 x1 h K := by
 refine calls_of_D Tryz.func31 (c := B31) rfl (by kernel_rfl) ?_
 refine den_sound hE hm _ (.two .leaf (.two .leaf (.two .leaf (.two (.two .leaf (.one (.xf N31_l0_t))) .leaf)))) _ _ _ (⟨annOk_leaf, ⟨annOk_leaf, ⟨annOk_leaf, ⟨⟨annOk_leaf, N31_l0_ok⟩, annOk_leaf⟩⟩⟩⟩) ?_
 refine cast ?_ hn
 kernel_rfl
end Go.Proofs.YtbbnpmikjdgdpaaGreat

set_option linter.unusedVariables false
set_option maxRecDepth 100000
namespace Go.Proofs.YtbbnpmikjdgdpaaGreat
open Go Go.Hw
noncomputable def B79 : Code := match Tryz.f79.body with | some c => c | none => .skip
def N79_j0 (x0 : Sl) (x1 x2 : Int) (x11 : Bool) (h : Hp) (Kn : Hp → Prop) (Kr : Int → Int → Hp → Prop) : Prop :=
 bif x11 then
 Kr 0 1 h
 else
 bif (decide (x1 > ((x0.n : Nat) : Int))) then
 Kr 0 5 h
 else
 bif (decide ((IntKind.wrap .i64 (((x0.n : Nat) : Int) - x1)) < x2)) then
 Kr 0 5 h
 else
 Kn h
noncomputable def N79_j0_t : Xf := pieceT [(0, .c (.slice)), (1, .c (.int .i64)), (2, .c (.int .i64)), (11, .c (.bool))] (codeAt B79 [1, 0, 0, 1]) fun x h Q => N79_j0 x.1 x.2.1 x.2.2.1 x.2.2.2 h (fun h' => Q .normal (Sg.env [] ()) h') (fun o0 o1 h' => Q .ret (Sg.env [(6, .c (.int .u64)), (7, .c (.int .i64))] (o0, o1)) h')
theorem N79_j0_ok : Sound Tryz.prog Tryz.f79.ntmps N79_j0_t (codeAt B79 [1, 0, 0, 1]) := by
 refine piece_sound (fun e => match e with | .normal => [] | .ret => [6, 7] | _ => []) ?_
 intro x h Q hb
 refine den_sound hE hm _ .leaf _ _ _ (annOk_leaf) ?_
 refine cast ?_ hb
 kernel_rfl
def N79_l2_b (x40 : Sl) (x41 : Int) (Φ : Int → Int → Hp → Prop) (x8 x42 : Int) (h : Hp) (K1 : Int → Hp → Prop) : Prop :=
 bif (decide (x42 < x41)) then
 idx x42 x40.n <|
 nn x40.p fun a0 =>
 xI .u8 (cell h (a0.add (x42.toNat * 1))) fun n0 =>
 Φ (IntKind.wrap .u64 (BitVec.ofInt 64 (IntKind.wrap .u64 (x8 * 2 ^ 8)) ||| BitVec.ofInt 64 (IntKind.wrap .u64 n0)).toNat) (IntKind.wrap .i64 (x42 + 1)) h
 else
 K1 x8 h
def N79_l2_B (x40 : Sl) (x41 : Int) (K1 : Int → Hp → Prop) (s : Sg.T [(8, .c (.int .u64)), (42, .c (.int .i64))]) (h : Hp) (Φ : Sg.T [(8, .c (.int .u64)), (42, .c (.int .i64))] → Hp → Prop) : Prop :=
 N79_l2_b x40 x41 (fun x8 x42 h => Φ (x8, x42) h) s.1 s.2 h K1
def N79_l2 (x40 : Sl) (x41 x8 x42 : Int) (h : Hp) (K1 : Int → Hp → Prop) : Prop :=
 loopP (N79_l2_B x40 x41 K1) (x8, x42) h
noncomputable def N79_l2_t : Xf := loopT [(40, .c (.slice)), (41, .c (.int .i64))] [(8, .c (.int .u64)), (42, .c (.int .i64))] (codeAt B79 [1, 1, 1, 0, 1, 0, 0]) fun F Q => N79_l2_B F.1 F.2 (fun o0 h' => Q (.exit 1) (Sg.env [(8, .c (.int .u64))] o0) h')
theorem N79_l2_ok : Sound Tryz.prog Tryz.f79.ntmps N79_l2_t (codeAt B79 [1, 1, 1, 0, 1, 0]) := by
 refine loop_sound (fun e => match e with | .exit 1 => [8] | _ => []) (by kernel_rfl) ?_
 intro F Q s h Φ hb
 refine den_sound hE hm _ .leaf _ _ _ (annOk_leaf) ?_
 refine cast ?_ hb
 kernel_rfl
def N79_j1 (x0 : Sl) (x1 x2 : Int) (h : Hp) (Kr : Int → Int → Hp → Prop) : Prop :=
 bd (IntKind.wrap .i64 (x1 + x2)) x0.c fun k0 =>
 bd x1 k0 fun k1 =>
 N79_l2 ⟨sadr x0.p x0.c k1 1, k0 - k1, x0.c - k1⟩ ((k0 - k1 : Nat) : Int) 0 0 h
 (fun n0 h0 =>
 Kr n0 0 h0)
noncomputable def N79_j1_t : Xf := pieceT [(0, .c (.slice)), (1, .c (.int .i64)), (2, .c (.int .i64))] (codeAt B79 [1, 1]) fun x h Q => N79_j1 x.1 x.2.1 x.2.2 h (fun o0 o1 h' => Q .ret (Sg.env [(6, .c (.int .u64)), (7, .c (.int .i64))] (o0, o1)) h')
theorem N79_j1_ok : Sound Tryz.prog Tryz.f79.ntmps N79_j1_t (codeAt B79 [1, 1]) := by
 refine piece_sound (fun e => match e with | .ret => [6, 7] | _ => []) ?_
 intro x h Q hb
 refine den_sound hE hm _ (.two .leaf (.two (.two .leaf (.one (.xf N79_l2_t))) .leaf)) _ _ _ (⟨annOk_leaf, ⟨⟨annOk_leaf, N79_l2_ok⟩, annOk_leaf⟩⟩) ?_
 refine cast ?_ hb
 kernel_rfl
def N79 (x0 : Sl) (x1 x2 : Int) (h : Hp) (K : Int → Int → Hp → Prop) : Prop :=
 bif (decide (x2 < 1)) then
 N79_j0 x0 x1 x2 true h
 (fun h0 =>
 N79_j1 x0 x1 x2 h0
 (fun n0 n1 h1 =>
 K n0 n1 h1))
 (fun n2 n3 h2 =>
 K n2 n3 h2)
 else
 bif (decide (x2 > 8)) then
 N79_j0 x0 x1 x2 true h
 (fun h3 =>
 N79_j1 x0 x1 x2 h3
 (fun n4 n5 h4 =>
 K n4 n5 h4))
 (fun n6 n7 h5 =>
 K n6 n7 h5)
 else
 N79_j0 x0 x1 x2 (decide (x1 < 0)) h
 (fun h6 =>
 N79_j1 x0 x1 x2 h6
 (fun n8 n9 h7 =>
 K n8 n9 h7))
 (fun n10 n11 h8 =>
 K n10 n11 h8)
theorem S79 {x0 : Sl} {x1 x2 : Int} {h : Hp} {K : Int → Int → Hp → Prop} (hn : N79 x0 x1 x2 h K) : C79 x0 x1 x2 h K := by
 refine calls_of_D Tryz.func79 (c := B79) rfl (by kernel_rfl) ?_
 refine den_sound hE hm _ (.two .leaf (.two (.one (.two .leaf (.xf N79_j0_t))) (.xf N79_j1_t))) _ _ _ (⟨annOk_leaf, ⟨⟨annOk_leaf, N79_j0_ok⟩, N79_j1_ok⟩⟩) ?_
 refine cast ?_ hn
 kernel_rfl
end Go.Proofs.YtbbnpmikjdgdpaaGreat

/-
 Numbers as bytes: Put and Get, the program's and the document's.
-/
-- (no ref01.Put)
-- (no ref01.Get)
set_option linter.unusedSimpArgs false
set_option linter.unusedVariables false
namespace Go.Proofs.YtbbnpmikjdgdpaaGreat
open Go Go.Hw
theorem y_a : Tryz.prog.cellsOf 5 = 1 := by kernel_rfl
theorem y_z : zc Tryz.prog 5 = [.int .u8 0] := by kernel_rfl
theorem y_zl : (zc Tryz.prog 5).length = 1 := by rw [y_z]; rfl
theorem y_b : Tryz.prog.bytesOf 5 = 1 := by kernel_rfl
theorem y_zeros (n : Nat) : (zeros Tryz.prog 5 n).toList = bc (List.replicate n 0) := by
 unfold zeros Builtin.zeroCells
 rw [y_z]
 simp only [bc, List.map_replicate]
 apply List.ext_getElem
 ·simp
 ·intro i h1 h2
  simp only [List.getElem_replicate]
  have : i % 1 = 0 := Nat.mod_one i
  simp [this]
def be (n : Nat) : Nat → List UInt8
 | 0 => []
 | w + 1 => UInt8.ofNat (n / 256 ^ w % 256) :: be n w
theorem be_len (n w : Nat) : (be n w).length = w := by induction w with | zero => rfl | succ w ih => simp [be, ih]
def putL (n : Nat) (w : Int) : List UInt8 := if w < 1 ∨ w > 8 then [] else be n w.toNat
theorem byte_of (n : Nat) : (((UInt8.ofNat (n % 256)).toNat : Nat) : Int) = ((n % 256 : Nat) : Int) := by rw [UInt8.toNat_ofNat']; omega
theorem c_put {n w : Int} {h : Hp} {K : Sl → Hp → Prop} (h0 : 0 ≤ n) (h1 : n < 18446744073709551616) (hK : ∀ h' s, NewO h h' 5 1 s (bc (putL n.toNat w)) → K s h') : C31 n w h K := by
 apply S31; unfold N31
 by_cases c1 : w < 1
 ·simp only [c1, decide_true, cond_true]
  have e : putL n.toNat w = [] := by unfold putL; rw [if_pos (.inl c1)]
  rw [e] at hK
  exact hK h _ NewO.nil
 ·by_cases c2 : w > 8
  ·simp only [c1, c2, decide_true, decide_false, cond_true, cond_false]
   have e : putL n.toNat w = [] := by unfold putL; rw [if_pos (.inr c2)]
   rw [e] at hK
   exact hK h _ NewO.nil
  ·simp only [c1, c2, decide_false, cond_false]
   have e : putL n.toNat w = be n.toNat w.toNat := by unfold putL; rw [if_neg (by omega)]
   rw [e] at hK
   refine (Sat.start (h := h)).mk (sz := 1) y_zl (by omega) (by omega) (by rw [y_b]; omega) (by omega) ?_
   intro s hb hn hc hs
   have z0 : (zeros Tryz.prog 5 (0 : Int).toNat).toList = bc [] := by rw [show (0 : Int).toNat = 0 from rfl, y_zeros]; rfl
   rw [z0] at hs
   unfold N31_l0
   refine loopP_inv (fun (x : Sl × Int) hc => ∃ (j : Nat) (c : List UInt8), x.2 = (j : Int) - 1 ∧ j ≤ w.toNat ∧ c ++ be n.toNat j = be n.toNat w.toNat ∧ x.1.n = c.length ∧ Sat ([] ++ [Hw.was h, Hw.own 5 1 x.1 (bc c)]) hc) (fun x _ => (x.2 + 1).toNat) ?_
    ⟨w.toNat, [], by rw [wi64i (by omega) (by omega)]; omega, Nat.le_refl _, rfl, by simpa using hn, hs⟩
   rintro ⟨t, x⟩ hc ⟨j, c, hx, hj, hcj, htn, hs⟩
   simp only at hx hs htn
   subst hx
   unfold N31_l0_B N31_l0_b
   dsimp only
   have clen : c.length + j = w.toNat := by have := congrArg List.length hcj; simpa [be_len] using this
   cases j with
   | zero =>
    simp only [Int.natCast_zero, show decide ((0 : Int) - 1 ≥ 0) = false from rfl, cond_false]
    refine hK _ t ?_
    have : c = be n.toNat w.toNat := by simpa [be] using hcj
    rw [← this]
    exact hs.newO 0 1 rfl rfl (by omega)
   | succ j =>
    have ex : ((j + 1 : Nat) : Int) - 1 = (j : Int) := by omega
    rw [ex]
    simp only [show decide ((j : Int) ≥ 0) = true by simp, cond_true]
    have e8 : IntKind.wrap .i64 (8 * (j : Int)) = ((8 * j : Nat) : Int) := by rw [wi64i (by omega) (by omega)]; omega
    have em : min (((8 * j : Nat) : Int)).toNat 64 = 8 * j := by omega
    rw [e8, em]
    simp only [show decide (((8 * j : Nat) : Int) < 0) = false by simp; omega, cond_false]
    have ep : (2 : Int) ^ (8 * j) = ((256 ^ j : Nat) : Int) := by rw [Int.pow_mul, show (2 : Int) ^ 8 = 256 from rfl, Int.natCast_pow]; rfl
    have ev : IntKind.wrap .u8 (Int.fdiv n (2 ^ (8 * j))) = (((UInt8.ofNat (n.toNat / 256 ^ j % 256)).toNat : Nat) : Int) := by
     rw [byte_of, ep, Int.fdiv_eq_ediv_of_nonneg _ (Int.natCast_nonneg _), wu8]
     obtain ⟨m, rfl⟩ := Int.eq_ofNat_of_zero_le h0
     simp only [Int.toNat_natCast]
     omega
    rw [ev]
    refine hs.push 1 rfl (k := 1) y_a y_zl rfl (by intro v hv; simp at hv; subst hv; rfl) (by rw [y_b]; omega) ?_
    intro s' h' hs' hn'
    have ew : IntKind.wrap .i64 ((j : Int) - 1) = (j : Int) - 1 := wi64i (by omega) (by omega)
    rw [ew]
    have ec : bc c ++ [Value.int .u8 (((UInt8.ofNat (n.toNat / 256 ^ j % 256)).toNat : Nat) : Int)] = bc (c ++ [UInt8.ofNat (n.toNat / 256 ^ j % 256)]) := by rw [bc_app]; rfl
    rw [ec] at hs'
    refine ⟨⟨j, _, rfl, by omega, ?_, ?_, hs'⟩, ?_⟩
    ·rw [← hcj]; simp [be]
    ·rw [hn', htn]; simp
    ·show ((j : Int) - 1 + 1).toNat < ((j : Int) + 1).toNat; omega
theorem put_step (q : Nat) : IntKind.wrap .u8 (Int.tmod (q : Int) 256) = (((UInt8.ofNat (q % 256)).toNat : Nat) : Int) := by
 rw [byte_of, Int.tmod_eq_emod_of_nonneg (by omega), wu8]; omega
def nat256 (l : List UInt8) : Nat := l.foldl (fun a b => a * 256 + b.toNat) 0
theorem nat256_snoc (l : List UInt8) (b : UInt8) : nat256 (l ++ [b]) = nat256 l * 256 + b.toNat := by simp [nat256]
theorem nat256_lt (l : List UInt8) : nat256 l < 256 ^ l.length := by
 have key : ∀ (l : List UInt8) (a : Nat), l.foldl (fun a b => a * 256 + b.toNat) a < (a + 1) * 256 ^ l.length := by
  intro l
  induction l with
  | nil => intro a; simp
  | cons b l ih =>
   intro a
   have hb := b.toNat_lt
   have h1 := ih (a * 256 + b.toNat)
   have h2 : (a * 256 + b.toNat + 1) * 256 ^ l.length ≤ ((a + 1) * 256) * 256 ^ l.length := Nat.mul_le_mul_right _ (by omega)
   simp only [List.foldl_cons, List.length_cons]
   rw [Nat.pow_succ, Nat.mul_comm (256 ^ l.length) 256, ← Nat.mul_assoc]
   omega
 have := key l 0
 unfold nat256; omega
def getV (l : List UInt8) (at_ w : Int) : Nat := if w < 1 ∨ w > 8 ∨ at_ < 0 then 0 else if at_ > l.length ∨ l.length - at_ < w then 0 else nat256 ((l.drop at_.toNat).take w.toNat)
def getE (l : List UInt8) (at_ w : Int) : Int := if w < 1 ∨ w > 8 ∨ at_ < 0 then 1 else if at_ > l.length ∨ l.length - at_ < w then 5 else 0
theorem pow256_le {k : Nat} (hk : k ≤ 7) : 256 ^ k ≤ 72057594037927936 := by
 have : 256 ^ k ≤ 256 ^ 7 := Nat.pow_le_pow_right (by omega) hk
 exact this
theorem get_step {m : Nat} {b : UInt8} (hm : m < 72057594037927936) : IntKind.wrap .u64 (BitVec.ofInt 64 (IntKind.wrap .u64 ((m : Int) * 2 ^ 8)) ||| BitVec.ofInt 64 (IntKind.wrap .u64 (b.toNat : Int))).toNat = ((m * 256 + b.toNat : Nat) : Int) := by
 have hb := b.toNat_lt
 rw [wu64i (x := (m : Int) * 2 ^ 8) (by omega) (by omega), wu64i (x := (b.toNat : Int)) (by omega) (by omega)]
 have := bor_low (w := 64) (x := (m : Int)) (y := (b.toNat : Int)) 8 (by omega) (by omega) (by omega) (by omega) (by omega)
 rw [this, wu64i (by omega) (by omega)]; omega
theorem c_get {s : Sl} {l : List UInt8} {at_ w : Int} {h : Hp} {K : Int → Int → Hp → Prop} (H : RdB h s l) (hl : l.length ≤ 140737488355328) (hK : K (getV l at_ w : Nat) (getE l at_ w) h) : C79 s at_ w h K := by
 apply S79; unfold N79
 have hn := H.n
 have hc := H.c
 by_cases c1 : w < 1
 ·have e1 : getV l at_ w = 0 := by unfold getV; rw [if_pos (.inl c1)]
  have e2 : getE l at_ w = 1 := by unfold getE; rw [if_pos (.inl c1)]
  simp only [c1, decide_true, cond_true, N79_j0]
  rw [e1, e2] at hK; exact hK
 ·by_cases c2 : w > 8
  ·have e1 : getV l at_ w = 0 := by unfold getV; rw [if_pos (.inr (.inl c2))]
   have e2 : getE l at_ w = 1 := by unfold getE; rw [if_pos (.inr (.inl c2))]
   simp only [c1, c2, decide_true, decide_false, cond_true, cond_false, N79_j0]
   rw [e1, e2] at hK; exact hK
  ·by_cases c3 : at_ < 0
   ·have e1 : getV l at_ w = 0 := by unfold getV; rw [if_pos (.inr (.inr c3))]
    have e2 : getE l at_ w = 1 := by unfold getE; rw [if_pos (.inr (.inr c3))]
    simp only [c1, c2, c3, decide_true, decide_false, cond_true, cond_false, N79_j0]
    rw [e1, e2] at hK; exact hK
   ·simp only [c1, c2, c3, decide_false, cond_false, N79_j0]
    rw [hn]
    by_cases c4 : at_ > (l.length : Int)
    ·have e1 : getV l at_ w = 0 := by unfold getV; rw [if_neg (by omega), if_pos (.inl c4)]
     have e2 : getE l at_ w = 5 := by unfold getE; rw [if_neg (by omega), if_pos (.inl c4)]
     simp only [c4, decide_true, cond_true]
     rw [e1, e2] at hK; exact hK
    ·simp only [c4, decide_false, cond_false]
     rw [wi64i (x := (l.length : Int) - at_) (by omega) (by omega)]
     by_cases c5 : (l.length : Int) - at_ < w
     ·have e1 : getV l at_ w = 0 := by unfold getV; rw [if_neg (by omega), if_pos (.inr c5)]
      have e2 : getE l at_ w = 5 := by unfold getE; rw [if_neg (by omega), if_pos (.inr c5)]
      simp only [c5, decide_true, cond_true]
      rw [e1, e2] at hK; exact hK
     ·have e1 : getV l at_ w = nat256 ((l.drop at_.toNat).take w.toNat) := by unfold getV; rw [if_neg (by omega), if_neg (by omega)]
      have e2 : getE l at_ w = 0 := by unfold getE; rw [if_neg (by omega), if_neg (by omega)]
      simp only [c5, decide_false, cond_false, N79_j1]
      rw [e1, e2] at hK
      rw [wi64i (x := at_ + w) (by omega) (by omega)]
      refine bd_of (by omega) (by omega) ?_
      refine bd_of (by omega) (by omega) ?_
      have hsub := H.sub (lo := at_.toNat) (hi := (at_ + w).toNat) (by omega) (by omega)
      have ed : (at_ + w).toNat - at_.toNat = w.toNat := by omega
      rw [ed] at hsub ⊢
      generalize hm : (l.drop at_.toNat).take w.toNat = m at hsub hK
      have ml : m.length = w.toNat := by rw [← hm]; simp; omega
      unfold N79_l2
      refine loopP_inv (fun (x : Int × Int) hc => hc = h ∧ ∃ i : Nat, x.2 = i ∧ i ≤ m.length ∧ x.1 = ((nat256 (m.take i) : Nat) : Int)) (fun x _ => m.length - x.2.toNat) ?_ ⟨rfl, 0, rfl, Nat.zero_le _, rfl⟩
      rintro ⟨v, x⟩ hc2 ⟨rfl, i, hx, hi, hv⟩
      simp only at hx hv
      subst hx; subst hv
      unfold N79_l2_B N79_l2_b
      dsimp only
      by_cases hlt : i < m.length
      ·have : decide ((i : Int) < ((w.toNat : Nat) : Int)) = true := by simp; omega
       rw [this, cond_true]
       refine hsub.at rfl hlt ?_
       have hb := nat256_lt (m.take i)
       have hp := pow256_le (k := (m.take i).length) (by simp; omega)
       rw [get_step (by omega), nat_succ64 (by omega), ← nat256_snoc]
       have et : m.take i ++ [m[i]] = m.take (i + 1) := by rw [List.take_append_getElem]
       rw [et]
       exact ⟨⟨rfl, i + 1, rfl, hlt, rfl⟩, by show m.length - (((i + 1 : Nat) : Int)).toNat < m.length - ((i : Nat) : Int).toNat; omega⟩
      ·have : decide ((i : Int) < ((w.toNat : Nat) : Int)) = false := by simp; omega
       rw [this, cond_false]
       rw [List.take_of_length_le (by omega)]
       exact hK
end Go.Proofs.YtbbnpmikjdgdpaaGreat

set_option linter.unusedVariables false
set_option maxRecDepth 100000
namespace Go.Proofs.YtbbnpmikjdgdpaaGreat
open Go Go.Hw
noncomputable def B32 : Code := match Tryz.f32.body with | some c => c | none => .skip
def N32_l1_b (x9 : Sl) (x10 x11 : Int) (x15 : Sl) (x16 : Int) (Φ : Int → Int → Int → Hp → Prop) (x3 x4 x17 : Int) (h : Hp) (K2 : Int → Int → Hp → Prop) : Prop :=
 bif (decide (x17 < x16)) then
 idx x17 x15.n <|
 nn x15.p fun a0 =>
 xI .u8 (cell h (a0.add (x17.toNat * 1))) fun n0 =>
 bif ((Int.tmod x4 2) == 0) then
 Φ (IntKind.wrap .u64 (x3 + (IntKind.wrap .u64 ((IntKind.wrap .u64 n0) * 2 ^ 8)))) (IntKind.wrap .i64 (x4 + 1)) (IntKind.wrap .i64 (x17 + 1)) h
 else
 Φ (IntKind.wrap .u64 (x3 + (IntKind.wrap .u64 n0))) (IntKind.wrap .i64 (x4 + 1)) (IntKind.wrap .i64 (x17 + 1)) h
 else
 K2 x3 x4 h
def N32_l1_B (x9 : Sl) (x10 x11 : Int) (x15 : Sl) (x16 : Int) (K2 : Int → Int → Hp → Prop) (s : Sg.T [(3, .c (.int .u64)), (4, .c (.int .i64)), (17, .c (.int .i64))]) (h : Hp) (Φ : Sg.T [(3, .c (.int .u64)), (4, .c (.int .i64)), (17, .c (.int .i64))] → Hp → Prop) : Prop :=
 N32_l1_b x9 x10 x11 x15 x16 (fun x3 x4 x17 h => Φ (x3, x4, x17) h) s.1 s.2.1 s.2.2 h K2
def N32_l1 (x9 : Sl) (x10 x11 : Int) (x15 : Sl) (x16 x3 x4 x17 : Int) (h : Hp) (K2 : Int → Int → Hp → Prop) : Prop :=
 loopP (N32_l1_B x9 x10 x11 x15 x16 K2) (x3, x4, x17) h
noncomputable def N32_l1_t : Xf := loopT [(9, .c (.slice)), (10, .c (.int .i64)), (11, .c (.int .i64)), (15, .c (.slice)), (16, .c (.int .i64))] [(3, .c (.int .u64)), (4, .c (.int .i64)), (17, .c (.int .i64))] (codeAt B32 [1, 1, 0, 1, 0, 0, 1, 1, 0, 0, 1, 0, 1, 0, 0]) fun F Q => N32_l1_B F.1 F.2.1 F.2.2.1 F.2.2.2.1 F.2.2.2.2 (fun o0 o1 h' => Q (.exit 2) (Sg.env [(3, .c (.int .u64)), (4, .c (.int .i64))] (o0, o1)) h')
theorem N32_l1_ok : Sound Tryz.prog Tryz.f32.ntmps N32_l1_t (codeAt B32 [1, 1, 0, 1, 0, 0, 1, 1, 0, 0, 1, 0, 1, 0]) := by
 refine loop_sound (fun e => match e with | .exit 2 => [3, 4] | _ => []) (by kernel_rfl) ?_
 intro F Q s h Φ hb
 refine den_sound hE hm _ .leaf _ _ _ (annOk_leaf) ?_
 refine cast ?_ hb
 kernel_rfl
def N32_l0_b (x9 : Sl) (x10 : Int) (Φ : Int → Int → Int → Hp → Prop) (x3 x4 x11 : Int) (h : Hp) (K0 : Int → Hp → Prop) : Prop :=
 bif (decide (x11 < x10)) then
 idx x11 x9.n <|
 nn x9.p fun a0 =>
 xL (cell h (a0.add (x11.toNat * 1))) fun s0 =>
 N32_l1 x9 x10 x11 s0 ((s0.n : Nat) : Int) x3 x4 0 h
 (fun n0 n1 h0 =>
 C50 n0 h0 fun n2 h1 =>
 Φ (IntKind.wrap .u64 n2) n1 (IntKind.wrap .i64 (x11 + 1)) h1)
 else
 K0 x3 h
def N32_l0_B (x9 : Sl) (x10 : Int) (K0 : Int → Hp → Prop) (s : Sg.T [(3, .c (.int .u64)), (4, .c (.int .i64)), (11, .c (.int .i64))]) (h : Hp) (Φ : Sg.T [(3, .c (.int .u64)), (4, .c (.int .i64)), (11, .c (.int .i64))] → Hp → Prop) : Prop :=
 N32_l0_b x9 x10 (fun x3 x4 x11 h => Φ (x3, x4, x11) h) s.1 s.2.1 s.2.2 h K0
def N32_l0 (x9 : Sl) (x10 x3 x4 x11 : Int) (h : Hp) (K0 : Int → Hp → Prop) : Prop :=
 loopP (N32_l0_B x9 x10 K0) (x3, x4, x11) h
noncomputable def N32_l0_t : Xf := loopT [(9, .c (.slice)), (10, .c (.int .i64))] [(3, .c (.int .u64)), (4, .c (.int .i64)), (11, .c (.int .i64))] (codeAt B32 [1, 1, 0, 1, 0, 0]) fun F Q => N32_l0_B F.1 F.2 (fun o0 h' => Q (.exit 0) (Sg.env [(3, .c (.int .u64))] o0) h')
theorem N32_l0_ok : Sound Tryz.prog Tryz.f32.ntmps N32_l0_t (codeAt B32 [1, 1, 0, 1, 0]) := by
 refine loop_sound (fun e => match e with | .exit 0 => [3] | _ => []) (by kernel_rfl) ?_
 intro F Q s h Φ hb
 refine den_sound hE hm _ (.two .leaf (.two .leaf (.two (.one (.two .leaf (.two (.two .leaf (.one (.xf N32_l1_t))) .leaf))) .leaf))) _ _ _ (⟨annOk_leaf, ⟨annOk_leaf, ⟨⟨annOk_leaf, ⟨⟨annOk_leaf, N32_l1_ok⟩, annOk_leaf⟩⟩, annOk_leaf⟩⟩⟩) ?_
 refine cast ?_ hb
 kernel_rfl
def N32 (x0 : Sl) (h : Hp) (K : Int → Hp → Prop) : Prop :=
 N32_l0 x0 ((x0.n : Nat) : Int) 0 0 0 h
 (fun n0 h0 =>
 C50 n0 h0 fun n1 h1 =>
 K (IntKind.wrap .u16 (BitVec.ofInt 16 65535 ^^^ BitVec.ofInt 16 n1).toNat) h1)
theorem S32 {x0 : Sl} {h : Hp} {K : Int → Hp → Prop} (hn : N32 x0 h K) : C32 x0 h K := by
 refine calls_of_D Tryz.func32 (c := B32) rfl (by kernel_rfl) ?_
 refine den_sound hE hm _ (.two .leaf (.two .leaf (.two (.two .leaf (.one (.xf N32_l0_t))) .leaf))) _ _ _ (⟨annOk_leaf, ⟨annOk_leaf, ⟨⟨annOk_leaf, N32_l0_ok⟩, annOk_leaf⟩⟩⟩) ?_
 refine cast ?_ hn
 kernel_rfl
end Go.Proofs.YtbbnpmikjdgdpaaGreat

/-
 The internet's sum: the program's and the document's; bytes lent; the bound.
-/
-- (no ref01.Sum)
-- (no ref01.Lent)
-- (no ref01.AsLent)
-- (no ref01.Beyond)
set_option linter.unusedSimpArgs false
set_option linter.unusedVariables false
namespace Go.Proofs.YtbbnpmikjdgdpaaGreat
open Go Go.Hw
def wat (i : Nat) (b : UInt8) : Nat := if i % 2 = 0 then 256 * b.toNat else b.toNat
def ws : Nat → List UInt8 → Nat
 | _, [] => 0
 | i, b :: l => wat i b + ws (i + 1) l
theorem ws_app (l m : List UInt8) : ∀ i, ws i (l ++ m) = ws i l + ws (i + l.length) m := by
 induction l with
 | nil => intro i; simp [ws]
 | cons b l ih => intro i; simp only [List.cons_append, ws, ih, List.length_cons]; rw [show i + 1 + l.length = i + (l.length + 1) by omega]; omega
theorem ws_snoc (l : List UInt8) (b : UInt8) : ws 0 (l ++ [b]) = ws 0 l + wat l.length b := by rw [ws_app]; simp [ws]
theorem wat_le (i : Nat) (b : UInt8) : wat i b ≤ 65280 := by have := b.toNat_lt; unfold wat; split <;> omega
def sum16 (l : List UInt8) : Nat := 65535 - fold16 (ws 0 l)
structure RdP (h : Hp) (s : Sl) (ts : List Sl) (ps : List (List UInt8)) : Prop where
 n : s.n = ts.length
 len : ts.length = ps.length
 r : Rdc h s.p (ts.map Sl.v)
 each : ∀ (i : Nat) t l, ts[i]? = some t → ps[i]? = some l → RdB h t l
theorem RdP.at {h : Hp} {s : Sl} {ts : List Sl} {ps : List (List UInt8)} (H : RdP h s ts ps) {x : Int} {i : Nat} (hx : x = i) (hi : i < ps.length) {F : Sl → Prop} (hF : ∀ t, ts[i]? = some t → RdB h t (ps[i]'hi) → F t) : idx x s.n (nn s.p fun a => xL (cell h (a.add (x.toNat * 1))) F) := by
 have hi2 : i < ts.length := by rw [H.len]; exact hi
 obtain ⟨a, hp, hc⟩ := H.r i (ts[i]).v (by rw [List.getElem?_map, List.getElem?_eq_getElem hi2]; rfl)
 refine idx_of (by omega) (by rw [H.n]; omega) ?_
 rw [hp]
 subst hx
 simp only [nn_some', Nat.mul_one, Int.toNat_natCast, hc, xL_v]
 exact hF _ (List.getElem?_eq_getElem hi2) (H.each i _ _ (List.getElem?_eq_getElem hi2) (List.getElem?_eq_getElem hi))
theorem flat_take {α : Type} (ps : List (List α)) {i : Nat} (hi : i < ps.length) : (ps.take (i + 1)).flatten = (ps.take i).flatten ++ ps[i] := by
 rw [← List.take_append_getElem hi, List.flatten_append]; simp
theorem flat_le {α : Type} (ps : List (List α)) (i : Nat) : (ps.take i).flatten.length ≤ ps.flatten.length := by
 have : ps.flatten = (ps.take i).flatten ++ (ps.drop i).flatten := by rw [← List.flatten_append, List.take_append_drop]
 rw [this]; simp
theorem c_sum {s : Sl} {ts : List Sl} {ps : List (List UInt8)} {h : Hp} {K : Int → Hp → Prop} (H : RdP h s ts ps) (hl : ∀ l ∈ ps, l.length ≤ 140737488355328) (hN : ps.flatten.length ≤ 4611686018427387904) (hn : ps.length ≤ 4611686018427387904) (hK : K ((sum16 ps.flatten : Nat) : Int) h) : C32 s h K := by
 apply S32; unfold N32 N32_l0
 have sn := H.n
 have sl := H.len
 refine loopP_inv (fun (x : Int × Int × Int) hc => hc = h ∧ ∃ i u : Nat, x.2.2 = i ∧ i ≤ ps.length ∧ x.1 = u ∧ u ≤ 65535 ∧ fold16 u = fold16 (ws 0 (ps.take i).flatten) ∧ x.2.1 = ((ps.take i).flatten.length : Int)) (fun x _ => ps.length - x.2.2.toNat) ?_
  ⟨rfl, 0, 0, rfl, Nat.zero_le _, rfl, by omega, rfl, rfl⟩
 rintro ⟨u, n, x⟩ hc ⟨rfl, i, u, hx, hi, hu, hub, hf, hnn⟩
 simp only at hx hu hnn
 subst hx; subst hu; subst hnn
 unfold N32_l0_B N32_l0_b
 dsimp only
 by_cases hlt : i < ps.length
 ·have : decide ((i : Int) < ((s.n : Nat) : Int)) = true := by simp; omega
  rw [this, cond_true]
  refine H.at rfl hlt ?_
  intro t ht hr
  generalize hm : ps[i] = m at hr
  have hml : m.length ≤ 140737488355328 := by rw [← hm]; exact hl _ (List.getElem_mem hlt)
  have ef := flat_take ps hlt
  rw [hm] at ef
  generalize hp : (ps.take i).flatten = pre at hf ef
  have tn := hr.n
  have hpl : pre.length + m.length ≤ 4611686018427387904 := by
   have := flat_le ps (i + 1)
   rw [ef, List.length_append] at this; omega
  unfold N32_l1
  refine loopP_inv (fun (y : Int × Int × Int) hc2 => hc2 = hc ∧ ∃ k v : Nat, y.2.2 = k ∧ k ≤ m.length ∧ y.1 = v ∧ v ≤ 65535 + 65280 * k ∧ fold16 v = fold16 (ws 0 (pre ++ m.take k)) ∧ y.2.1 = ((pre.length + k : Nat) : Int)) (fun y _ => m.length - y.2.2.toNat) ?_
   ⟨rfl, 0, u, rfl, Nat.zero_le _, rfl, by omega, by simpa using hf, by simp⟩
  rintro ⟨v, n2, y⟩ hc2 ⟨rfl, k, v, hy, hk, hv, hvb, hvf, hn2⟩
  simp only at hy hv hn2
  subst hy; subst hv; subst hn2
  unfold N32_l1_B N32_l1_b
  dsimp only
  by_cases hkl : k < m.length
  ·have : decide ((k : Int) < ((t.n : Nat) : Int)) = true := by simp; omega
   rw [this, cond_true]
   refine hr.at rfl hkl ?_
   have hb := (m[k]).toNat_lt
   have et : pre ++ m.take (k + 1) = (pre ++ m.take k) ++ [m[k]] := by rw [← List.take_append_getElem hkl, List.append_assoc]
   have el : (pre ++ m.take k).length = pre.length + k := by simp; omega
   have wle := wat_le (pre.length + k) m[k]
   have fs : fold16 (v + wat (pre.length + k) m[k]) = fold16 (ws 0 (pre ++ m.take (k + 1))) := by
    rw [et, ws_snoc, el, ← fold16_add, hvf, fold16_add]
   rw [nat_succ64 (by omega), nat_succ64 (by omega), Int.tmod_eq_emod_of_nonneg (by omega), wu64i (x := ((m[k].toNat : Nat) : Int)) (by omega) (by omega)]
   have e8 : (2 : Int) ^ 8 = 256 := rfl
   by_cases hp2 : (pre.length + k) % 2 = 0
   ·have : ((((pre.length + k : Nat) : Int) % 2) == 0) = true := by simp; omega
    rw [this, cond_true, e8, wu64i (x := ((m[k].toNat : Nat) : Int) * 256) (by omega) (by omega), wu64i (by omega) (by omega)]
    refine ⟨⟨rfl, k + 1, v + 256 * m[k].toNat, rfl, hkl, by omega, by omega, ?_, by first | omega | (dsimp only; omega)⟩, by first | omega | (dsimp only; omega)⟩
    have : wat (pre.length + k) m[k] = 256 * m[k].toNat := by unfold wat; rw [if_pos hp2]
    rw [← this]; exact fs
   ·have : ((((pre.length + k : Nat) : Int) % 2) == 0) = false := by simp; omega
    rw [this, cond_false, wu64i (by omega) (by omega)]
    refine ⟨⟨rfl, k + 1, v + m[k].toNat, rfl, hkl, by omega, by omega, ?_, by first | omega | (dsimp only; omega)⟩, by first | omega | (dsimp only; omega)⟩
    have : wat (pre.length + k) m[k] = m[k].toNat := by unfold wat; rw [if_neg hp2]
    rw [← this]; exact fs
  ·have : decide ((k : Int) < ((t.n : Nat) : Int)) = false := by simp; omega
   rw [this, cond_false]
   have : k = m.length := by omega
   subst this
   rw [List.take_length] at hvf
   refine c_folded (by omega) (by omega) ?_
   have fl := fold16_le v
   simp only [Int.toNat_natCast]
   rw [wu64i (by omega) (by omega), nat_succ64 (by omega)]
   refine ⟨⟨trivial, i + 1, fold16 v, rfl, hlt, rfl, fl, ?_, ?_⟩, by first | omega | (dsimp only; omega)⟩
   ·rw [ef, ← hvf, fold16_low fl]
   ·show _ = (((ps.take (i + 1)).flatten.length : Nat) : Int); rw [ef]; simp
 ·have : decide ((i : Int) < ((s.n : Nat) : Int)) = false := by simp; omega
  rw [this, cond_false]
  have : i = ps.length := by omega
  subst this
  rw [List.take_length] at hf
  refine c_folded (by omega) (by omega) ?_
  simp only [Int.toNat_natCast]
  have fl := fold16_le u
  rw [not16 (by omega) (by omega), hf]
  have : (65535 : Int) - ((fold16 (ws 0 ps.flatten) : Nat) : Int) = ((sum16 ps.flatten : Nat) : Int) := by unfold sum16; have := fold16_le (ws 0 ps.flatten); omega
  rw [this]; exact hK
end Go.Proofs.YtbbnpmikjdgdpaaGreat

/-
 A book of lists of bytes that came out: one more is taken; all of them are their owner's.
-/
-- (no (*ref01.Book).Take)
-- (no (*ref01.Book).Owned)
set_option linter.unusedSimpArgs false
set_option linter.unusedVariables false
namespace Go.Proofs.YtbbnpmikjdgdpaaGreat
open Go Go.Hw
theorem yl_a : Tryz.prog.cellsOf 32 = 1 := by kernel_rfl
theorem yl_z : (zc Tryz.prog 32).length = 1 := by kernel_rfl
theorem yl_b : Tryz.prog.bytesOf 32 = 24 := by kernel_rfl
abbrev Ent := Sl × List UInt8
def ownB (e : Ent) : Asn := Hw.own 5 1 e.1 (bc e.2)
def mk (i n : Nat) : List UInt8 := (List.range n).map fun j => UInt8.ofNat (markN i j)
def dn (i : Nat) (e : Ent) (g : Sl) : Asn :=
 orA (star [pur (g.p = e.1.p ∧ g.c = e.1.c ∧ e.1.n = e.2.length ∧ e.1.n ≤ e.1.c), Hw.own 5 1 g (bc (mk i (e.2.length + 9)))]) (star [Hw.own 5 1 e.1 (bc (mk i e.2.length)), Hw.own 5 1 g (bc (mk i (e.2.length + 9)))])
def its (E : List Ent) (G : List Sl) : List Asn := E.mapIdx fun j e => match G[j]? with
 | some g => dn j e g
 | none => ownB e
end Go.Proofs.YtbbnpmikjdgdpaaGreat

/-
  Rows of bytes that may bear a mark behind their end (a string's bytes, taken as a slice): reading, writing, append.
-/
set_option linter.unusedSimpArgs false
set_option linter.unusedVariables false
namespace Go.Hw
open Go
def Blm (h : Hp) (b : Nat) (T : TypeId) (l : List Value) : Prop := ∃ z : Nat × Nat, (z.1 = z.2 ∨ l.length ≤ z.1) ∧ h b = some (.cells ⟨l⟩ T z)
theorem Blm.cell {h : Hp} {b k : Nat} {T : TypeId} {l : List Value} (hb : Blm h b T l) : Hw.cell h ⟨b, k, none⟩ = l[k]? := by
  obtain ⟨z, _, hb⟩ := hb; exact cell_at hb
def OwnB (h : Hp) (T : TypeId) (s : Sl) (l : List UInt8) : Prop :=
  l.length = s.n ∧ s.n ≤ s.c ∧
  match s.p with
  | none => s.c = 0
  | some a => a = bk a.block ∧ ∃ cs, Blm h a.block T cs ∧ cs.length = s.c ∧ cs.take l.length = bc l
theorem OwnB.rdb {h : Hp} {T : TypeId} {s : Sl} {l : List UInt8} (ho : OwnB h T s l) : RdB h s l := by
  obtain ⟨h1, h2, h3⟩ := ho
  refine ⟨h1.symm, h2, ?_⟩
  intro i v hi
  have hil := (List.getElem?_eq_some_iff.1 hi).1
  rw [bc_len] at hil
  cases hp : s.p with
  | none => rw [hp] at h3; have : s.c = 0 := h3; omega
  | some a =>
    rw [hp] at h3
    obtain ⟨e, cs, hb, hl, ht⟩ := h3
    refine ⟨a, rfl, ?_⟩
    rw [e, add_bk, hb.cell]
    rw [← ht, List.getElem?_take, if_pos hil] at hi
    exact hi
def byt (T : TypeId) (s : Sl) (l : List UInt8) : Asn :=
  ⟨fun F h => (∀ x, F x ↔ s.p = some (bk x)) ∧ OwnB h T s l,
   fun {F h h'} hl hh => ⟨hh.1, by
    obtain ⟨h1, h2, h3⟩ := hh.2
    refine ⟨h1, h2, ?_⟩
    cases hp : s.p with
    | none => rw [hp] at h3; exact h3
    | some a =>
      rw [hp] at h3
      obtain ⟨e, cs, ⟨z, hz, hb⟩, hr⟩ := h3
      exact ⟨e, cs, ⟨z, hz, (hl a.block ((hh.1 _).2 (by rw [hp, e]))).trans hb⟩, hr⟩⟩,
   fun {F h x} hh hx => by
    have hp := (hh.1 x).1 hx
    have h3 := hh.2.2.2
    rw [hp] at h3
    obtain ⟨_, cs, ⟨z, _, hb⟩, _⟩ := h3
    rw [show h x = _ from hb]; simp⟩
theorem Sat.byt {L M : List Asn} {h : Hp} (hs : Sat (L ++ M) h) (j : Nat) {T : TypeId} {s : Sl} {l : List UInt8} (hj : M[j]? = some (Hw.byt T s l)) : OwnB h T s l := let ⟨_, hF⟩ := hs.get' j hj; hF.2
theorem Sat.addB {L M : List Asn} {h h' : Hp} {T : TypeId} {s : Sl} {l : List UInt8} (hs : Sat (L ++ M) h) (he : Ext none' h h') (ho : OwnB h' T s l) (hf : ∀ b, s.p = some (bk b) → h b = none) : Sat (L ++ (M ++ [Hw.byt T s l])) h' :=
  hs.add he (F' := fun x => s.p = some (bk x)) ⟨fun _ => Iff.rfl, ho⟩ hf
end Go.Hw

/-
 Copy, for elements of any number of cells.
-/
set_option linter.unusedSimpArgs false
set_option linter.unusedVariables false
namespace Go.Hw
open Go
end Go.Hw

/-
 More on separate blocks: another order, loads out of rows, one of a star.
-/
set_option linter.unusedSimpArgs false
set_option linter.unusedVariables false
namespace Go.Hw
open Go
theorem Sat.sel {L M : List Asn} {h : Hp} (hs : Sat (L ++ M) h) (is : List Nat) (hn : is.Nodup) {M' : List Asn} (hM : is.map (fun i => M[i]?) = M'.map some) : Sat (L ++ M') h := by
 have hlen : is.length = M'.length := by have := congrArg List.length hM; simpa using this
 have key : ∀ (i : Nat) (A : Asn), M'[i]? = some A → ∃ k : Nat, is[i]? = some k ∧ M[k]? = some A := by
  intro i A hA
  have h1 := congrArg (fun l => l[i]?) hM
  simp only [List.getElem?_map, hA, Option.map_some] at h1
  cases hk : is[i]? with
  | none => rw [hk] at h1; cases h1
  | some k => rw [hk] at h1; exact ⟨k, rfl, by simpa using h1⟩
 refine hs.pick (fun i => if i < L.length then i else L.length + is.getD (i - L.length) 0) ?_ ?_
 ·intro i A hi
  by_cases e : i < L.length
  ·rw [if_pos e]; rw [List.getElem?_append_left e] at hi ⊢; exact hi
  ·rw [if_neg e]
   rw [List.getElem?_append_right (by omega)] at hi
   obtain ⟨k, hk, hA⟩ := key _ _ hi
   rw [List.getElem?_append_right (by omega), Nat.add_sub_cancel_left]
   simp only [List.getD, hk, Option.getD_some]; exact hA
 ·intro i j hi hj e
  simp only [List.length_append] at hi hj
  by_cases e1 : i < L.length
  ·by_cases e2 : j < L.length
   ·simp only [if_pos e1, if_pos e2] at e; exact e
   ·simp only [if_pos e1, if_neg e2] at e; omega
  ·by_cases e2 : j < L.length
   ·simp only [if_neg e1, if_pos e2] at e; omega
   ·simp only [if_neg e1, if_neg e2] at e
    have hi' : i - L.length < is.length := by omega
    have hj' : j - L.length < is.length := by omega
    simp only [List.getD, List.getElem?_eq_getElem hi', List.getElem?_eq_getElem hj', Option.getD_some] at e
    have e3 : is[i - L.length] = is[j - L.length] := by omega
    have : i - L.length = j - L.length := (List.getElem_inj hn).1 e3
    omega
theorem Sat.asc {L A B : List Asn} {h : Hp} (hs : Sat ((L ++ A) ++ B) h) : Sat (L ++ (A ++ B)) h := by rw [← List.append_assoc]; exact hs
theorem Sat.csa {L A B : List Asn} {h : Hp} (hs : Sat (L ++ (A ++ B)) h) : Sat ((L ++ A) ++ B) h := by rw [List.append_assoc]; exact hs
theorem Sat.mv {L A B C D : List Asn} {h : Hp} (hs : Sat ((L ++ A) ++ B) h) (e : A ++ B = C ++ D := by rfl) : Sat ((L ++ C) ++ D) h := by rw [List.append_assoc, ← e, ← List.append_assoc]; exact hs
section
variable {L M : List Asn} {h : Hp} {b k : Nat} {T : TypeId} {cs : List Value}
theorem Sat.lI (hs : Sat (L ++ M) h) (j : Nat) {κ : IntKind} {n : Int} {F : Int → Prop} (hj : M[j]? = some (row b T cs)) (hc : cs[k]? = some (.int κ n)) (hF : F n) : xI κ (cell h ⟨b, k, none⟩) F :=
 xI_of (by rw [(hs.blk j hj).cell]; exact hc) hF
theorem Sat.lB (hs : Sat (L ++ M) h) (j : Nat) {n : Bool} {F : Bool → Prop} (hj : M[j]? = some (row b T cs)) (hc : cs[k]? = some (.bool n)) (hF : F n) : xB (cell h ⟨b, k, none⟩) F :=
 xB_of (by rw [(hs.blk j hj).cell]; exact hc) hF
theorem Sat.lS (hs : Sat (L ++ M) h) (j : Nat) {n : ByteArray} {F : ByteArray → Prop} (hj : M[j]? = some (row b T cs)) (hc : cs[k]? = some (.string n)) (hF : F n) : xS (cell h ⟨b, k, none⟩) F :=
 xS_of (by rw [(hs.blk j hj).cell]; exact hc) hF
theorem Sat.lP (hs : Sat (L ++ M) h) (j : Nat) {n : Option Addr} {F : Option Addr → Prop} (hj : M[j]? = some (row b T cs)) (hc : cs[k]? = some (.pointer n)) (hF : F n) : xP (cell h ⟨b, k, none⟩) F :=
 xP_of (by rw [(hs.blk j hj).cell]; exact hc) hF
theorem Sat.lL (hs : Sat (L ++ M) h) (j : Nat) {p : Option Addr} {n c : Nat} {F : Sl → Prop} (hj : M[j]? = some (row b T cs)) (hc : cs[k]? = some (.slice p n c)) (hF : F ⟨p, n, c⟩) : xL (cell h ⟨b, k, none⟩) F :=
 xL_of (s := ⟨p, n, c⟩) (by rw [(hs.blk j hj).cell]; exact hc) hF
theorem Sat.lM (hs : Sat (L ++ M) h) (j : Nat) {n : Option Nat} {F : Option Nat → Prop} (hj : M[j]? = some (row b T cs)) (hc : cs[k]? = some (.map n)) (hF : F n) : xM (cell h ⟨b, k, none⟩) F :=
 xM_of (by rw [(hs.blk j hj).cell]; exact hc) hF
theorem Sat.lA (hs : Sat (L ++ M) h) (j : Nat) {n : Value} {F : Value → Prop} (hj : M[j]? = some (row b T cs)) (hc : cs[k]? = some n) (hF : F n) : xA (cell h ⟨b, k, none⟩) F :=
 xA_of (by rw [(hs.blk j hj).cell]; exact hc) hF
end
section
variable {L M : List Asn} {h : Hp} {T : TypeId} {sz : Nat} {s : Sl} {vs : List Value}
theorem Sat.cel (hs : Sat (L ++ M) h) (j : Nat) {k : Nat} {v : Value} (hj : M[j]? = some (Hw.own T sz s vs)) (hk : vs[k]? = some v) : ∃ b, s.p = some (bk b) ∧ cell h ⟨b, k, none⟩ = some v := (hs.own j hj).get hk
theorem Sat.oI (hs : Sat (L ++ M) h) (j : Nat) {κ : IntKind} {n : Int} {k : Nat} {F : Int → Prop} (hj : M[j]? = some (Hw.own T sz s vs)) (hk : vs[k]? = some (.int κ n)) (hF : F n) : nn s.p fun a => xI κ (cell h (a.add k)) F := by
 obtain ⟨b, hp, hc⟩ := hs.cel j hj hk
 rw [hp, nn_some', add_bk]; exact xI_of hc hF
theorem Sat.stO (hs : Sat (L ++ M) h) (j : Nat) {k : Nat} {v : Value} {F : Hp → Prop} {a : Addr} (hj : M[j]? = some (Hw.own T sz s vs)) (hk : k < vs.length) (hp : plain v = true) (ha : s.p = some a)
  (hF : ∀ h', Sat (L ++ M.set j (Hw.own T sz s (vs.set k v))) h' → F h') : Hw.st h (a.add k) v F := by
 obtain ⟨r, hr, ⟨cs, hb⟩, hst⟩ := (hs.own j hj).st hk
 rw [ha] at hr; cases hr
 rw [add_bk]
 refine hst v F hp fun h' ho he => ?_
 refine hF h' (hs.at j hj fun G hG => ⟨G, ⟨hG.1, ho⟩, fun x hx => .inl hx, fun x hx hne => ?_⟩)
 cases hq : h x with
 | none => exact (hne hq).elim
 | some o => exact he x o hq fun e => hx ((hG.1 x).2 (by rw [ha, e]))
end
theorem Sat.out {L X : List Asn} {A : Asn} {h : Hp} (hs : Sat (L ++ [star X]) h) (j : Nat) (hj : X[j]? = some A) : Sat (L ++ [star (X.eraseIdx j), A]) h := by
 have h1 := hs.open.rot j hj
 have h2 : Sat ((L ++ [A]) ++ X.eraseIdx j) h := by
  have hlen := lt_of_get hj
  refine h1.pick (fun i => if i < L.length then i else if i = L.length then (L ++ X.eraseIdx j).length else i - 1) ?_ ?_
  ·intro i B hi
   have hil := lt_of_get hi
   simp only [List.length_append, List.length_singleton] at hil
   by_cases e : i < L.length
   ·simp only [if_pos e]
    rw [List.getElem?_append_left (by simp; omega), List.getElem?_append_left e] at hi
    rw [List.getElem?_append_left (by simp; omega), List.getElem?_append_left e]; exact hi
   ·simp only [if_neg e]
    by_cases e2 : i = L.length
    ·simp only [if_pos e2]
     rw [e2, List.getElem?_append_left (by simp), List.getElem?_append_right (Nat.le_refl _), Nat.sub_self] at hi
     rw [List.getElem?_append_right (Nat.le_refl _), Nat.sub_self]; exact hi
    ·simp only [if_neg e2]
     rw [List.getElem?_append_right (by simp; omega)] at hi
     rw [List.getElem?_append_left (by simp; omega), List.getElem?_append_right (by omega)]
     rw [show i - 1 - L.length = i - (L ++ [A]).length by simp; omega]; exact hi
  ·intro i k hi hk e
   simp only [List.length_append, List.length_singleton] at hi hk e
   split at e <;> split at e <;> (try split at e) <;> (try split at e) <;> omega
 have h3 := h2.close
 have h4 : Sat (L ++ [A, star (X.eraseIdx j)]) h := by simpa using h3
 exact h4.sel [1, 0] (by decide) rfl
theorem Sat.inn {L X : List Asn} {A' : Asn} {h : Hp} (j : Nat) (hs : Sat (L ++ [star (X.eraseIdx j), A']) h) (hj : j < X.length) : Sat (L ++ [star (X.set j A')]) h := by
 have h1 : Sat (L ++ [A', star (X.eraseIdx j)]) h := hs.sel [1, 0] (by decide) rfl
 have h2 : Sat ((L ++ [A']) ++ [star (X.eraseIdx j)]) h := by simpa using h1
 have h3 := h2.open
 have hel : (X.eraseIdx j).length + 1 = X.length := by rw [List.length_eraseIdx_of_lt hj]; omega
 have h4 : Sat ((L ++ X.eraseIdx j) ++ [A']) h := by
  refine h3.pick (fun i => if i < L.length then i else if i = (L ++ X.eraseIdx j).length then L.length else i + 1) ?_ ?_
  ·intro i B hi
   have hil := lt_of_get hi
   simp only [List.length_append, List.length_singleton] at hil
   by_cases e : i < L.length
   ·simp only [if_pos e]
    rw [List.getElem?_append_left (by simp; omega), List.getElem?_append_left e] at hi
    rw [List.getElem?_append_left (by simp; omega), List.getElem?_append_left e]; exact hi
   ·simp only [if_neg e]
    by_cases e2 : i = (L ++ X.eraseIdx j).length
    ·simp only [if_pos e2]
     rw [e2, List.getElem?_append_right (Nat.le_refl _), Nat.sub_self] at hi
     rw [List.getElem?_append_left (by simp), List.getElem?_append_right (Nat.le_refl _), Nat.sub_self]; exact hi
    ·simp only [if_neg e2]
     simp only [List.length_append] at e2
     rw [List.getElem?_append_left (by simp; omega), List.getElem?_append_right (by omega)] at hi
     rw [List.getElem?_append_right (by simp; omega)]
     rw [show i + 1 - (L ++ [A']).length = i - L.length by simp]; exact hi
  ·intro i k hi hk e
   simp only [List.length_append, List.length_singleton] at hi hk e
   split at e <;> split at e <;> (try split at e) <;> (try split at e) <;> omega
 exact (h4.back hj).close
end Go.Hw

/-
  Slices that own the rest of their row from some place on: queues (append behind, cut ahead).
-/
set_option linter.unusedSimpArgs false
set_option linter.unusedVariables false
namespace Go.Hw
open Go
def OwnT (h : Hp) (T : TypeId) (sz : Nat) (s : Sl) (vs : List Value) : Prop :=
  vs.length = s.n * sz ∧ s.n ≤ s.c ∧ (s.c ≠ 0 → ∃ b o cs, s.p = some ⟨b, o, none⟩ ∧ Blk h b T cs ∧ cs.length = o + s.c * sz ∧ (cs.drop o).take vs.length = vs)
def Sl.tb (s : Sl) (x : Nat) : Prop := s.c ≠ 0 ∧ ∃ o, s.p = some ⟨x, o, none⟩
def tailA (T : TypeId) (sz : Nat) (s : Sl) (vs : List Value) : Asn :=
  ⟨fun F h => (∀ x, F x ↔ s.tb x) ∧ OwnT h T sz s vs,
   fun {F h h'} hl hh => ⟨hh.1, hh.2.1, hh.2.2.1, fun hc => by
    obtain ⟨b, o, cs, hp, hb, hr⟩ := hh.2.2.2 hc
    exact ⟨b, o, cs, hp, (hl b ((hh.1 b).2 ⟨hc, o, hp⟩)).trans hb, hr⟩⟩,
   fun {F h x} hh hx => by
    obtain ⟨hc, o, hp⟩ := (hh.1 x).1 hx
    obtain ⟨b, o', cs, hp', hb, _⟩ := hh.2.2.2 hc
    rw [hp] at hp'; cases hp'
    rw [show h x = _ from hb]; simp⟩
section
variable {P : Program} {L M : List Asn} {h : Hp} {T : TypeId} {sz : Nat} {s : Sl} {vs : List Value}
theorem OwnT.nil {p : Option Addr} : OwnT h T sz ⟨p, 0, 0⟩ [] := ⟨by simp, Nat.le_refl _, fun e => absurd rfl e⟩
theorem OwnT.get (ho : OwnT h T sz s vs) {k : Nat} {v : Value} (hk : vs[k]? = some v) : ∃ a, s.p = some a ∧ cell h (a.add k) = some v := by
  have hlt := (List.getElem?_eq_some_iff.1 hk).1
  have hc : s.c ≠ 0 := by
    intro e
    have h1 := ho.1; have h2 := ho.2.1
    have : s.n = 0 := by omega
    rw [this, Nat.zero_mul] at h1; omega
  obtain ⟨b, o, cs, hp, hb, hl, ht⟩ := ho.2.2 hc
  refine ⟨_, hp, ?_⟩
  rw [add_mk, hb.cell]
  rw [← ht, List.getElem?_take, if_pos hlt, List.getElem?_drop] at hk
  exact hk
theorem OwnT.rdc (ho : OwnT h T sz s vs) : Rdc h s.p vs := fun i v hi => ho.get hi
theorem Sat.tail (hs : Sat (L ++ M) h) (j : Nat) (hj : M[j]? = some (tailA T sz s vs)) : OwnT h T sz s vs := let ⟨_, hF⟩ := hs.get' j hj; hF.2
theorem Sat.addNilT {L M : List Asn} {h : Hp} (T : TypeId) (sz : Nat) (p : Option Addr) (hs : Sat (L ++ M) h) : Sat (L ++ (M ++ [tailA T sz ⟨p, 0, 0⟩ []])) h :=
  hs.add Ext.refl (F' := fun _ => False) ⟨fun x => ⟨fun e => e.elim, fun e => e.1 rfl⟩, OwnT.nil⟩ (fun x hx => hx.elim)
theorem srcK_tail {F : List Value → Prop} (ho : OwnT h T sz s vs) (hF : F vs) : srcK h sz s.n s.v F := by
  unfold srcK Sl.v
  simp only []
  cases hp : s.p with
  | none =>
    have hc : s.c = 0 := by
      cases hq : s.c with
      | zero => rfl
      | succ n => obtain ⟨b, o, cs, hp', _⟩ := ho.2.2 (by rw [hq]; simp); rw [hp] at hp'; cases hp'
    have h1 := ho.1; have h2 := ho.2.1
    have : s.n = 0 := by omega
    rw [this, Nat.zero_mul] at h1
    rw [List.length_eq_zero_iff.1 h1] at hF
    exact hF
  | some a =>
    have hr := ho.rdc
    rw [hp] at hr
    simp only []
    rw [hr.rdN _ _ (by rw [ho.1]; omega)]
    simp only [List.drop_zero]
    rw [← ho.1, List.take_length]; exact hF
theorem Sat.apT {ns : List Value} {y : Value} {F : Sl → Hp → Prop} {n : Nat} (hs : Sat (L ++ M) h) (j : Nat) (hj : M[j]? = some (tailA T sz s vs))
    (hsz : P.cellsOf T = sz) (hz : (zc P T).length = sz) (hln : ∀ G : Nat → Prop, lnK y G = G n) (hsrc : ∀ G : List Value → Prop, G ns → srcK h sz n y G)
    (hns : ns.length = n * sz) (hpl : ∀ v ∈ ns, plain v = true) (hby : (s.n + n) * 2 * P.bytesOf T ≤ 2 ^ 48)
    (hF : ∀ s' h', Sat (L ++ M.set j (tailA T sz s' (vs ++ ns))) h' → s'.n = s.n + n → F s' h') : apK P T s y h F := by
  have ho := hs.tail j hj
  have ho' := ho
  unfold apK
  rw [hln]
  obtain ⟨h1, h2, h3⟩ := ho
  refine ⟨fun hc => ?_, fun hc => ⟨?_, ?_⟩⟩
  · rw [hsz]
    refine hsrc _ ?_
    by_cases h0 : s.c = 0
    · have hn0 : n = 0 := by omega
      have hsn : s.n = 0 := by omega
      subst hn0
      rw [Nat.zero_mul] at hns
      have : ns = [] := List.length_eq_zero_iff.1 hns
      subst this
      have go : F ⟨s.p, s.n + 0, s.c⟩ h := hF _ _ (hs.imp j hj fun F' hF' => by rw [List.append_nil]; exact hF') rfl
      cases hp : s.p with
      | none => rw [hp] at go; exact go
      | some a => rw [hp] at go; simp only [wrL]; exact go
    · obtain ⟨b, o, cs, hp, hb, hl, ht⟩ := h3 h0
      rw [hp]
      simp only []
      have hmul : (s.n + n) * sz ≤ s.c * sz := Nat.mul_le_mul_right _ hc
      rw [Nat.add_mul] at hmul
      rw [add_mk]
      refine wrL_blk ns 0 h cs hb (by omega) hpl ?_
      intro h' hb' hf
      rw [Nat.add_zero, setL_eq (by omega)] at hb'
      refine hF ⟨some ⟨b, o, none⟩, s.n + n, s.c⟩ h' (hs.at j hj fun G hG => ⟨G, ⟨fun x => ?_, by simp [h1, hns, Nat.add_mul], hc, fun _ => ⟨b, o, _, rfl, hb', ?_, ?_⟩⟩, fun x hx => .inl hx, fun x hx _ => hf x fun e => hx ((hG.1 x).2 ⟨h0, o, by rw [hp, e]⟩)⟩) rfl
      · rw [hG.1 x]; unfold Sl.tb; rw [hp]
      · simp only [List.length_append, List.length_take, List.length_drop]; omega
      · have e1 : (cs.take (o + s.n * sz) ++ ns ++ cs.drop (o + s.n * sz + ns.length)).drop o = ((cs.drop o).take (s.n * sz) ++ ns) ++ cs.drop (o + s.n * sz + ns.length) := by
          rw [List.append_assoc, List.drop_append_of_le_length (by rw [List.length_take]; omega), List.drop_take]
          rw [show o + s.n * sz - o = s.n * sz by omega, List.append_assoc]
        rw [e1, ← h1, ht]
        exact List.take_left' rfl
  · have := nextcap_le (s.n + n) s.c hc
    calc _ ≤ 2 * (s.n + n) * P.bytesOf T := Nat.mul_le_mul_right _ this
      _ = (s.n + n) * 2 * P.bytesOf T := by rw [Nat.mul_comm 2]
      _ ≤ 2 ^ 48 := hby
  · rw [hsz]
    refine srcK_tail ho' ?_
    refine hsrc _ ?_
    intro c b hcb hb
    have harr : (⟨vs ++ ns⟩ : Array Value) ++ zeros P T (c - (s.n + n)) = ⟨(vs ++ ns) ++ (zeros P T (c - (s.n + n))).toList⟩ := by apply Array.ext'; simp
    rw [harr]
    have hcl : ((vs ++ ns) ++ (zeros P T (c - (s.n + n))).toList).length = c * sz := by
      rw [List.length_append, zeros_len, hz, List.length_append, h1, hns, ← Nat.add_mul, ← Nat.add_mul]; congr 1; omega
    refine hF ⟨some ⟨b, 0, none⟩, s.n + n, c⟩ _ (hs.at j hj fun G hG => ⟨fun x => (Sl.mk (some ⟨b, 0, none⟩) (s.n + n) c).tb x, ⟨fun _ => Iff.rfl, by simp [h1, hns, Nat.add_mul], hcb, fun _ => ⟨b, 0, _, rfl, Blk.upd_same, by rw [Nat.zero_add]; exact hcl, by rw [List.drop_zero]; exact List.take_left⟩⟩, ?_, ?_⟩) rfl
    · rintro x ⟨_, o, hx⟩
      simp only [Option.some.injEq] at hx
      have : b = x := congrArg Addr.block hx
      subst this; exact .inr hb
    · intro x _ hne
      exact upd_ne fun e => hne (by rw [e]; exact hb)
theorem OwnT.cut (ho : OwnT h T sz s vs) {k : Nat} (hk : k ≤ s.n) (h0 : 0 < sz) : OwnT h T sz ⟨sadr s.p s.c k sz, s.n - k, s.c - k⟩ (vs.drop (k * sz)) := by
  obtain ⟨h1, h2, h3⟩ := ho
  refine ⟨by rw [List.length_drop, h1, ← Nat.sub_mul], by show s.n - k ≤ s.c - k; omega, fun hc => ?_⟩
  have hc : s.c - k ≠ 0 := hc
  obtain ⟨b, o, cs, hp, hb, hl, ht⟩ := h3 (by omega)
  refine ⟨b, o + k * sz, cs, ?_, hb, ?_, ?_⟩
  · show sadr s.p s.c k sz = _
    unfold sadr
    rw [if_neg (by omega), hp]
    simp
  · show _ = o + k * sz + (s.c - k) * sz
    rw [hl, Nat.sub_mul]
    have : k * sz ≤ s.c * sz := Nat.mul_le_mul_right _ (by omega)
    omega
  · rw [← ht, ← List.drop_drop, List.drop_take, List.length_take]
    congr 1
    rw [List.length_drop, List.length_drop]
    have : vs.length ≤ cs.length - o := by
      have := congrArg List.length ht
      rw [List.length_take, List.length_drop] at this; omega
    omega
theorem Sat.cutT (hs : Sat (L ++ M) h) (j : Nat) (hj : M[j]? = some (tailA T sz s vs)) {k : Nat} (hk : k ≤ s.n) (h0 : 0 < sz) : Sat (L ++ M.set j (tailA T sz ⟨sadr s.p s.c k sz, s.n - k, s.c - k⟩ (vs.drop (k * sz)))) h := by
  refine hs.at j hj fun G hG => ⟨fun x => (Sl.mk (sadr s.p s.c k sz) (s.n - k) (s.c - k)).tb x, ⟨fun _ => Iff.rfl, hG.2.cut hk h0⟩, ?_, fun _ _ _ => rfl⟩
  rintro x ⟨hc, o, hx⟩
  have hc : s.c - k ≠ 0 := hc
  refine .inl ((hG.1 x).2 ⟨by omega, ?_⟩)
  have hx : sadr s.p s.c k sz = some ⟨x, o, none⟩ := hx
  unfold sadr at hx
  rw [if_neg (by omega)] at hx
  obtain ⟨b, o', cs, hp, _⟩ := hG.2.2.2 (by omega)
  rw [hp] at hx ⊢
  simp only [Option.map_some, add_mk, Option.some.injEq, Addr.mk.injEq] at hx
  exact ⟨o', by rw [hx.1]⟩
end
end Go.Hw

/-
 More on separate blocks: new rows told by a lemma, copies to a place within an owned row.
-/
set_option linter.unusedSimpArgs false
set_option linter.unusedVariables false
namespace Go.Hw
open Go
theorem Sat.nw {L M : List Asn} {h : Hp} {o : Obj} {F : Nat → Hp → Prop} (hs : Sat (L ++ M) h) (hF : ∀ b h', Sat (L ++ (M ++ [Hw.pt b o])) h' → Ext none' h h' → F b h') : Hw.nw h o F :=
 fun b hb => hF b _ (hs.new hb o) (Ext.new hb)
theorem Sat.base (h : Hp) : ∃ L, Sat (L ++ []) h ∧ ∀ {M : List Asn} {h' : Hp}, Sat (L ++ M) h' → Ext none' h h' :=
 ⟨[Hw.was h], Sat.start, fun hs => hs.left.was (L := []) (M := [Hw.was h]) 0 rfl⟩
theorem Rdc.srcK {h : Hp} {a : Addr} {vs : List Value} (H : Rdc h (some a) vs) {n m c : Nat} (hn : n ≤ vs.length) {F : List Value → Prop} (hF : F (vs.take n)) : Hw.srcK h 1 n (.slice (some a) m c) F := by
 unfold Hw.srcK
 simp only []
 rw [H.rdN _ _ (by simp; omega)]
 simp only [List.drop_zero, Nat.mul_one]
 exact hF
theorem Blk.rdcAt {h : Hp} {b : Nat} {T : TypeId} {cs : List Value} (hb : Blk h b T cs) (o : Nat) : Rdc h (some ⟨b, o, none⟩) (cs.drop o) := fun i v hi => ⟨_, rfl, by rw [add_mk, hb.cell]; rw [List.getElem?_drop] at hi; exact hi⟩
theorem Sat.cpAt {P : Program} {L M : List Asn} {T : TypeId} {s : Sl} {vs ns : List Value} {y : Value} {h : Hp} {F : Nat → Hp → Prop} {n k : Nat} (hs : Sat (L ++ M) h) (j : Nat) (hj : M[j]? = some (Hw.own T 1 s vs))
  (hk : k ≤ s.n) (hsz : P.cellsOf T = 1) (hln : ∀ G : Nat → Prop, lnK y G = G n) (hn : k + n ≤ s.n) (hsrc : ∀ G : List Value → Prop, G ns → srcK h 1 n y G) (hns : ns.length = n) (hpl : ∀ v ∈ ns, plain v = true)
  (hF : ∀ h', Sat (L ++ M.set j (Hw.own T 1 s (vs.take k ++ ns ++ vs.drop (k + n)))) h' → F n h') : cpK P T ⟨sadr s.p s.c k 1, s.n - k, s.c - k⟩ y h F := by
 unfold cpK
 rw [hln, hsz]
 have em : Nat.min n (s.n - k) = n := Nat.min_eq_left (by omega)
 simp only [em]
 refine hsrc _ ?_
 obtain ⟨ho1, ho2, ho3⟩ := hs.own j hj
 rw [Nat.mul_one] at ho1
 cases hp : s.p with
 | none =>
  rw [hp] at ho3
  have hc : s.c = 0 := ho3
  have hn0 : n = 0 := by omega
  have hk0 : k = 0 := by omega
  subst hn0; subst hk0
  have : ns = [] := List.length_eq_zero_iff.1 hns
  subst this
  have e : sadr none s.c 0 1 = none := by simp
  rw [e]
  simp only []
  refine hF h ?_
  have := hs.imp j hj (A' := Hw.own T 1 s vs) (fun F h => h)
  simpa using this
 | some a =>
  rw [hp] at ho3
  obtain ⟨ea, cs, hcs, hcl, hct⟩ := ho3
  rw [Nat.mul_one] at hcl
  have fin : ∀ h2, (Hw.Blk h2 a.block T (setL cs k ns)) → (∀ x, x ≠ a.block → h2 x = h x) → F n h2 := by
   intro h2 hb2 hf2
   have hlv : vs.length ≤ cs.length := by rw [← hct]; simp; omega
   refine hF h2 (hs.at j hj fun G hG => ⟨G, ⟨hG.1, by simp; omega, ho2, ?_⟩, fun x hx => .inl hx, fun x hx _ => hf2 x (fun e => hx ((hG.1 x).2 (by rw [hp, ea, e])))⟩)
   rw [hp]
   refine ⟨ea, _, hb2, by rw [setL_length, Nat.mul_one]; exact hcl, ?_⟩
   rw [setL_eq (by omega), hns]
   have e1 : cs.take k = vs.take k := by rw [← hct, List.take_take, Nat.min_eq_left (by omega)]
   have e2 : cs.drop (k + n) = vs.drop (k + n) ++ cs.drop vs.length := by
    have h1 : cs = vs ++ cs.drop vs.length := by conv => lhs; rw [← List.take_append_drop vs.length cs, hct]
    conv => lhs; rw [h1]
    rw [List.drop_append_of_le_length (by omega)]
   rw [e1, e2, ← List.append_assoc]
   exact List.take_left
  by_cases hck : s.c = k
  ·have hn0 : n = 0 := by omega
   have : ns = [] := List.length_eq_zero_iff.1 (by omega)
   subst this
   have e : sadr (some a) s.c k 1 = some a := by unfold sadr; rw [if_pos hck]
   rw [e]
   simp only [wrL]
   exact fin h hcs (fun _ _ => rfl)
  ·have e : sadr (some a) s.c k 1 = some (a.add k) := by unfold sadr; rw [if_neg hck]; simp
   rw [e]
   simp only []
   rw [ea, add_bk]
   refine wrL_blk (b := a.block) (o := k) ns 0 _ cs hcs (by omega) hpl ?_
   intro h2 hb2 hf2
   exact fin h2 hb2 hf2
theorem Sat.cp0 {P : Program} {L M : List Asn} {T : TypeId} {s : Sl} {vs ns : List Value} {y : Value} {h : Hp} {F : Nat → Hp → Prop} {n : Nat} (hs : Sat (L ++ M) h) (j : Nat) (hj : M[j]? = some (Hw.own T 1 s vs))
  (hsz : P.cellsOf T = 1) (hln : ∀ G : Nat → Prop, lnK y G = G n) (hn : n ≤ s.n) (hsrc : ∀ G : List Value → Prop, G ns → srcK h 1 n y G) (hns : ns.length = n) (hpl : ∀ v ∈ ns, plain v = true)
  (hF : ∀ h', Sat (L ++ M.set j (Hw.own T 1 s (ns ++ vs.drop n))) h' → F n h') : cpK P T s y h F := by
 have := hs.cpAt (P := P) (F := F) (y := y) (n := n) (k := 0) j hj (Nat.zero_le _) hsz hln (by omega) hsrc hns hpl (fun h' hs' => hF h' (by simpa using hs'))
 simpa using this
theorem Sat.part {L M : List Asn} {h : Hp} (hs : Sat (L ++ M) h) (is : List Nat) (hn : is.Nodup) {M1 M2 : List Asn} (hM : is.map (fun i => M[i]?) = (M1 ++ M2).map some) : Sat ((L ++ M1) ++ M2) h := Sat.csa (hs.sel is hn hM)
theorem loopP_ghost {S G : Type} {B : S → Hp → (S → Hp → Prop) → Prop} (I : S → Hp → G → Prop) (μ : G → Nat)
  (hr : ∀ s h g, I s h g → B s h (fun s' h' => ∃ g', I s' h' g' ∧ μ g' < μ g)) {s : S} {h : Hp} (g : G) (h0 : I s h g) : loopP B s h := by
 intro Φ hΦ
 have key : ∀ m s h g, μ g = m → I s h g → Φ s h := by
  intro m
  induction m using Nat.strongRecOn with
  | _ m ih =>
   intro s h g hm hI
   exact hΦ s h ⟨_, fun s' h' hp => let ⟨g', h1, h2⟩ := hp; ih (μ g') (hm ▸ h2) s' h' g' rfl h1, hr s h g hI⟩
 exact key _ s h g rfl h0
end Go.Hw

set_option linter.unusedVariables false
set_option maxRecDepth 100000
namespace Go.Proofs.YtbbnpmikjdgdpaaGreat
open Go Go.Hw
noncomputable def B57 : Code := match Tryz.f57.body with | some c => c | none => .skip
def N57 (x0 : Sl) (h : Hp) (K : Sl → Hp → Prop) : Prop :=
 bif x0.p.isNone then
 K ⟨none, 0, 0⟩ h
 else
 nw h (.cells ⟨[]⟩ 5) fun b0 h0 =>
 apK Tryz.prog 5 ⟨some (bk b0), 0, 0⟩ (.slice x0.p x0.n x0.c) h0 fun s0 h1 =>
 K s0 h1
theorem S57 {x0 : Sl} {h : Hp} {K : Sl → Hp → Prop} (hn : N57 x0 h K) : C57 x0 h K := by
 refine calls_of_D Tryz.func57 (c := B57) rfl (by kernel_rfl) ?_
 refine den_sound hE hm _ .leaf _ _ _ (annOk_leaf) ?_
 refine cast ?_ hn
 kernel_rfl
end Go.Proofs.YtbbnpmikjdgdpaaGreat

/-
 bytes.Clone.
-/
set_option linter.unusedSimpArgs false
set_option linter.unusedVariables false
set_option maxRecDepth 20000
namespace Go.Proofs.YtbbnpmikjdgdpaaGreat
open Go Go.Hw
theorem c_bclone {s : Sl} {l : List UInt8} {h : Hp} {K : Sl → Hp → Prop} (hr : RdB h s l) (hl : l.length ≤ 140737488355328) (hK : ∀ s' h', NewO h h' 5 1 s' (bc l) → K s' h') : C57 s h K := by
 apply S57; unfold N57
 cases hp : s.p with
 | none =>
  have : l = [] := by
   cases l with
   | nil => rfl
   | cons x l => obtain ⟨a, ha, _⟩ := hr.get (i := 0) (by simp); rw [hp] at ha; cases ha
  subst this
  exact hK _ _ NewO.nil
 | some a =>
  simp only [Option.isNone_some, cond_false]
  intro b0 e0
  have hs0 : Sat ([] ++ [Hw.was h]) h := Sat.start
  have hs1 : Sat ([] ++ [Hw.was h, Hw.own 5 1 ⟨some (bk b0), 0, 0⟩ []]) (upd h b0 (.cells ⟨[]⟩ 5 (0, 0))) := hs0.addOwn (Ext.new e0) ⟨rfl, Nat.le_refl _, rfl, [], upd_same, rfl, rfl⟩ (fun b hb => by
   simp only [Option.some.injEq] at hb
   have : b0 = b := congrArg Addr.block hb
   subst this; exact e0)
  have hr1 := hr.ext (Ext.new (o := .cells ⟨[]⟩ 5 (0, 0)) e0)
  have hn := hr.n
  refine hs1.ap 1 rfl (n := s.n) (ns := bc l) (by kernel_rfl) (by kernel_rfl) (fun _ => rfl) ?_ (by rw [bc_len]; omega) bc_plain (by
   rw [show Tryz.prog.bytesOf 5 = 1 by kernel_rfl]; show (0 + s.n) * 2 * 1 ≤ _; omega) ?_
  ·intro G hG
   rw [← hp]
   refine hr1.srcK (n := s.n) (by omega) ?_
   rw [hn, List.take_length]; exact hG
  ·intro s' h' hs' _
   rw [List.nil_append] at hs'
   have hs' : Sat ([] ++ [Hw.was h, Hw.own 5 1 s' (bc l)]) h' := hs'
   exact hK s' h' (hs'.newO 0 1 rfl rfl (by decide))
end Go.Proofs.YtbbnpmikjdgdpaaGreat

set_option linter.unusedVariables false
set_option maxRecDepth 100000
namespace Go.Proofs.YtbbnpmikjdgdpaaGreat
open Go Go.Hw
noncomputable def B82 : Code := match Tryz.f82.body with | some c => c | none => .skip
def N82  (h : Hp) (K : Int → Int → Int → Int → Int → Int → Hp → Prop) : Prop :=
 nw h (.cells ⟨[.int .u8 0, .int .u8 0, .int .u8 0, .int .u8 0, .int .u8 0, .int .u8 0]⟩ 45) fun b0 h0 =>
 st h0 (bk b0) (.int .u8 0) fun h1 =>
 st h1 ((bk b0).add 1) (.int .u8 1) fun h2 =>
 st h2 ((bk b0).add 2) (.int .u8 8) fun h3 =>
 st h3 ((bk b0).add 3) (.int .u8 0) fun h4 =>
 st h4 ((bk b0).add 4) (.int .u8 6) fun h5 =>
 st h5 ((bk b0).add 5) (.int .u8 4) fun h6 =>
 xI .u8 (cell h6 (bk b0)) fun n0 =>
 xI .u8 (cell h6 ((bk b0).add 1)) fun n1 =>
 xI .u8 (cell h6 ((bk b0).add 2)) fun n2 =>
 xI .u8 (cell h6 ((bk b0).add 3)) fun n3 =>
 xI .u8 (cell h6 ((bk b0).add 4)) fun n4 =>
 xI .u8 (cell h6 ((bk b0).add 5)) fun n5 =>
 K n0 n1 n2 n3 n4 n5 h6
theorem S82 {h : Hp} {K : Int → Int → Int → Int → Int → Int → Hp → Prop} (hn : N82 h K) : C82 h K := by
 refine calls_of_M Tryz.func82 (c := B82) rfl (by kernel_rfl) ?_
 refine den_sound hE hm _ .leaf _ _ _ (annOk_leaf) ?_
 refine cast ?_ hn
 kernel_rfl
end Go.Proofs.YtbbnpmikjdgdpaaGreat

set_option linter.unusedVariables false
set_option maxRecDepth 100000
namespace Go.Proofs.YtbbnpmikjdgdpaaGreat
open Go Go.Hw
noncomputable def B76 : Code := match Tryz.f76.body with | some c => c | none => .skip
def N76_j0 (x1 : Option Addr) (h : Hp) (Kr : Sl → Int → Hp → Prop) : Prop :=
 mkK Tryz.prog 5 28 28 h fun s0 h0 =>
 C82 h0 fun n0 n1 n2 n3 n4 n5 h1 =>
 nw h1 (.cells ⟨[.int .u8 0, .int .u8 0, .int .u8 0, .int .u8 0, .int .u8 0, .int .u8 0]⟩ 45) fun b0 h2 =>
 st h2 (bk b0) (.int .u8 n0) fun h3 =>
 st h3 ((bk b0).add 1) (.int .u8 n1) fun h4 =>
 st h4 ((bk b0).add 2) (.int .u8 n2) fun h5 =>
 st h5 ((bk b0).add 3) (.int .u8 n3) fun h6 =>
 st h6 ((bk b0).add 4) (.int .u8 n4) fun h7 =>
 st h7 ((bk b0).add 5) (.int .u8 n5) fun h8 =>
 cpK Tryz.prog 5 s0 (.slice (sadr (some (bk b0)) 6 0 1) 6 6) h8 fun n6 h9 =>
 nn x1 fun a0 =>
 xI .i64 (cell h9 a0) fun n7 =>
 idx 7 s0.n <|
 nn s0.p fun a1 =>
 st h9 (a1.add ((7 : Int).toNat * 1)) (.int .u8 (IntKind.wrap .u8 n7)) fun h10 =>
 bd 8 s0.n fun k0 =>
 nn x1 fun a2 =>
 cpK Tryz.prog 5 ⟨sadr s0.p s0.c k0 1, s0.n - k0, s0.c - k0⟩ (.slice (sadr (some (a2.add 1)) 6 0 1) 6 6) h10 fun n8 h11 =>
 bd 14 s0.n fun k1 =>
 nn x1 fun a3 =>
 xI .u32 (cell h11 (a3.add 7)) fun n9 =>
 C31 (IntKind.wrap .u64 n9) 4 h11 fun s1 h12 =>
 cpK Tryz.prog 5 ⟨sadr s0.p s0.c k1 1, s0.n - k1, s0.c - k1⟩ (.slice s1.p s1.n s1.c) h12 fun n10 h13 =>
 bd 18 s0.n fun k2 =>
 nn x1 fun a4 =>
 cpK Tryz.prog 5 ⟨sadr s0.p s0.c k2 1, s0.n - k2, s0.c - k2⟩ (.slice (sadr (some (a4.add 8)) 6 0 1) 6 6) h13 fun n11 h14 =>
 bd 24 s0.n fun k3 =>
 nn x1 fun a5 =>
 xI .u32 (cell h14 (a5.add 14)) fun n12 =>
 C31 (IntKind.wrap .u64 n12) 4 h14 fun s2 h15 =>
 cpK Tryz.prog 5 ⟨sadr s0.p s0.c k3 1, s0.n - k3, s0.c - k3⟩ (.slice s2.p s2.n s2.c) h15 fun n13 h16 =>
 Kr s0 0 h16
noncomputable def N76_j0_t : Xf := pieceT [(1, .c (.ptr))] (codeAt B76 [1, 1]) fun x h Q => N76_j0 x h (fun o0 o1 h' => Q .ret (Sg.env [(2, .c (.slice)), (3, .c (.int .i64))] (o0, o1)) h')
theorem N76_j0_ok : Sound Tryz.prog Tryz.f76.ntmps N76_j0_t (codeAt B76 [1, 1]) := by
 refine piece_sound (fun e => match e with | .ret => [2, 3] | _ => []) ?_
 intro x h Q hb
 refine den_sound hE hm _ (.two .leaf (.two .leaf (.two .leaf (.two .leaf (.two (.ord [0, 1, 2, 3, 4]) (.two (.ord [0, 1, 2, 3, 4, 5, 6]) (.two (.ord [0, 1, 2, 3, 4]) (.two (.ord [0, 1, 2, 3, 4, 5, 6]) .leaf)))))))) _ _ _ (⟨annOk_leaf, ⟨annOk_leaf, ⟨annOk_leaf, ⟨annOk_leaf, ⟨trivial, ⟨trivial, ⟨trivial, ⟨trivial, annOk_leaf⟩⟩⟩⟩⟩⟩⟩⟩) ?_
 refine cast ?_ hb
 kernel_rfl
def N76 (x0_0 x0_1 x0_2 x0_3 x0_4 x0_5 x0_6 x0_7 x0_8 x0_9 x0_10 x0_11 x0_12 x0_13 x0_14 : Int) (h : Hp) (K : Sl → Int → Hp → Prop) : Prop :=
 nw h (.cells ⟨[.int .i64 x0_0, .int .u8 x0_1, .int .u8 x0_2, .int .u8 x0_3, .int .u8 x0_4, .int .u8 x0_5, .int .u8 x0_6, .int .u32 x0_7, .int .u8 x0_8, .int .u8 x0_9, .int .u8 x0_10, .int .u8 x0_11, .int .u8 x0_12, .int .u8 x0_13, .int .u32 x0_14]⟩ 160) fun b0 h0 =>
 xI .i64 (cell h0 (bk b0)) fun n0 =>
 bif (n0 != 1) then
 xI .i64 (cell h0 (bk b0)) fun n1 =>
 bif (n1 != 2) then
 K ⟨none, 0, 0⟩ 80 h0
 else
 N76_j0 (some (bk b0)) h0
 (fun s0 n2 h1 =>
 K s0 n2 h1)
 else
 N76_j0 (some (bk b0)) h0
 (fun s1 n3 h2 =>
 K s1 n3 h2)
theorem S76 {x0_0 x0_1 x0_2 x0_3 x0_4 x0_5 x0_6 x0_7 x0_8 x0_9 x0_10 x0_11 x0_12 x0_13 x0_14 : Int} {h : Hp} {K : Sl → Int → Hp → Prop} (hn : N76 x0_0 x0_1 x0_2 x0_3 x0_4 x0_5 x0_6 x0_7 x0_8 x0_9 x0_10 x0_11 x0_12 x0_13 x0_14 h K) : C76 x0_0 x0_1 x0_2 x0_3 x0_4 x0_5 x0_6 x0_7 x0_8 x0_9 x0_10 x0_11 x0_12 x0_13 x0_14 h K := by
 refine calls_of_D Tryz.func76 (c := B76) rfl (by kernel_rfl) ?_
 refine den_sound hE hm _ (.two .leaf (.two .leaf (.xf N76_j0_t))) _ _ _ (⟨annOk_leaf, ⟨annOk_leaf, N76_j0_ok⟩⟩) ?_
 refine cast ?_ hn
 kernel_rfl
end Go.Proofs.YtbbnpmikjdgdpaaGreat

set_option linter.unusedVariables false
set_option maxRecDepth 100000
namespace Go.Proofs.YtbbnpmikjdgdpaaGreat
open Go Go.Hw
noncomputable def B77 : Code := match Tryz.f77.body with | some c => c | none => .skip
def N77 (x0_0 x0_1 x0_2 x0_3 x0_4 x0_5 x1 x2 : Int) (h : Hp) (K : Int → Int → Int → Int → Int → Int → Int → Int → Int → Int → Int → Int → Int → Int → Int → Hp → Prop) : Prop :=
 nw h (.cells ⟨[.int .u8 x0_0, .int .u8 x0_1, .int .u8 x0_2, .int .u8 x0_3, .int .u8 x0_4, .int .u8 x0_5]⟩ 46) fun b0 h0 =>
 nw h0 (.cells ⟨[.int .i64 0, .int .u8 0, .int .u8 0, .int .u8 0, .int .u8 0, .int .u8 0, .int .u8 0, .int .u32 0, .int .u8 0, .int .u8 0, .int .u8 0, .int .u8 0, .int .u8 0, .int .u8 0, .int .u32 0]⟩ 160) fun b1 h1 =>
 xI .u8 (cell h1 (bk b0)) fun n0 =>
 xI .u8 (cell h1 ((bk b0).add 1)) fun n1 =>
 xI .u8 (cell h1 ((bk b0).add 2)) fun n2 =>
 xI .u8 (cell h1 ((bk b0).add 3)) fun n3 =>
 xI .u8 (cell h1 ((bk b0).add 4)) fun n4 =>
 xI .u8 (cell h1 ((bk b0).add 5)) fun n5 =>
 st h1 (bk b1) (.int .i64 1) fun h2 =>
 st h2 ((bk b1).add 1) (.int .u8 n0) fun h3 =>
 st h3 ((bk b1).add 2) (.int .u8 n1) fun h4 =>
 st h4 ((bk b1).add 3) (.int .u8 n2) fun h5 =>
 st h5 ((bk b1).add 4) (.int .u8 n3) fun h6 =>
 st h6 ((bk b1).add 5) (.int .u8 n4) fun h7 =>
 st h7 ((bk b1).add 6) (.int .u8 n5) fun h8 =>
 st h8 ((bk b1).add 7) (.int .u32 x1) fun h9 =>
 st h9 ((bk b1).add 8) (.int .u8 0) fun h10 =>
 st h10 ((bk b1).add 9) (.int .u8 0) fun h11 =>
 st h11 ((bk b1).add 10) (.int .u8 0) fun h12 =>
 st h12 ((bk b1).add 11) (.int .u8 0) fun h13 =>
 st h13 ((bk b1).add 12) (.int .u8 0) fun h14 =>
 st h14 ((bk b1).add 13) (.int .u8 0) fun h15 =>
 st h15 ((bk b1).add 14) (.int .u32 x2) fun h16 =>
 xI .i64 (cell h16 (bk b1)) fun n6 =>
 xI .u8 (cell h16 ((bk b1).add 1)) fun n7 =>
 xI .u8 (cell h16 ((bk b1).add 2)) fun n8 =>
 xI .u8 (cell h16 ((bk b1).add 3)) fun n9 =>
 xI .u8 (cell h16 ((bk b1).add 4)) fun n10 =>
 xI .u8 (cell h16 ((bk b1).add 5)) fun n11 =>
 xI .u8 (cell h16 ((bk b1).add 6)) fun n12 =>
 xI .u32 (cell h16 ((bk b1).add 7)) fun n13 =>
 xI .u8 (cell h16 ((bk b1).add 8)) fun n14 =>
 xI .u8 (cell h16 ((bk b1).add 9)) fun n15 =>
 xI .u8 (cell h16 ((bk b1).add 10)) fun n16 =>
 xI .u8 (cell h16 ((bk b1).add 11)) fun n17 =>
 xI .u8 (cell h16 ((bk b1).add 12)) fun n18 =>
 xI .u8 (cell h16 ((bk b1).add 13)) fun n19 =>
 xI .u32 (cell h16 ((bk b1).add 14)) fun n20 =>
 K n6 n7 n8 n9 n10 n11 n12 n13 n14 n15 n16 n17 n18 n19 n20 h16
theorem S77 {x0_0 x0_1 x0_2 x0_3 x0_4 x0_5 x1 x2 : Int} {h : Hp} {K : Int → Int → Int → Int → Int → Int → Int → Int → Int → Int → Int → Int → Int → Int → Int → Hp → Prop} (hn : N77 x0_0 x0_1 x0_2 x0_3 x0_4 x0_5 x1 x2 h K) : C77 x0_0 x0_1 x0_2 x0_3 x0_4 x0_5 x1 x2 h K := by
 refine calls_of_M Tryz.func77 (c := B77) rfl (by kernel_rfl) ?_
 refine den_sound hE hm _ .leaf _ _ _ (annOk_leaf) ?_
 refine cast ?_ hn
 kernel_rfl
end Go.Proofs.YtbbnpmikjdgdpaaGreat

set_option linter.unusedVariables false
set_option maxRecDepth 100000
namespace Go.Proofs.YtbbnpmikjdgdpaaGreat
open Go Go.Hw
noncomputable def B143 : Code := match Tryz.f143.body with | some c => c | none => .skip
def N143 (x0_0 x0_1 x0_2 x0_3 x0_4 x0_5 x1_0 x1_1 x1_2 x1_3 x1_4 x1_5 x1_6 x1_7 x1_8 x1_9 x1_10 x1_11 x1_12 x1_13 x1_14 : Int) (h : Hp) (K : Int → Int → Int → Int → Int → Int → Int → Int → Int → Int → Int → Int → Int → Int → Int → Hp → Prop) : Prop :=
 nw h (.cells ⟨[.int .u8 x0_0, .int .u8 x0_1, .int .u8 x0_2, .int .u8 x0_3, .int .u8 x0_4, .int .u8 x0_5]⟩ 46) fun b0 h0 =>
 nw h0 (.cells ⟨[.int .i64 x1_0, .int .u8 x1_1, .int .u8 x1_2, .int .u8 x1_3, .int .u8 x1_4, .int .u8 x1_5, .int .u8 x1_6, .int .u32 x1_7, .int .u8 x1_8, .int .u8 x1_9, .int .u8 x1_10, .int .u8 x1_11, .int .u8 x1_12, .int .u8 x1_13, .int .u32 x1_14]⟩ 160) fun b1 h1 =>
 nw h1 (.cells ⟨[.int .i64 0, .int .u8 0, .int .u8 0, .int .u8 0, .int .u8 0, .int .u8 0, .int .u8 0, .int .u32 0, .int .u8 0, .int .u8 0, .int .u8 0, .int .u8 0, .int .u8 0, .int .u8 0, .int .u32 0]⟩ 160) fun b2 h2 =>
 xI .u8 (cell h2 (bk b0)) fun n0 =>
 xI .u8 (cell h2 ((bk b0).add 1)) fun n1 =>
 xI .u8 (cell h2 ((bk b0).add 2)) fun n2 =>
 xI .u8 (cell h2 ((bk b0).add 3)) fun n3 =>
 xI .u8 (cell h2 ((bk b0).add 4)) fun n4 =>
 xI .u8 (cell h2 ((bk b0).add 5)) fun n5 =>
 xI .u32 (cell h2 ((bk b1).add 14)) fun n6 =>
 xI .u8 (cell h2 ((bk b1).add 1)) fun n7 =>
 xI .u8 (cell h2 ((bk b1).add 2)) fun n8 =>
 xI .u8 (cell h2 ((bk b1).add 3)) fun n9 =>
 xI .u8 (cell h2 ((bk b1).add 4)) fun n10 =>
 xI .u8 (cell h2 ((bk b1).add 5)) fun n11 =>
 xI .u8 (cell h2 ((bk b1).add 6)) fun n12 =>
 xI .u32 (cell h2 ((bk b1).add 7)) fun n13 =>
 st h2 (bk b2) (.int .i64 2) fun h3 =>
 st h3 ((bk b2).add 1) (.int .u8 n0) fun h4 =>
 st h4 ((bk b2).add 2) (.int .u8 n1) fun h5 =>
 st h5 ((bk b2).add 3) (.int .u8 n2) fun h6 =>
 st h6 ((bk b2).add 4) (.int .u8 n3) fun h7 =>
 st h7 ((bk b2).add 5) (.int .u8 n4) fun h8 =>
 st h8 ((bk b2).add 6) (.int .u8 n5) fun h9 =>
 st h9 ((bk b2).add 7) (.int .u32 n6) fun h10 =>
 st h10 ((bk b2).add 8) (.int .u8 n7) fun h11 =>
 st h11 ((bk b2).add 9) (.int .u8 n8) fun h12 =>
 st h12 ((bk b2).add 10) (.int .u8 n9) fun h13 =>
 st h13 ((bk b2).add 11) (.int .u8 n10) fun h14 =>
 st h14 ((bk b2).add 12) (.int .u8 n11) fun h15 =>
 st h15 ((bk b2).add 13) (.int .u8 n12) fun h16 =>
 st h16 ((bk b2).add 14) (.int .u32 n13) fun h17 =>
 xI .i64 (cell h17 (bk b2)) fun n14 =>
 xI .u8 (cell h17 ((bk b2).add 1)) fun n15 =>
 xI .u8 (cell h17 ((bk b2).add 2)) fun n16 =>
 xI .u8 (cell h17 ((bk b2).add 3)) fun n17 =>
 xI .u8 (cell h17 ((bk b2).add 4)) fun n18 =>
 xI .u8 (cell h17 ((bk b2).add 5)) fun n19 =>
 xI .u8 (cell h17 ((bk b2).add 6)) fun n20 =>
 xI .u32 (cell h17 ((bk b2).add 7)) fun n21 =>
 xI .u8 (cell h17 ((bk b2).add 8)) fun n22 =>
 xI .u8 (cell h17 ((bk b2).add 9)) fun n23 =>
 xI .u8 (cell h17 ((bk b2).add 10)) fun n24 =>
 xI .u8 (cell h17 ((bk b2).add 11)) fun n25 =>
 xI .u8 (cell h17 ((bk b2).add 12)) fun n26 =>
 xI .u8 (cell h17 ((bk b2).add 13)) fun n27 =>
 xI .u32 (cell h17 ((bk b2).add 14)) fun n28 =>
 K n14 n15 n16 n17 n18 n19 n20 n21 n22 n23 n24 n25 n26 n27 n28 h17
theorem S143 {x0_0 x0_1 x0_2 x0_3 x0_4 x0_5 x1_0 x1_1 x1_2 x1_3 x1_4 x1_5 x1_6 x1_7 x1_8 x1_9 x1_10 x1_11 x1_12 x1_13 x1_14 : Int} {h : Hp} {K : Int → Int → Int → Int → Int → Int → Int → Int → Int → Int → Int → Int → Int → Int → Int → Hp → Prop} (hn : N143 x0_0 x0_1 x0_2 x0_3 x0_4 x0_5 x1_0 x1_1 x1_2 x1_3 x1_4 x1_5 x1_6 x1_7 x1_8 x1_9 x1_10 x1_11 x1_12 x1_13 x1_14 h K) : C143 x0_0 x0_1 x0_2 x0_3 x0_4 x0_5 x1_0 x1_1 x1_2 x1_3 x1_4 x1_5 x1_6 x1_7 x1_8 x1_9 x1_10 x1_11 x1_12 x1_13 x1_14 h K := by
 refine calls_of_M Tryz.func143 (c := B143) rfl (by kernel_rfl) ?_
 refine den_sound hE hm _ .leaf _ _ _ (annOk_leaf) ?_
 refine cast ?_ hn
 kernel_rfl
end Go.Proofs.YtbbnpmikjdgdpaaGreat

/-
 Stations, messages of the address protocol as bytes: the program's and the document's.
-/
-- (no ref08.head)
-- (no ref08.mac)
-- (no ref08.add)
-- (no ref08.Encode)
-- (no ref08.Ask)
-- (no ref08.Tell)
-- (no ref01.Everyone)
set_option linter.unusedSimpArgs false
set_option linter.unusedVariables false
set_option maxRecDepth 4000
namespace Go.Proofs.YtbbnpmikjdgdpaaGreat
open Go Go.Hw
structure M6 where
 a : Int
 b : Int
 c : Int
 d : Int
 e : Int
 f : Int
deriving DecidableEq
def M6.ok (m : M6) : Prop := (0 ≤ m.a ∧ m.a < 256) ∧ (0 ≤ m.b ∧ m.b < 256) ∧ (0 ≤ m.c ∧ m.c < 256) ∧ (0 ≤ m.d ∧ m.d < 256) ∧ (0 ≤ m.e ∧ m.e < 256) ∧ (0 ≤ m.f ∧ m.f < 256)
def mb (m : M6) : List UInt8 := [UInt8.ofNat m.a.toNat, UInt8.ofNat m.b.toNat, UInt8.ofNat m.c.toNat, UInt8.ofNat m.d.toNat, UInt8.ofNat m.e.toNat, UInt8.ofNat m.f.toNat]
theorem mb_bc {m : M6} (h : m.ok) : bc (mb m) = [.int .u8 m.a, .int .u8 m.b, .int .u8 m.c, .int .u8 m.d, .int .u8 m.e, .int .u8 m.f] := by
 obtain ⟨h1, h2, h3, h4, h5, h6⟩ := h
 simp only [bc, mb, List.map_cons, List.map_nil]
 rw [putd_u8 h1.1 h1.2, putd_u8 h2.1 h2.2, putd_u8 h3.1 h3.2, putd_u8 h4.1 h4.2, putd_u8 h5.1 h5.2, putd_u8 h6.1 h6.2]
def arpH : List UInt8 := [0, 1, 8, 0, 6, 4]
def arpL (op : Int) (s : M6) (si : Int) (d : M6) (di : Int) : List UInt8 := arpH ++ [0, UInt8.ofNat op.toNat] ++ mb s ++ be si.toNat 4 ++ mb d ++ be di.toNat 4
theorem arpL_len {op si di : Int} {s d : M6} : (arpL op s si d di).length = 28 := by simp [arpL, arpH, mb, be_len]
def oneEighty : M6 := ⟨255, 255, 255, 255, 255, 255⟩
theorem c_ahead {h : Hp} {K : Int → Int → Int → Int → Int → Int → Hp → Prop} (hK : ∀ h', Ext none' h h' → K 0 1 8 0 6 4 h') : C82 h K := by
 apply S82; unfold N82
 obtain ⟨L, hs, hL⟩ := Sat.base h
 repeat (first | (refine Sat.nw hs ?_; intro _ _ hs _; simp only [List.cons_append, List.nil_append] at hs) | (refine Sat.st hs 0 rfl (by simp) rfl ?_; intro _ hs; simp only [List.set_cons_zero, List.set_cons_succ] at hs) | (refine Sat.lI hs 0 rfl rfl ?_) | (refine Sat.lL hs 0 rfl rfl ?_) | (refine Sat.lP hs 0 rfl rfl ?_) | (refine Sat.lB hs 0 rfl rfl ?_) | (refine Sat.lS hs 0 rfl rfl ?_) | (refine Sat.lM hs 0 rfl rfl ?_) | (refine Sat.lA hs 0 rfl rfl ?_) | (simp only [nn_some', add_bk]))
 exact hK _ (hL hs)
theorem c_every {h : Hp} {K : Int → Int → Int → Int → Int → Int → Hp → Prop} (hK : ∀ h', Ext none' h h' → K 255 255 255 255 255 255 h') : C54 h K := by
 apply S54; unfold N54
 obtain ⟨L, hs, hL⟩ := Sat.base h
 repeat (first | (refine Sat.nw hs ?_; intro _ _ hs _; simp only [List.cons_append, List.nil_append] at hs) | (refine Sat.st hs 0 rfl (by simp) rfl ?_; intro _ hs; simp only [List.set_cons_zero, List.set_cons_succ] at hs) | (refine Sat.lI hs 0 rfl rfl ?_) | (refine Sat.lL hs 0 rfl rfl ?_) | (refine Sat.lP hs 0 rfl rfl ?_) | (refine Sat.lB hs 0 rfl rfl ?_) | (refine Sat.lS hs 0 rfl rfl ?_) | (refine Sat.lM hs 0 rfl rfl ?_) | (refine Sat.lA hs 0 rfl rfl ?_) | (simp only [nn_some', add_bk]))
 exact hK _ (hL hs)
theorem c_aask {m : M6} {s d : Int} {h : Hp} {K : Int → Int → Int → Int → Int → Int → Int → Int → Int → Int → Int → Int → Int → Int → Int → Hp → Prop} (hK : ∀ h', Ext none' h h' → K 1 m.a m.b m.c m.d m.e m.f s 0 0 0 0 0 0 d h') : C77 m.a m.b m.c m.d m.e m.f s d h K := by
 apply S77; unfold N77
 obtain ⟨L, hs, hL⟩ := Sat.base h
 repeat (first | (refine Sat.nw hs ?_; intro _ _ hs _; simp only [List.cons_append, List.nil_append] at hs) | (refine Sat.st hs 0 rfl (by simp) rfl ?_; intro _ hs; simp only [List.set_cons_zero, List.set_cons_succ] at hs) | (refine Sat.st hs 1 rfl (by simp) rfl ?_; intro _ hs; simp only [List.set_cons_zero, List.set_cons_succ] at hs) | (refine Sat.lI hs 0 rfl rfl ?_) | (refine Sat.lI hs 1 rfl rfl ?_) | (refine Sat.lL hs 0 rfl rfl ?_) | (refine Sat.lL hs 1 rfl rfl ?_) | (refine Sat.lP hs 0 rfl rfl ?_) | (refine Sat.lP hs 1 rfl rfl ?_) | (refine Sat.lB hs 0 rfl rfl ?_) | (refine Sat.lB hs 1 rfl rfl ?_) | (refine Sat.lS hs 0 rfl rfl ?_) | (refine Sat.lS hs 1 rfl rfl ?_) | (refine Sat.lM hs 0 rfl rfl ?_) | (refine Sat.lM hs 1 rfl rfl ?_) | (refine Sat.lA hs 0 rfl rfl ?_) | (refine Sat.lA hs 1 rfl rfl ?_) | (simp only [nn_some', add_bk]))
 exact hK _ (hL hs)
theorem c_atell {m sm dm : M6} {op si di : Int} {h : Hp} {K : Int → Int → Int → Int → Int → Int → Int → Int → Int → Int → Int → Int → Int → Int → Int → Hp → Prop}
  (hK : ∀ h', Ext none' h h' → K 2 m.a m.b m.c m.d m.e m.f di sm.a sm.b sm.c sm.d sm.e sm.f si h') : C143 m.a m.b m.c m.d m.e m.f op sm.a sm.b sm.c sm.d sm.e sm.f si dm.a dm.b dm.c dm.d dm.e dm.f di h K := by
 apply S143; unfold N143
 obtain ⟨L, hs, hL⟩ := Sat.base h
 repeat (first | (refine Sat.nw hs ?_; intro _ _ hs _; simp only [List.cons_append, List.nil_append] at hs) | (refine Sat.st hs 0 rfl (by simp) rfl ?_; intro _ hs; simp only [List.set_cons_zero, List.set_cons_succ] at hs) | (refine Sat.st hs 1 rfl (by simp) rfl ?_; intro _ hs; simp only [List.set_cons_zero, List.set_cons_succ] at hs) | (refine Sat.st hs 2 rfl (by simp) rfl ?_; intro _ hs; simp only [List.set_cons_zero, List.set_cons_succ] at hs) | (refine Sat.lI hs 0 rfl rfl ?_) | (refine Sat.lI hs 1 rfl rfl ?_) | (refine Sat.lI hs 2 rfl rfl ?_) | (refine Sat.lL hs 0 rfl rfl ?_) | (refine Sat.lL hs 1 rfl rfl ?_) | (refine Sat.lL hs 2 rfl rfl ?_) | (refine Sat.lP hs 0 rfl rfl ?_) | (refine Sat.lP hs 1 rfl rfl ?_) | (refine Sat.lP hs 2 rfl rfl ?_) | (refine Sat.lB hs 0 rfl rfl ?_) | (refine Sat.lB hs 1 rfl rfl ?_) | (refine Sat.lB hs 2 rfl rfl ?_) | (refine Sat.lS hs 0 rfl rfl ?_) | (refine Sat.lS hs 1 rfl rfl ?_) | (refine Sat.lS hs 2 rfl rfl ?_) | (refine Sat.lM hs 0 rfl rfl ?_) | (refine Sat.lM hs 1 rfl rfl ?_) | (refine Sat.lM hs 2 rfl rfl ?_) | (refine Sat.lA hs 0 rfl rfl ?_) | (refine Sat.lA hs 1 rfl rfl ?_) | (refine Sat.lA hs 2 rfl rfl ?_) | (simp only [nn_some', add_bk]))
 exact hK _ (hL hs)
theorem mac_src {L M : List Asn} {h : Hp} (hs : Sat (L ++ M) h) (j : Nat) {b : Nat} {T : TypeId} {cs : List Value} {k : Nat} (hj : M[j]? = some (row b T cs)) {ns : List Value} (hk : (cs.drop k).take 6 = ns) (hn : 6 ≤ (cs.drop k).length) {G : List Value → Prop} (hG : G ns) :
  srcK h 1 6 (.slice (some ⟨b, k, none⟩) 6 6) G := ((hs.blk j hj).rdcAt k).srcK hn (by rw [hk]; exact hG)
theorem c_aenc {op si di : Int} {s d : M6} {h : Hp} {K : Sl → Int → Hp → Prop} (ho : op = 1 ∨ op = 2) (hm1 : s.ok) (hm2 : d.ok) (hsi : 0 ≤ si ∧ si < 4294967296) (hdi : 0 ≤ di ∧ di < 4294967296)
  (hK : ∀ h' x, NewO h h' 5 1 x (bc (arpL op s si d di)) → K x 0 h') : C76 op s.a s.b s.c s.d s.e s.f si d.a d.b d.c d.d d.e d.f di h K := by
 apply S76; unfold N76
 have hs0 : Sat ([] ++ [Hw.was h]) h := Sat.start
 refine hs0.nw ?_
 intro b0 h0 hs0 _
 have hs0 : Sat ([] ++ [Hw.was h, row b0 160 [.int .i64 op, .int .u8 s.a, .int .u8 s.b, .int .u8 s.c, .int .u8 s.d, .int .u8 s.e, .int .u8 s.f, .int .u32 si, .int .u8 d.a, .int .u8 d.b, .int .u8 d.c, .int .u8 d.d, .int .u8 d.e, .int .u8 d.f, .int .u32 di]]) h0 := hs0
 have go : N76_j0 (some (bk b0)) h0 K := by
  unfold N76_j0
  generalize e28 : (28 : Int) = n28
  refine hs0.mk (sz := 1) y_zl (by omega) (by omega) (by rw [y_b]; omega) (by omega) ?_
  intro x h1 xn xc hs1
  have en : n28.toNat = 28 := by omega
  rw [en] at xn xc hs1
  rw [y_zeros] at hs1
  refine c_ahead fun h2 he2 => ?_
  have hs2 := hs1.ext he2
  refine hs2.nw ?_
  intro b1 h3 hs3 _
  have hs3 : Sat ([] ++ [Hw.was h, row b0 160 [.int .i64 op, .int .u8 s.a, .int .u8 s.b, .int .u8 s.c, .int .u8 s.d, .int .u8 s.e, .int .u8 s.f, .int .u32 si, .int .u8 d.a, .int .u8 d.b, .int .u8 d.c, .int .u8 d.d, .int .u8 d.e, .int .u8 d.f, .int .u32 di], Hw.own 5 1 x (bc (List.replicate 28 0)), row b1 45 [.int .u8 0, .int .u8 0, .int .u8 0, .int .u8 0, .int .u8 0, .int .u8 0]]) h3 := hs3
  simp only [nn_some', add_bk]
  refine hs3.st 3 rfl (by simp) rfl ?_
  intro h4 hs4
  refine Sat.st hs4 3 rfl (by simp) rfl ?_
  intro h5 hs5
  refine Sat.st hs5 3 rfl (by simp) rfl ?_
  intro h6 hs6
  refine Sat.st hs6 3 rfl (by simp) rfl ?_
  intro h7 hs7
  refine Sat.st hs7 3 rfl (by simp) rfl ?_
  intro h8 hs8
  refine Sat.st hs8 3 rfl (by simp) rfl ?_
  intro h9 hs9
  have hs9 : Sat ([] ++ [Hw.was h, row b0 160 [.int .i64 op, .int .u8 s.a, .int .u8 s.b, .int .u8 s.c, .int .u8 s.d, .int .u8 s.e, .int .u8 s.f, .int .u32 si, .int .u8 d.a, .int .u8 d.b, .int .u8 d.c, .int .u8 d.d, .int .u8 d.e, .int .u8 d.f, .int .u32 di], Hw.own 5 1 x (bc (List.replicate 28 0)), row b1 45 [.int .u8 0, .int .u8 1, .int .u8 8, .int .u8 0, .int .u8 6, .int .u8 4]]) h9 := hs9
  refine hs9.cp0 (n := 6) (ns := bc arpH) 2 rfl y_a (fun _ => rfl) (by omega) (fun G hG => by rw [sadr_zero]; exact mac_src hs9 3 rfl rfl (by decide) hG) (by decide) bc_plain ?_
  intro h10 hs10
  have hs10 : Sat ([] ++ [Hw.was h, row b0 160 [.int .i64 op, .int .u8 s.a, .int .u8 s.b, .int .u8 s.c, .int .u8 s.d, .int .u8 s.e, .int .u8 s.f, .int .u32 si, .int .u8 d.a, .int .u8 d.b, .int .u8 d.c, .int .u8 d.d, .int .u8 d.e, .int .u8 d.f, .int .u32 di], Hw.own 5 1 x (bc (arpH ++ List.replicate 22 0)), row b1 45 [.int .u8 0, .int .u8 1, .int .u8 8, .int .u8 0, .int .u8 6, .int .u8 4]]) h10 := hs10
  refine hs10.lI 1 rfl rfl ?_
  refine hs10.stAt 2 (k := 7) rfl rfl (by simp [arpH]) rfl ?_
  intro h11 hs11
  have ew : (Value.int .u8 (IntKind.wrap .u8 op)) = .int .u8 ((UInt8.ofNat op.toNat).toNat : Int) := by
   rcases ho with rfl | rfl <;> rfl
  rw [ew, ← bc_set] at hs11
  have hs11 : Sat ([] ++ [Hw.was h, row b0 160 [.int .i64 op, .int .u8 s.a, .int .u8 s.b, .int .u8 s.c, .int .u8 s.d, .int .u8 s.e, .int .u8 s.f, .int .u32 si, .int .u8 d.a, .int .u8 d.b, .int .u8 d.c, .int .u8 d.d, .int .u8 d.e, .int .u8 d.f, .int .u32 di], Hw.own 5 1 x (bc (arpH ++ [0, UInt8.ofNat op.toNat] ++ List.replicate 20 0)), row b1 45 [.int .u8 0, .int .u8 1, .int .u8 8, .int .u8 0, .int .u8 6, .int .u8 4]]) h11 := hs11
  refine bd_nat (i := 8) (by omega) ?_
  rw [sadr_zero]
  refine hs11.cpAt (n := 6) (k := 8) (ns := bc (mb s)) 2 rfl (by omega) y_a (fun _ => rfl) (by omega) (fun G hG => mac_src hs11 1 (k := 1) rfl (mb_bc hm1).symm (by simp) hG) (by simp [mb]) bc_plain ?_
  intro h12 hs12
  rw [← bc_take, ← bc_drop, ← bc_app, ← bc_app] at hs12
  have hs12 : Sat ([] ++ [Hw.was h, row b0 160 [.int .i64 op, .int .u8 s.a, .int .u8 s.b, .int .u8 s.c, .int .u8 s.d, .int .u8 s.e, .int .u8 s.f, .int .u32 si, .int .u8 d.a, .int .u8 d.b, .int .u8 d.c, .int .u8 d.d, .int .u8 d.e, .int .u8 d.f, .int .u32 di], Hw.own 5 1 x (bc (arpH ++ [0, UInt8.ofNat op.toNat] ++ mb s ++ List.replicate 14 0))]) h12 := hs12.sel [0, 1, 2] (by decide) rfl
  refine bd_nat (i := 14) (by omega) ?_
  refine hs12.lI 1 rfl rfl ?_
  rw [wu64i hsi.1 (by omega)]
  refine c_put (w := 4) hsi.1 (by omega) ?_
  intro h13 y hn13
  have ep : putL si.toNat 4 = be si.toNat 4 := rfl
  rw [ep] at hn13
  have hs13 := hs12.ext hn13.1
  have yn : y.n = 4 := by have := hn13.2.1.1; simp [be_len] at this; omega
  refine hs13.cpAt (n := 4) (k := 14) (ns := bc (be si.toNat 4)) 2 rfl (by omega) y_a (fun G => by show G y.n = G 4; rw [yn]) (by omega) (fun G hG => (hn13.2.1.rdb).srcK (n := 4) (by simp [be_len]) (by rw [List.take_of_length_le (by simp [be_len])]; exact hG)) (by simp [be_len]) bc_plain ?_
  intro h14 hs14
  rw [← bc_take, ← bc_drop, ← bc_app, ← bc_app] at hs14
  have hs14 : Sat ([] ++ [Hw.was h, row b0 160 [.int .i64 op, .int .u8 s.a, .int .u8 s.b, .int .u8 s.c, .int .u8 s.d, .int .u8 s.e, .int .u8 s.f, .int .u32 si, .int .u8 d.a, .int .u8 d.b, .int .u8 d.c, .int .u8 d.d, .int .u8 d.e, .int .u8 d.f, .int .u32 di], Hw.own 5 1 x (bc (arpH ++ [0, UInt8.ofNat op.toNat] ++ mb s ++ be si.toNat 4 ++ List.replicate 10 0))]) h14 := hs14
  refine bd_nat (i := 18) (by omega) ?_
  rw [sadr_zero]
  refine hs14.cpAt (n := 6) (k := 18) (ns := bc (mb d)) 2 rfl (by omega) y_a (fun _ => rfl) (by omega) (fun G hG => mac_src hs14 1 (k := 8) rfl (mb_bc hm2).symm (by simp) hG) (by simp [mb]) bc_plain ?_
  intro h15 hs15
  rw [← bc_take, ← bc_drop, ← bc_app, ← bc_app] at hs15
  have hs15 : Sat ([] ++ [Hw.was h, row b0 160 [.int .i64 op, .int .u8 s.a, .int .u8 s.b, .int .u8 s.c, .int .u8 s.d, .int .u8 s.e, .int .u8 s.f, .int .u32 si, .int .u8 d.a, .int .u8 d.b, .int .u8 d.c, .int .u8 d.d, .int .u8 d.e, .int .u8 d.f, .int .u32 di], Hw.own 5 1 x (bc (arpH ++ [0, UInt8.ofNat op.toNat] ++ mb s ++ be si.toNat 4 ++ mb d ++ List.replicate 4 0))]) h15 := hs15
  refine bd_nat (i := 24) (by omega) ?_
  refine hs15.lI 1 rfl rfl ?_
  rw [wu64i hdi.1 (by omega)]
  refine c_put (w := 4) hdi.1 (by omega) ?_
  intro h16 z hn16
  have ep : putL di.toNat 4 = be di.toNat 4 := rfl
  rw [ep] at hn16
  have hs16 := hs15.ext hn16.1
  have zn : z.n = 4 := by have := hn16.2.1.1; simp [be_len] at this; omega
  refine hs16.cpAt (n := 4) (k := 24) (ns := bc (be di.toNat 4)) 2 rfl (by omega) y_a (fun G => by show G z.n = G 4; rw [zn]) (by omega) (fun G hG => (hn16.2.1.rdb).srcK (n := 4) (by simp [be_len]) (by rw [List.take_of_length_le (by simp [be_len])]; exact hG)) (by simp [be_len]) bc_plain ?_
  intro h17 hs17
  rw [← bc_take, ← bc_drop, ← bc_app, ← bc_app] at hs17
  have hs17 : Sat ([] ++ [Hw.was h, row b0 160 [.int .i64 op, .int .u8 s.a, .int .u8 s.b, .int .u8 s.c, .int .u8 s.d, .int .u8 s.e, .int .u8 s.f, .int .u32 si, .int .u8 d.a, .int .u8 d.b, .int .u8 d.c, .int .u8 d.d, .int .u8 d.e, .int .u8 d.f, .int .u32 di], Hw.own 5 1 x (bc (arpL op s si d di))]) h17 := hs17
  exact hK _ _ (hs17.newO 0 2 rfl rfl (by omega))
 refine hs0.lI 1 (k := 0) rfl rfl ?_
 rcases ho with rfl | rfl
 ·exact go
 ·simp only [show ((2 : Int) != 1) = true from rfl, cond_true]
  refine hs0.lI 1 (k := 0) rfl rfl ?_
  exact go
end Go.Proofs.YtbbnpmikjdgdpaaGreat

/-
 Rows of elements of several cells: one is read, a cell of one is written.
-/
set_option linter.unusedSimpArgs false
set_option linter.unusedVariables false
namespace Go.Hw
open Go
theorem flat_len {α β : Type} {f : α → List β} {w : Nat} (hw : ∀ x, (f x).length = w) : ∀ (l : List α), (l.flatMap f).length = l.length * w
 | [] => by simp
 | x :: l => by rw [List.flatMap_cons, List.length_append, hw, flat_len hw l, List.length_cons, Nat.add_mul]; omega
theorem flat_cut {α β : Type} {f : α → List β} {w : Nat} (hw : ∀ x, (f x).length = w) : ∀ {l : List α} {i : Nat} {x : α}, l[i]? = some x → l.flatMap f = (l.take i).flatMap f ++ f x ++ (l.drop (i + 1)).flatMap f ∧ ((l.take i).flatMap f).length = i * w := by
 intro l i x h
 have hi := lt_of_get h
 rw [List.getElem?_eq_getElem hi] at h
 refine ⟨?_, by rw [flat_len hw, List.length_take]; congr 1; omega⟩
 have e : l = l.take i ++ x :: l.drop (i + 1) := by
  rw [← Option.some.inj h]
  rw [← List.drop_eq_getElem_cons hi, List.take_append_drop]
 conv => lhs; rw [e]
 rw [List.flatMap_append, List.flatMap_cons, List.append_assoc]
theorem flat_get {α β : Type} {f : α → List β} {w : Nat} (hw : ∀ x, (f x).length = w) {l : List α} {i k : Nat} {x : α} {v : β} (h : l[i]? = some x) (hk : (f x)[k]? = some v) : (l.flatMap f)[i * w + k]? = some v := by
 obtain ⟨h1, h2⟩ := flat_cut hw h
 have hkl := lt_of_get hk
 rw [h1, List.getElem?_append_left (by rw [List.length_append]; omega), List.getElem?_append_right (by omega), h2, Nat.add_sub_cancel_left]
 exact hk
theorem flat_set {α β : Type} {f : α → List β} {w : Nat} (hw : ∀ x, (f x).length = w) {l : List α} {i k : Nat} {x x' : α} {v : β} (h : l[i]? = some x) (hk : k < w) (hx : f x' = (f x).set k v) : (l.flatMap f).set (i * w + k) v = (l.set i x').flatMap f := by
 obtain ⟨h1, h2⟩ := flat_cut hw h
 have hi := lt_of_get h
 have h3 : (l.set i x')[i]? = some x' := List.getElem?_set_self hi
 obtain ⟨h4, h5⟩ := flat_cut hw h3
 rw [h4, h1]
 have e1 : (l.set i x').take i = l.take i := by rw [List.take_set_of_le (Nat.le_refl _)]
 have e2 : (l.set i x').drop (i + 1) = l.drop (i + 1) := by rw [List.drop_set_of_lt (by omega)]
 rw [e1, e2, hx]
 rw [List.set_append_left _ _ (by rw [List.length_append, hw]; omega), List.set_append_right _ _ (by omega), h2, Nat.add_sub_cancel_left]
section
variable {α : Type} {L M : List Asn} {h : Hp} {T : TypeId} {w : Nat} {s : Sl} {f : α → List Value} {Q : List α}
theorem Sat.elem (hs : Sat (L ++ M) h) (j : Nat) (hj : M[j]? = some (Hw.own T w s (Q.flatMap f))) (hw : ∀ x, (f x).length = w) (h0 : 0 < w) {i : Nat} {x : α} (hi : Q[i]? = some x) {z : Int} (hz : z = i) {F : Addr → Prop}
  (hF : ∀ r, s.p = some (bk r) → (∀ {k : Nat} {v : Value}, (f x)[k]? = some v → cell h ⟨r, i * w + k, none⟩ = some v) → F (bk r)) : idx z s.n (nn s.p F) := by
 have ho := hs.own j hj
 have hn := ho.1
 rw [flat_len hw] at hn
 have hil := lt_of_get hi
 have hsn : s.n = Q.length := (Nat.eq_of_mul_eq_mul_right h0 hn).symm
 refine idx_of (by omega) (by omega) ?_
 obtain ⟨v, hv⟩ : ∃ v, (f x)[0]? = some v := get_of_lt (by rw [hw]; exact h0)
 obtain ⟨b, hp, _⟩ := ho.get (flat_get hw hi hv)
 rw [hp, nn_some']
 refine hF b hp fun {k v} hk => ?_
 obtain ⟨b', hp', hc⟩ := ho.get (flat_get hw hi hk)
 rw [hp] at hp'
 cases hp'
 exact hc
theorem Sat.elemN (hs : Sat (L ++ M) h) (j : Nat) (hj : M[j]? = some (Hw.own T w s (Q.flatMap f))) (hw : ∀ x, (f x).length = w) (h0 : 0 < w) : s.n = Q.length := by
 have hn := (hs.own j hj).1
 rw [flat_len hw] at hn
 exact (Nat.eq_of_mul_eq_mul_right h0 hn).symm
theorem Sat.stE (hs : Sat (L ++ M) h) (j : Nat) (hj : M[j]? = some (Hw.own T w s (Q.flatMap f))) (hw : ∀ x, (f x).length = w) {i k : Nat} {x x' : α} (hi : Q[i]? = some x) (hk : k < w) {v : Value} (hx : f x' = (f x).set k v) (hp : plain v = true) {r : Nat} (hr : s.p = some (bk r)) {F : Hp → Prop}
  (hF : ∀ h', Sat (L ++ M.set j (Hw.own T w s ((Q.set i x').flatMap f))) h' → F h') : Hw.st h ⟨r, i * w + k, none⟩ v F := by
 have hil := lt_of_get hi
 have hlt : i * w + k < (Q.flatMap f).length := by
  rw [flat_len hw]
  have : (i + 1) * w ≤ Q.length * w := Nat.mul_le_mul_right _ hil
  rw [Nat.add_mul] at this; omega
 have := hs.stO (v := v) (F := F) j hj hlt hp hr (by rw [flat_set hw hi hk hx]; exact hF)
 rw [add_bk] at this
 exact this
end
structure RdE {α : Type} (h : Hp) (s : Sl) (f : α → List Value) (Q : List α) : Prop where
 n : s.n = Q.length
 r : Rdc h s.p (Q.flatMap f)
section
variable {α : Type} {h h' : Hp} {w : Nat} {s : Sl} {f : α → List Value} {Q : List α}
theorem RdE.ext (H : RdE h s f Q) (he : Ext none' h h') : RdE h' s f Q := ⟨H.n, H.r.ext he⟩
end
end Go.Hw

/-
 Bytes laid one behind the other into a new row of zeros.
-/
set_option linter.unusedSimpArgs false
set_option linter.unusedVariables false
namespace Go.Hw
open Go
theorem put_step {A ns : List UInt8} {m : Nat} : (A ++ List.replicate m 0).take A.length ++ ns ++ (A ++ List.replicate m 0).drop (A.length + ns.length) = A ++ ns ++ List.replicate (m - ns.length) 0 := by
 rw [List.take_left, ← List.drop_drop, List.drop_left, List.drop_replicate]
theorem Sat.putB {P : Program} {L M : List Asn} {T : TypeId} {s : Sl} {A ns : List UInt8} {m k : Nat} {y : Value} {h : Hp} {F : Nat → Hp → Prop} (hs : Sat (L ++ M) h) (j : Nat) (hj : M[j]? = some (Hw.own T 1 s (bc (A ++ List.replicate m 0)))) (hk : k = A.length) (hm : ns.length ≤ m)
  (hsz : P.cellsOf T = 1) (hln : ∀ G : Nat → Prop, lnK y G = G ns.length) (hsrc : ∀ G : List Value → Prop, G (bc ns) → srcK h 1 ns.length y G)
  (hF : ∀ h', Sat (L ++ M.set j (Hw.own T 1 s (bc (A ++ ns ++ List.replicate (m - ns.length) 0)))) h' → F ns.length h') : cpK P T ⟨sadr s.p s.c k 1, s.n - k, s.c - k⟩ y h F := by
 have hn : s.n = A.length + m := by have := (hs.own j hj).1; simp at this; omega
 refine hs.cpAt j hj (by omega) hsz hln (by omega) hsrc (by simp) bc_plain fun h' hs' => hF h' ?_
 rw [hk, ← bc_take, ← bc_drop, ← bc_app, ← bc_app, put_step] at hs'
 exact hs'
theorem Sat.putR {P : Program} {L M : List Asn} {T : TypeId} {s y : Sl} {A ns : List UInt8} {m k : Nat} {h : Hp} {F : Nat → Hp → Prop} (hs : Sat (L ++ M) h) (j : Nat) (hj : M[j]? = some (Hw.own T 1 s (bc (A ++ List.replicate m 0)))) (hk : k = A.length) (hm : ns.length ≤ m)
  (hsz : P.cellsOf T = 1) (hr : RdB h y ns)
  (hF : ∀ h', Sat (L ++ M.set j (Hw.own T 1 s (bc (A ++ ns ++ List.replicate (m - ns.length) 0)))) h' → F ns.length h') : cpK P T ⟨sadr s.p s.c k 1, s.n - k, s.c - k⟩ (.slice y.p y.n y.c) h F :=
 hs.putB j hj hk hm hsz (fun G => by show G y.n = G _; rw [hr.n]) (fun G hG => hr.srcK (Nat.le_refl _) (by rw [List.take_length]; exact hG)) hF
theorem Sat.putM {P : Program} {L M : List Asn} {T T2 : TypeId} {s : Sl} {A ns : List UInt8} {cs : List Value} {m k n b o c : Nat} {h : Hp} {F : Nat → Hp → Prop} (hs : Sat (L ++ M) h) (j : Nat) (hj : M[j]? = some (Hw.own T 1 s (bc (A ++ List.replicate m 0)))) (hk : k = A.length) (hm : ns.length ≤ m)
  (hsz : P.cellsOf T = 1) (i : Nat) (hi : M[i]? = some (row b T2 cs)) (hn : ns.length = n) (hc : (cs.drop o).take n = bc ns)
  (hF : ∀ h', Sat (L ++ M.set j (Hw.own T 1 s (bc (A ++ ns ++ List.replicate (m - ns.length) 0)))) h' → F ns.length h') : cpK P T ⟨sadr s.p s.c k 1, s.n - k, s.c - k⟩ (.slice (some ⟨b, o, none⟩) n c) h F := by
 subst hn
 refine hs.putB j hj hk hm hsz (fun G => rfl) (fun G hG => ?_) hF
 have hl : ns.length ≤ (cs.drop o).length := by
  have := congrArg List.length hc
  simp at this
  simp; omega
 exact ((hs.blk i hi).rdcAt o).srcK hl (by rw [hc]; exact hG)
theorem cp_zero {P : Program} {T : TypeId} {s : Sl} {y : Value} {h : Hp} {F : Nat → Hp → Prop} (h0 : cpK P T ⟨sadr s.p s.c 0 1, s.n - 0, s.c - 0⟩ y h F) : cpK P T s y h F := by simpa using h0
theorem Sat.cpRow {P : Program} {L M : List Asn} {T T2 : TypeId} {b o n c ln : Nat} {cs ns : List Value} {y : Value} {h : Hp} {F : Nat → Hp → Prop} (hs : Sat (L ++ M) h) (j : Nat) (hj : M[j]? = some (row b T2 cs)) (hsz : P.cellsOf T = 1)
  (hln : ∀ G : Nat → Prop, lnK y G = G ln) (hsrc : ∀ G : List Value → Prop, G ns → srcK h 1 (Nat.min ln n) y G) (hns : ns.length = Nat.min ln n) (ho : o + ns.length ≤ cs.length) (hpl : ∀ v ∈ ns, plain v = true)
  (hF : ∀ h', Sat (L ++ M.set j (row b T2 (cs.take o ++ ns ++ cs.drop (o + ns.length)))) h' → F (Nat.min ln n) h') : cpK P T ⟨some ⟨b, o, none⟩, n, c⟩ y h F := by
 unfold cpK
 rw [hln, hsz]
 refine hsrc _ ?_
 simp only []
 refine wrL_blk (b := b) (o := o) ns 0 _ cs (hs.blk j hj) (by omega) hpl ?_
 intro h2 hb2 hf2
 refine hF h2 (hs.at j hj fun G hG => ⟨G, ⟨hG.1, ?_⟩, fun x hx => .inl hx, fun x hx _ => hf2 x (fun e => hx ((hG.1 x).2 e))⟩)
 rw [Nat.add_zero, setL_eq ho] at hb2
 exact hb2
theorem flat_put {α β : Type} {f : α → List β} {w : Nat} (hw : ∀ x, (f x).length = w) {l : List α} {i o : Nat} {x x' : α} {ns : List β} (h : l[i]? = some x) (ho : o + ns.length ≤ w) (hx : f x' = (f x).take o ++ ns ++ (f x).drop (o + ns.length)) :
  (l.flatMap f).take (i * w + o) ++ ns ++ (l.flatMap f).drop (i * w + o + ns.length) = (l.set i x').flatMap f := by
 obtain ⟨h1, h2⟩ := flat_cut hw h
 have hi := lt_of_get h
 have h3 : (l.set i x')[i]? = some x' := List.getElem?_set_self hi
 obtain ⟨h4, h5⟩ := flat_cut hw h3
 rw [h4, h1]
 have e1 : (l.set i x').take i = l.take i := by rw [List.take_set_of_le (Nat.le_refl _)]
 have e2 : (l.set i x').drop (i + 1) = l.drop (i + 1) := by rw [List.drop_set_of_lt (by omega)]
 rw [e1, e2, hx]
 generalize (l.take i).flatMap f = A at h2
 generalize (l.drop (i + 1)).flatMap f = B
 have hfl := hw x
 generalize f x = m at hfl
 have t1 : (A ++ m ++ B).take (i * w + o) = A ++ m.take o := by
  rw [List.append_assoc, List.take_append, List.take_of_length_le (by omega), h2, Nat.add_sub_cancel_left, List.take_append_of_le_length (by omega)]
 have t2 : (A ++ m ++ B).drop (i * w + o + ns.length) = m.drop (o + ns.length) ++ B := by
  rw [List.append_assoc, List.drop_append, List.drop_of_length_le (by omega), h2, List.nil_append, show i * w + o + ns.length - i * w = o + ns.length by omega, List.drop_append_of_le_length (by omega)]
 rw [t1, t2]
 simp only [List.append_assoc]
theorem Sat.cpO {P : Program} {L M : List Asn} {T T2 : TypeId} {w q n c ln r : Nat} {s : Sl} {vs ns : List Value} {y : Value} {h : Hp} {F : Nat → Hp → Prop} (hs : Sat (L ++ M) h) (j : Nat) (hj : M[j]? = some (Hw.own T2 w s vs)) (hr : s.p = some (bk r)) (hsz : P.cellsOf T = 1)
  (hln : ∀ G : Nat → Prop, lnK y G = G ln) (hsrc : ∀ G : List Value → Prop, G ns → srcK h 1 (Nat.min ln n) y G) (hns : ns.length = Nat.min ln n) (ho : q + ns.length ≤ vs.length) (hpl : ∀ v ∈ ns, plain v = true)
  (hF : ∀ h', Sat (L ++ M.set j (Hw.own T2 w s (vs.take q ++ ns ++ vs.drop (q + ns.length)))) h' → F (Nat.min ln n) h') : cpK P T ⟨some ⟨r, q, none⟩, n, c⟩ y h F := by
 unfold cpK
 rw [hln, hsz]
 refine hsrc _ ?_
 simp only []
 obtain ⟨ho1, ho2, ho3⟩ := hs.own j hj
 rw [hr] at ho3
 obtain ⟨_, cs, hcs, hcl, hct⟩ := ho3
 have hlv : vs.length ≤ cs.length := by rw [← hct]; simp; omega
 refine wrL_blk (b := r) (o := q) ns 0 _ cs hcs (by omega) hpl ?_
 intro h2 hb2 hf2
 rw [Nat.add_zero, setL_eq (by omega)] at hb2
 refine hF h2 (hs.at j hj fun G hG => ⟨G, ⟨hG.1, by simp only [List.length_append, List.length_take, List.length_drop]; omega, ho2, ?_⟩, fun x hx => .inl hx, fun x hx _ => hf2 x (fun e => hx ((hG.1 x).2 (by rw [hr, e])))⟩)
 rw [hr]
 refine ⟨rfl, _, hb2, by simp only [List.length_append, List.length_take, List.length_drop]; omega, ?_⟩
 have e1 : cs.take q = vs.take q := by rw [← hct, List.take_take, Nat.min_eq_left (by omega)]
 have e2 : cs.drop (q + ns.length) = vs.drop (q + ns.length) ++ cs.drop vs.length := by
  have h1 : cs = vs ++ cs.drop vs.length := by conv => lhs; rw [← List.take_append_drop vs.length cs, hct]
  conv => lhs; rw [h1]
  rw [List.drop_append_of_le_length (by omega)]
 rw [e1, e2, ← List.append_assoc]
 exact List.take_left
theorem Sat.cpElem {P : Program} {L M : List Asn} {T T2 : TypeId} {α : Type} {f : α → List Value} {Q : List α} {x x' : α} {w i o n c ln r : Nat} {s : Sl} {ns : List Value} {y : Value} {h : Hp} {F : Nat → Hp → Prop} (hs : Sat (L ++ M) h) (j : Nat) (hj : M[j]? = some (Hw.own T2 w s (Q.flatMap f))) (hw : ∀ x, (f x).length = w) (hi : Q[i]? = some x) (hr : s.p = some (bk r)) (hsz : P.cellsOf T = 1)
  (hln : ∀ G : Nat → Prop, lnK y G = G ln) (hsrc : ∀ G : List Value → Prop, G ns → srcK h 1 (Nat.min ln n) y G) (hns : ns.length = Nat.min ln n) (ho : o + ns.length ≤ w) (hpl : ∀ v ∈ ns, plain v = true) (hx : f x' = (f x).take o ++ ns ++ (f x).drop (o + ns.length))
  (hF : ∀ h', Sat (L ++ M.set j (Hw.own T2 w s ((Q.set i x').flatMap f))) h' → F (Nat.min ln n) h') : cpK P T ⟨some ⟨r, i * w + o, none⟩, n, c⟩ y h F := by
 have hil := lt_of_get hi
 refine hs.cpO j hj hr hsz hln hsrc hns ?_ hpl ?_
 ·rw [flat_len hw]
  have : (i + 1) * w ≤ Q.length * w := Nat.mul_le_mul_right _ hil
  rw [Nat.add_mul] at this; omega
 ·intro h' hs'
  rw [flat_put hw hi ho hx] at hs'
  exact hF h' hs'
theorem zeros_flat {P : Program} {T : TypeId} {n : Nat} {α : Type} {f : α → List Value} {z : α} {w : Nat} (hw : ∀ x, (f x).length = w) (h0 : 0 < w) (hz : zc P T = f z) : (zeros P T n).toList = (List.replicate n z).flatMap f := by
 unfold zeros Builtin.zeroCells
 rw [hz]
 apply List.ext_getElem?
 intro i
 have hl : (f z).length = w := hw z
 by_cases hi : i < n * w
 ·have hq : i / w < n := Nat.div_lt_of_lt_mul (by rw [Nat.mul_comm]; exact hi)
  have hr : i % w < w := Nat.mod_lt _ h0
  have e : i = i / w * w + i % w := by rw [Nat.mul_comm]; exact (Nat.div_add_mod i w).symm
  have h1 : ((List.replicate n z).flatMap f)[i / w * w + i % w]? = some ((f z)[i % w]'(by omega)) := flat_get hw (by rw [List.getElem?_replicate, if_pos hq]) (List.getElem?_eq_getElem (by omega))
  rw [← e] at h1
  rw [h1]
  simp [hl, hi]
  rw [List.getElem?_eq_getElem (by omega)]; rfl
 ·rw [List.getElem?_eq_none (by simp [hl]; omega), List.getElem?_eq_none (by rw [flat_len hw, List.length_replicate]; omega)]
end Go.Hw

set_option linter.unusedVariables false
set_option maxRecDepth 100000
namespace Go.Proofs.YtbbnpmikjdgdpaaGreat
open Go Go.Hw
noncomputable def B89 : Code := match Tryz.f89.body with | some c => c | none => .skip
def N89_j0 (x1 : Option Addr) (x5 : Bool) (h : Hp) (Kn : Hp → Prop) (Kr : Sl → Int → Hp → Prop) : Prop :=
 bif x5 then
 Kr ⟨none, 0, 0⟩ 30 h
 else
 nn x1 fun a0 =>
 xL (cell h (a0.add 13)) fun s0 =>
 bif (decide (((s0.n : Nat) : Int) > 1500)) then
 Kr ⟨none, 0, 0⟩ 2 h
 else
 Kn h
noncomputable def N89_j0_t : Xf := pieceT [(1, .c (.ptr)), (5, .c (.bool))] (codeAt B89 [1, 0, 0, 1]) fun x h Q => N89_j0 x.1 x.2 h (fun h' => Q .normal (Sg.env [] ()) h') (fun o0 o1 h' => Q .ret (Sg.env [(2, .c (.slice)), (3, .c (.int .i64))] (o0, o1)) h')
theorem N89_j0_ok : Sound Tryz.prog Tryz.f89.ntmps N89_j0_t (codeAt B89 [1, 0, 0, 1]) := by
 refine piece_sound (fun e => match e with | .normal => [] | .ret => [2, 3] | _ => []) ?_
 intro x h Q hb
 refine den_sound hE hm _ .leaf _ _ _ (annOk_leaf) ?_
 refine cast ?_ hb
 kernel_rfl
def N89_j1 (x1 : Option Addr) (h : Hp) (Kr : Sl → Int → Hp → Prop) : Prop :=
 nn x1 fun a0 =>
 xL (cell h (a0.add 13)) fun s0 =>
 mkK Tryz.prog 5 (mx (IntKind.wrap .i64 (14 + ((s0.n : Nat) : Int))) 60) (mx (IntKind.wrap .i64 (14 + ((s0.n : Nat) : Int))) 60) h fun s1 h0 =>
 nn x1 fun a1 =>
 cpK Tryz.prog 5 s1 (.slice (sadr (some a1) 6 0 1) 6 6) h0 fun n0 h1 =>
 bd 6 s1.n fun k0 =>
 nn x1 fun a2 =>
 cpK Tryz.prog 5 ⟨sadr s1.p s1.c k0 1, s1.n - k0, s1.c - k0⟩ (.slice (sadr (some (a2.add 6)) 6 0 1) 6 6) h1 fun n1 h2 =>
 bd 12 s1.n fun k1 =>
 nn x1 fun a3 =>
 xI .i64 (cell h2 (a3.add 12)) fun n2 =>
 C31 (IntKind.wrap .u64 n2) 2 h2 fun s2 h3 =>
 cpK Tryz.prog 5 ⟨sadr s1.p s1.c k1 1, s1.n - k1, s1.c - k1⟩ (.slice s2.p s2.n s2.c) h3 fun n3 h4 =>
 bd 14 s1.n fun k2 =>
 nn x1 fun a4 =>
 xL (cell h4 (a4.add 13)) fun s3 =>
 cpK Tryz.prog 5 ⟨sadr s1.p s1.c k2 1, s1.n - k2, s1.c - k2⟩ (.slice s3.p s3.n s3.c) h4 fun n4 h5 =>
 Kr s1 0 h5
noncomputable def N89_j1_t : Xf := pieceT [(1, .c (.ptr))] (codeAt B89 [1, 1]) fun x h Q => N89_j1 x h (fun o0 o1 h' => Q .ret (Sg.env [(2, .c (.slice)), (3, .c (.int .i64))] (o0, o1)) h')
theorem N89_j1_ok : Sound Tryz.prog Tryz.f89.ntmps N89_j1_t (codeAt B89 [1, 1]) := by
 refine piece_sound (fun e => match e with | .ret => [2, 3] | _ => []) ?_
 intro x h Q hb
 refine den_sound hE hm _ (.two .leaf (.two .leaf (.two (.ord [0, 1, 2, 3, 4]) (.two (.ord [0, 1, 2, 3, 4, 5, 6]) (.two (.ord [0, 1, 2, 3, 4]) .leaf))))) _ _ _ (⟨annOk_leaf, ⟨annOk_leaf, ⟨trivial, ⟨trivial, ⟨trivial, annOk_leaf⟩⟩⟩⟩⟩) ?_
 refine cast ?_ hb
 kernel_rfl
def N89 (x0_0 x0_1 x0_2 x0_3 x0_4 x0_5 x0_6 x0_7 x0_8 x0_9 x0_10 x0_11 x0_12 : Int) (x0_13 : Sl) (h : Hp) (K : Sl → Int → Hp → Prop) : Prop :=
 nw h (.cells ⟨[.int .u8 x0_0, .int .u8 x0_1, .int .u8 x0_2, .int .u8 x0_3, .int .u8 x0_4, .int .u8 x0_5, .int .u8 x0_6, .int .u8 x0_7, .int .u8 x0_8, .int .u8 x0_9, .int .u8 x0_10, .int .u8 x0_11, .int .i64 x0_12, .slice x0_13.p x0_13.n x0_13.c]⟩ 110) fun b0 h0 =>
 xI .i64 (cell h0 ((bk b0).add 12)) fun n0 =>
 bif (decide (n0 < 1536)) then
 N89_j0 (some (bk b0)) true h0
 (fun h1 =>
 N89_j1 (some (bk b0)) h1
 (fun s0 n1 h2 =>
 K s0 n1 h2))
 (fun s1 n2 h3 =>
 K s1 n2 h3)
 else
 xI .i64 (cell h0 ((bk b0).add 12)) fun n3 =>
 N89_j0 (some (bk b0)) (decide (n3 > 65535)) h0
 (fun h4 =>
 N89_j1 (some (bk b0)) h4
 (fun s2 n4 h5 =>
 K s2 n4 h5))
 (fun s3 n5 h6 =>
 K s3 n5 h6)
theorem S89 {x0_0 x0_1 x0_2 x0_3 x0_4 x0_5 x0_6 x0_7 x0_8 x0_9 x0_10 x0_11 x0_12 : Int} {x0_13 : Sl} {h : Hp} {K : Sl → Int → Hp → Prop} (hn : N89 x0_0 x0_1 x0_2 x0_3 x0_4 x0_5 x0_6 x0_7 x0_8 x0_9 x0_10 x0_11 x0_12 x0_13 h K) : C89 x0_0 x0_1 x0_2 x0_3 x0_4 x0_5 x0_6 x0_7 x0_8 x0_9 x0_10 x0_11 x0_12 x0_13 h K := by
 refine calls_of_D Tryz.func89 (c := B89) rfl (by kernel_rfl) ?_
 refine den_sound hE hm _ (.two .leaf (.two (.one (.two .leaf (.xf N89_j0_t))) (.xf N89_j1_t))) _ _ _ (⟨annOk_leaf, ⟨⟨annOk_leaf, N89_j0_ok⟩, N89_j1_ok⟩⟩) ?_
 refine cast ?_ hn
 kernel_rfl
end Go.Proofs.YtbbnpmikjdgdpaaGreat

set_option linter.unusedVariables false
set_option maxRecDepth 100000
namespace Go.Proofs.YtbbnpmikjdgdpaaGreat
open Go Go.Hw
noncomputable def B63 : Code := match Tryz.f63.body with | some c => c | none => .skip
def N63 (x0 : Sl) (h : Hp) (K : Int → Int → Int → Int → Int → Int → Int → Int → Int → Int → Int → Int → Int → Sl → Int → Hp → Prop) : Prop :=
 nw h (.cells ⟨[.int .u8 0, .int .u8 0, .int .u8 0, .int .u8 0, .int .u8 0, .int .u8 0, .int .u8 0, .int .u8 0, .int .u8 0, .int .u8 0, .int .u8 0, .int .u8 0, .int .i64 0, .slice none 0 0]⟩ 110) fun b0 h0 =>
 bif (decide (((x0.n : Nat) : Int) < 60)) then
 st h0 (bk b0) (.int .u8 0) fun h1 =>
 st h1 ((bk b0).add 1) (.int .u8 0) fun h2 =>
 st h2 ((bk b0).add 2) (.int .u8 0) fun h3 =>
 st h3 ((bk b0).add 3) (.int .u8 0) fun h4 =>
 st h4 ((bk b0).add 4) (.int .u8 0) fun h5 =>
 st h5 ((bk b0).add 5) (.int .u8 0) fun h6 =>
 st h6 ((bk b0).add 6) (.int .u8 0) fun h7 =>
 st h7 ((bk b0).add 7) (.int .u8 0) fun h8 =>
 st h8 ((bk b0).add 8) (.int .u8 0) fun h9 =>
 st h9 ((bk b0).add 9) (.int .u8 0) fun h10 =>
 st h10 ((bk b0).add 10) (.int .u8 0) fun h11 =>
 st h11 ((bk b0).add 11) (.int .u8 0) fun h12 =>
 st h12 ((bk b0).add 12) (.int .i64 0) fun h13 =>
 st h13 ((bk b0).add 13) (.slice none 0 0) fun h14 =>
 xI .u8 (cell h14 (bk b0)) fun n0 =>
 xI .u8 (cell h14 ((bk b0).add 1)) fun n1 =>
 xI .u8 (cell h14 ((bk b0).add 2)) fun n2 =>
 xI .u8 (cell h14 ((bk b0).add 3)) fun n3 =>
 xI .u8 (cell h14 ((bk b0).add 4)) fun n4 =>
 xI .u8 (cell h14 ((bk b0).add 5)) fun n5 =>
 xI .u8 (cell h14 ((bk b0).add 6)) fun n6 =>
 xI .u8 (cell h14 ((bk b0).add 7)) fun n7 =>
 xI .u8 (cell h14 ((bk b0).add 8)) fun n8 =>
 xI .u8 (cell h14 ((bk b0).add 9)) fun n9 =>
 xI .u8 (cell h14 ((bk b0).add 10)) fun n10 =>
 xI .u8 (cell h14 ((bk b0).add 11)) fun n11 =>
 xI .i64 (cell h14 ((bk b0).add 12)) fun n12 =>
 xL (cell h14 ((bk b0).add 13)) fun s0 =>
 K n0 n1 n2 n3 n4 n5 n6 n7 n8 n9 n10 n11 n12 s0 5 h14
 else
 bif (decide (((x0.n : Nat) : Int) > 1514)) then
 st h0 (bk b0) (.int .u8 0) fun h15 =>
 st h15 ((bk b0).add 1) (.int .u8 0) fun h16 =>
 st h16 ((bk b0).add 2) (.int .u8 0) fun h17 =>
 st h17 ((bk b0).add 3) (.int .u8 0) fun h18 =>
 st h18 ((bk b0).add 4) (.int .u8 0) fun h19 =>
 st h19 ((bk b0).add 5) (.int .u8 0) fun h20 =>
 st h20 ((bk b0).add 6) (.int .u8 0) fun h21 =>
 st h21 ((bk b0).add 7) (.int .u8 0) fun h22 =>
 st h22 ((bk b0).add 8) (.int .u8 0) fun h23 =>
 st h23 ((bk b0).add 9) (.int .u8 0) fun h24 =>
 st h24 ((bk b0).add 10) (.int .u8 0) fun h25 =>
 st h25 ((bk b0).add 11) (.int .u8 0) fun h26 =>
 st h26 ((bk b0).add 12) (.int .i64 0) fun h27 =>
 st h27 ((bk b0).add 13) (.slice none 0 0) fun h28 =>
 xI .u8 (cell h28 (bk b0)) fun n13 =>
 xI .u8 (cell h28 ((bk b0).add 1)) fun n14 =>
 xI .u8 (cell h28 ((bk b0).add 2)) fun n15 =>
 xI .u8 (cell h28 ((bk b0).add 3)) fun n16 =>
 xI .u8 (cell h28 ((bk b0).add 4)) fun n17 =>
 xI .u8 (cell h28 ((bk b0).add 5)) fun n18 =>
 xI .u8 (cell h28 ((bk b0).add 6)) fun n19 =>
 xI .u8 (cell h28 ((bk b0).add 7)) fun n20 =>
 xI .u8 (cell h28 ((bk b0).add 8)) fun n21 =>
 xI .u8 (cell h28 ((bk b0).add 9)) fun n22 =>
 xI .u8 (cell h28 ((bk b0).add 10)) fun n23 =>
 xI .u8 (cell h28 ((bk b0).add 11)) fun n24 =>
 xI .i64 (cell h28 ((bk b0).add 12)) fun n25 =>
 xL (cell h28 ((bk b0).add 13)) fun s1 =>
 K n13 n14 n15 n16 n17 n18 n19 n20 n21 n22 n23 n24 n25 s1 2 h28
 else
 C79 x0 12 2 h0 fun n26 n27 h29 =>
 bif (decide (n26 < 1536)) then
 st h29 (bk b0) (.int .u8 0) fun h30 =>
 st h30 ((bk b0).add 1) (.int .u8 0) fun h31 =>
 st h31 ((bk b0).add 2) (.int .u8 0) fun h32 =>
 st h32 ((bk b0).add 3) (.int .u8 0) fun h33 =>
 st h33 ((bk b0).add 4) (.int .u8 0) fun h34 =>
 st h34 ((bk b0).add 5) (.int .u8 0) fun h35 =>
 st h35 ((bk b0).add 6) (.int .u8 0) fun h36 =>
 st h36 ((bk b0).add 7) (.int .u8 0) fun h37 =>
 st h37 ((bk b0).add 8) (.int .u8 0) fun h38 =>
 st h38 ((bk b0).add 9) (.int .u8 0) fun h39 =>
 st h39 ((bk b0).add 10) (.int .u8 0) fun h40 =>
 st h40 ((bk b0).add 11) (.int .u8 0) fun h41 =>
 st h41 ((bk b0).add 12) (.int .i64 0) fun h42 =>
 st h42 ((bk b0).add 13) (.slice none 0 0) fun h43 =>
 xI .u8 (cell h43 (bk b0)) fun n28 =>
 xI .u8 (cell h43 ((bk b0).add 1)) fun n29 =>
 xI .u8 (cell h43 ((bk b0).add 2)) fun n30 =>
 xI .u8 (cell h43 ((bk b0).add 3)) fun n31 =>
 xI .u8 (cell h43 ((bk b0).add 4)) fun n32 =>
 xI .u8 (cell h43 ((bk b0).add 5)) fun n33 =>
 xI .u8 (cell h43 ((bk b0).add 6)) fun n34 =>
 xI .u8 (cell h43 ((bk b0).add 7)) fun n35 =>
 xI .u8 (cell h43 ((bk b0).add 8)) fun n36 =>
 xI .u8 (cell h43 ((bk b0).add 9)) fun n37 =>
 xI .u8 (cell h43 ((bk b0).add 10)) fun n38 =>
 xI .u8 (cell h43 ((bk b0).add 11)) fun n39 =>
 xI .i64 (cell h43 ((bk b0).add 12)) fun n40 =>
 xL (cell h43 ((bk b0).add 13)) fun s2 =>
 K n28 n29 n30 n31 n32 n33 n34 n35 n36 n37 n38 n39 n40 s2 30 h43
 else
 bd ((x0.n : Nat) : Int) x0.c fun k0 =>
 bd ((x0.n : Nat) : Int) k0 fun k1 =>
 bd 14 k1 fun k2 =>
 C57 ⟨sadr x0.p k0 k2 1, k1 - k2, k0 - k2⟩ h29 fun s3 h44 =>
 nw h44 (.cells ⟨[.int .u8 0, .int .u8 0, .int .u8 0, .int .u8 0, .int .u8 0, .int .u8 0, .int .u8 0, .int .u8 0, .int .u8 0, .int .u8 0, .int .u8 0, .int .u8 0, .int .i64 0, .slice none 0 0]⟩ 110) fun b1 h45 =>
 st h45 (bk b1) (.int .u8 0) fun h46 =>
 st h46 ((bk b1).add 1) (.int .u8 0) fun h47 =>
 st h47 ((bk b1).add 2) (.int .u8 0) fun h48 =>
 st h48 ((bk b1).add 3) (.int .u8 0) fun h49 =>
 st h49 ((bk b1).add 4) (.int .u8 0) fun h50 =>
 st h50 ((bk b1).add 5) (.int .u8 0) fun h51 =>
 st h51 ((bk b1).add 6) (.int .u8 0) fun h52 =>
 st h52 ((bk b1).add 7) (.int .u8 0) fun h53 =>
 st h53 ((bk b1).add 8) (.int .u8 0) fun h54 =>
 st h54 ((bk b1).add 9) (.int .u8 0) fun h55 =>
 st h55 ((bk b1).add 10) (.int .u8 0) fun h56 =>
 st h56 ((bk b1).add 11) (.int .u8 0) fun h57 =>
 st h57 ((bk b1).add 12) (.int .i64 (IntKind.wrap .i64 n26)) fun h58 =>
 st h58 ((bk b1).add 13) (.slice s3.p s3.n s3.c) fun h59 =>
 bd 6 x0.c fun k3 =>
 bd 6 k3 fun k4 =>
 bd 0 k4 fun k5 =>
 cpK Tryz.prog 5 ⟨sadr (some (bk b1)) 6 0 1, 6, 6⟩ (.slice (sadr x0.p k3 k5 1) (k4 - k5) (k3 - k5)) h59 fun n41 h60 =>
 bd 12 x0.c fun k6 =>
 bd 12 k6 fun k7 =>
 bd 6 k7 fun k8 =>
 cpK Tryz.prog 5 ⟨sadr (some ((bk b1).add 6)) 6 0 1, 6, 6⟩ (.slice (sadr x0.p k6 k8 1) (k7 - k8) (k6 - k8)) h60 fun n42 h61 =>
 xI .u8 (cell h61 (bk b1)) fun n43 =>
 xI .u8 (cell h61 ((bk b1).add 1)) fun n44 =>
 xI .u8 (cell h61 ((bk b1).add 2)) fun n45 =>
 xI .u8 (cell h61 ((bk b1).add 3)) fun n46 =>
 xI .u8 (cell h61 ((bk b1).add 4)) fun n47 =>
 xI .u8 (cell h61 ((bk b1).add 5)) fun n48 =>
 xI .u8 (cell h61 ((bk b1).add 6)) fun n49 =>
 xI .u8 (cell h61 ((bk b1).add 7)) fun n50 =>
 xI .u8 (cell h61 ((bk b1).add 8)) fun n51 =>
 xI .u8 (cell h61 ((bk b1).add 9)) fun n52 =>
 xI .u8 (cell h61 ((bk b1).add 10)) fun n53 =>
 xI .u8 (cell h61 ((bk b1).add 11)) fun n54 =>
 xI .i64 (cell h61 ((bk b1).add 12)) fun n55 =>
 xL (cell h61 ((bk b1).add 13)) fun s4 =>
 st h61 (bk b0) (.int .u8 n43) fun h62 =>
 st h62 ((bk b0).add 1) (.int .u8 n44) fun h63 =>
 st h63 ((bk b0).add 2) (.int .u8 n45) fun h64 =>
 st h64 ((bk b0).add 3) (.int .u8 n46) fun h65 =>
 st h65 ((bk b0).add 4) (.int .u8 n47) fun h66 =>
 st h66 ((bk b0).add 5) (.int .u8 n48) fun h67 =>
 st h67 ((bk b0).add 6) (.int .u8 n49) fun h68 =>
 st h68 ((bk b0).add 7) (.int .u8 n50) fun h69 =>
 st h69 ((bk b0).add 8) (.int .u8 n51) fun h70 =>
 st h70 ((bk b0).add 9) (.int .u8 n52) fun h71 =>
 st h71 ((bk b0).add 10) (.int .u8 n53) fun h72 =>
 st h72 ((bk b0).add 11) (.int .u8 n54) fun h73 =>
 st h73 ((bk b0).add 12) (.int .i64 n55) fun h74 =>
 st h74 ((bk b0).add 13) (.slice s4.p s4.n s4.c) fun h75 =>
 xI .u8 (cell h75 (bk b0)) fun n56 =>
 xI .u8 (cell h75 ((bk b0).add 1)) fun n57 =>
 xI .u8 (cell h75 ((bk b0).add 2)) fun n58 =>
 xI .u8 (cell h75 ((bk b0).add 3)) fun n59 =>
 xI .u8 (cell h75 ((bk b0).add 4)) fun n60 =>
 xI .u8 (cell h75 ((bk b0).add 5)) fun n61 =>
 xI .u8 (cell h75 ((bk b0).add 6)) fun n62 =>
 xI .u8 (cell h75 ((bk b0).add 7)) fun n63 =>
 xI .u8 (cell h75 ((bk b0).add 8)) fun n64 =>
 xI .u8 (cell h75 ((bk b0).add 9)) fun n65 =>
 xI .u8 (cell h75 ((bk b0).add 10)) fun n66 =>
 xI .u8 (cell h75 ((bk b0).add 11)) fun n67 =>
 xI .i64 (cell h75 ((bk b0).add 12)) fun n68 =>
 xL (cell h75 ((bk b0).add 13)) fun s5 =>
 K n56 n57 n58 n59 n60 n61 n62 n63 n64 n65 n66 n67 n68 s5 0 h75
theorem S63 {x0 : Sl} {h : Hp} {K : Int → Int → Int → Int → Int → Int → Int → Int → Int → Int → Int → Int → Int → Sl → Int → Hp → Prop} (hn : N63 x0 h K) : C63 x0 h K := by
 refine calls_of_M Tryz.func63 (c := B63) rfl (by kernel_rfl) ?_
 refine den_sound hE hm _ (.two .leaf (.two .leaf (.two .leaf (.two .leaf (.two .leaf (.two (.ord [0, 1, 2, 3, 4]) (.two (.ord [0, 1, 2, 3, 4]) .leaf))))))) _ _ _ (⟨annOk_leaf, ⟨annOk_leaf, ⟨annOk_leaf, ⟨annOk_leaf, ⟨annOk_leaf, ⟨trivial, ⟨trivial, annOk_leaf⟩⟩⟩⟩⟩⟩⟩) ?_
 refine cast ?_ hn
 kernel_rfl
end Go.Proofs.YtbbnpmikjdgdpaaGreat

set_option linter.unusedVariables false
set_option maxRecDepth 100000
namespace Go.Proofs.YtbbnpmikjdgdpaaGreat
open Go Go.Hw
noncomputable def B64 : Code := match Tryz.f64.body with | some c => c | none => .skip
def N64 (x0_0 x0_1 x0_2 x0_3 x0_4 x0_5 x1_0 x1_1 x1_2 x1_3 x1_4 x1_5 x1_6 x1_7 x1_8 x1_9 x1_10 x1_11 x1_12 : Int) (x1_13 : Sl) (h : Hp) (K : Bool → Hp → Prop) : Prop :=
 nw h (.cells ⟨[.int .u8 x0_0, .int .u8 x0_1, .int .u8 x0_2, .int .u8 x0_3, .int .u8 x0_4, .int .u8 x0_5]⟩ 46) fun b0 h0 =>
 nw h0 (.cells ⟨[.int .u8 x1_0, .int .u8 x1_1, .int .u8 x1_2, .int .u8 x1_3, .int .u8 x1_4, .int .u8 x1_5, .int .u8 x1_6, .int .u8 x1_7, .int .u8 x1_8, .int .u8 x1_9, .int .u8 x1_10, .int .u8 x1_11, .int .i64 x1_12, .slice x1_13.p x1_13.n x1_13.c]⟩ 110) fun b1 h1 =>
 xI .u8 (cell h1 ((bk b1).add 6)) fun n0 =>
 xI .u8 (cell h1 ((bk b1).add 7)) fun n1 =>
 xI .u8 (cell h1 ((bk b1).add 8)) fun n2 =>
 xI .u8 (cell h1 ((bk b1).add 9)) fun n3 =>
 xI .u8 (cell h1 ((bk b1).add 10)) fun n4 =>
 xI .u8 (cell h1 ((bk b1).add 11)) fun n5 =>
 C80 n0 n1 n2 n3 n4 n5 h1 fun b2 h2 =>
 bif (!b2) then
 xI .u8 (cell h2 (bk b1)) fun n6 =>
 xI .u8 (cell h2 ((bk b1).add 1)) fun n7 =>
 xI .u8 (cell h2 ((bk b1).add 2)) fun n8 =>
 xI .u8 (cell h2 ((bk b1).add 3)) fun n9 =>
 xI .u8 (cell h2 ((bk b1).add 4)) fun n10 =>
 xI .u8 (cell h2 ((bk b1).add 5)) fun n11 =>
 xI .u8 (cell h2 (bk b0)) fun n12 =>
 xI .u8 (cell h2 ((bk b0).add 1)) fun n13 =>
 xI .u8 (cell h2 ((bk b0).add 2)) fun n14 =>
 xI .u8 (cell h2 ((bk b0).add 3)) fun n15 =>
 xI .u8 (cell h2 ((bk b0).add 4)) fun n16 =>
 xI .u8 (cell h2 ((bk b0).add 5)) fun n17 =>
 bif ((n6 == n12) && ((n7 == n13) && ((n8 == n14) && ((n9 == n15) && ((n10 == n16) && ((n11 == n17) && true)))))) then
 K true h2
 else
 xI .u8 (cell h2 (bk b1)) fun n18 =>
 xI .u8 (cell h2 ((bk b1).add 1)) fun n19 =>
 xI .u8 (cell h2 ((bk b1).add 2)) fun n20 =>
 xI .u8 (cell h2 ((bk b1).add 3)) fun n21 =>
 xI .u8 (cell h2 ((bk b1).add 4)) fun n22 =>
 xI .u8 (cell h2 ((bk b1).add 5)) fun n23 =>
 C54 h2 fun n24 n25 n26 n27 n28 n29 h3 =>
 both (xI .u8 (cell h3 (bk b1)) fun n30 => xI .u8 (cell h3 ((bk b1).add 1)) fun n31 => xI .u8 (cell h3 ((bk b1).add 2)) fun n32 => xI .u8 (cell h3 ((bk b1).add 3)) fun n33 => xI .u8 (cell h3 ((bk b1).add 4)) fun n34 => xI .u8 (cell h3 ((bk b1).add 5)) fun n35 => Only (.agg ⟨[.int .u8 n18, .int .u8 n19, .int .u8 n20, .int .u8 n21, .int .u8 n22, .int .u8 n23]⟩) h3 (.agg ⟨[.int .u8 n30, .int .u8 n31, .int .u8 n32, .int .u8 n33, .int .u8 n34, .int .u8 n35]⟩) h3) <|
 K ((n18 == n24) && ((n19 == n25) && ((n20 == n26) && ((n21 == n27) && ((n22 == n28) && ((n23 == n29) && true)))))) h3
 else
 K false h2
theorem S64 {x0_0 x0_1 x0_2 x0_3 x0_4 x0_5 x1_0 x1_1 x1_2 x1_3 x1_4 x1_5 x1_6 x1_7 x1_8 x1_9 x1_10 x1_11 x1_12 : Int} {x1_13 : Sl} {h : Hp} {K : Bool → Hp → Prop} (hn : N64 x0_0 x0_1 x0_2 x0_3 x0_4 x0_5 x1_0 x1_1 x1_2 x1_3 x1_4 x1_5 x1_6 x1_7 x1_8 x1_9 x1_10 x1_11 x1_12 x1_13 h K) : C64 x0_0 x0_1 x0_2 x0_3 x0_4 x0_5 x1_0 x1_1 x1_2 x1_3 x1_4 x1_5 x1_6 x1_7 x1_8 x1_9 x1_10 x1_11 x1_12 x1_13 h K := by
 refine calls_of_D Tryz.func64 (c := B64) rfl (by kernel_rfl) ?_
 refine den_sound hE hm _ (.two .leaf (.two (.ord [0, 1, 2, 3, 4, 5, 6, 7, 8, 9, 10, 11, 12, 13, 14, 15, 16]) .leaf)) _ _ _ (⟨annOk_leaf, ⟨trivial, annOk_leaf⟩⟩) ?_
 refine cast ?_ hn
 kernel_rfl
end Go.Proofs.YtbbnpmikjdgdpaaGreat

/-
 Frames: Seal, Open, Mine.
-/
set_option linter.unusedSimpArgs false
set_option linter.unusedVariables false
set_option maxRecDepth 40000
namespace Go.Proofs.YtbbnpmikjdgdpaaGreat
open Go Go.Hw
def macC (m : M6) : List Value := [.int .u8 m.a, .int .u8 m.b, .int .u8 m.c, .int .u8 m.d, .int .u8 m.e, .int .u8 m.f]
def frC (d s : M6) (kind : Int) (x : Sl) : List Value := [.int .u8 d.a, .int .u8 d.b, .int .u8 d.c, .int .u8 d.d, .int .u8 d.e, .int .u8 d.f, .int .u8 s.a, .int .u8 s.b, .int .u8 s.c, .int .u8 s.d, .int .u8 s.e, .int .u8 s.f, .int .i64 kind, x.v]
def sealL (d s : M6) (kind : Int) (data : List UInt8) : List UInt8 := mb d ++ mb s ++ be kind.toNat 2 ++ data ++ List.replicate (60 - (14 + data.length)) 0
def sealE (kind : Int) (data : List UInt8) : Int := if kind < 1536 ∨ 65535 < kind then 30 else if 1500 < data.length then 2 else 0
theorem mb_len (m : M6) : (mb m).length = 6 := rfl
theorem seal_len {d s : M6} {kind : Int} {data : List UInt8} : (sealL d s kind data).length = max (14 + data.length) 60 := by simp [sealL, mb_len, be_len]; omega
theorem put8_2 (n : Nat) : putL n 2 = be n 2 := rfl
theorem c_seal {d s : M6} {kind : Int} {data : List UInt8} {x : Sl} {h : Hp} {K : Sl → Int → Hp → Prop} (hd : d.ok) (hs6 : s.ok) (hr : RdB h x data) (hdl : data.length ≤ 1099511627776)
  (hbad : sealE kind data ≠ 0 → ∀ h', Ext none' h h' → K ⟨none, 0, 0⟩ (sealE kind data) h') (hok : sealE kind data = 0 → ∀ h' y, NewO h h' 5 1 y (bc (sealL d s kind data)) → K y 0 h') :
  C89 d.a d.b d.c d.d d.e d.f s.a s.b s.c s.d s.e s.f kind x h K := by
 apply S89; unfold N89
 have hs0 : Sat ([] ++ [Hw.was h]) h := Sat.start
 refine hs0.nw ?_
 intro z h1 g0 he1
 have g : Sat ([] ++ [Hw.was h, row z 110 (frC d s kind x)]) h1 := g0
 have was_ : ∀ {M : List Asn} {h' : Hp}, Sat ([] ++ (Hw.was h :: M)) h' → Ext none' h h' := fun g => g.was 0 rfl
 have xn := hr.n
 have go : 1536 ≤ kind → kind ≤ 65535 → data.length ≤ 1500 → N89_j1 (some (bk z)) h1 fun y n h' => K y n h' := by
  intro k1 k2 k3
  have he : sealE kind data = 0 := by unfold sealE; rw [if_neg (by omega), if_neg (by omega)]
  unfold N89_j1
  simp only [nn_some', add_bk]
  refine g.lL 1 rfl rfl ?_
  have e1 : mx (IntKind.wrap .i64 (14 + ((x.n : Nat) : Int))) 60 = ((max (14 + data.length) 60 : Nat) : Int) := by
   rw [wi64i (by omega) (by omega)]; unfold mx; omega
  rw [e1]
  refine g.mk (sz := 1) y_zl (by omega) (by omega) (by rw [y_b]; omega) (by omega) ?_
  intro y h2 yn yc g2
  rw [Int.toNat_natCast] at yn yc g2
  rw [y_zeros] at g2
  have g2 : Sat ([] ++ [Hw.was h, row z 110 (frC d s kind x), Hw.own 5 1 y (bc ([] ++ List.replicate (max (14 + data.length) 60) 0))]) h2 := g2
  simp only [sadr_zero]
  refine cp_zero ?_
  refine g2.putM 2 rfl rfl (ns := mb d) (by rw [mb_len]; omega) y_a 1 rfl (mb_len d) (by rw [mb_bc hd]; rfl) ?_
  intro h3 g3
  refine bd_nat (i := 6) (by omega) ?_
  refine Sat.putM g3 2 rfl rfl (ns := mb s) (by rw [mb_len, mb_len]; omega) y_a 1 rfl (mb_len s) (by rw [mb_bc hs6]; rfl) ?_
  intro h4 g4
  refine bd_nat (i := 12) (by omega) ?_
  refine Sat.lI g4 1 rfl rfl ?_
  rw [wu64i (by omega) (by omega)]
  refine c_put (w := 2) (by omega) (by omega) ?_
  intro h5 p hp
  rw [put8_2] at hp
  have g5 := Sat.ext g4 hp.1
  refine Sat.putR g5 2 rfl rfl (by rw [be_len, mb_len, mb_len]; omega) y_a hp.2.1.rdb ?_
  intro h6 g6
  refine bd_nat (i := 14) (by omega) ?_
  refine Sat.lL g6 1 rfl rfl ?_
  have r6 : RdB h6 x data := hr.ext (was_ g6)
  refine Sat.putR g6 2 rfl rfl (by rw [be_len, mb_len, mb_len]; omega) y_a r6 ?_
  intro h7 g7
  have el : ([] ++ mb d ++ mb s ++ be kind.toNat 2 ++ data ++ List.replicate (max (14 + data.length) 60 - (mb d).length - (mb s).length - (be kind.toNat 2).length - data.length) 0) = sealL d s kind data := by
   unfold sealL
   rw [mb_len, mb_len, be_len, List.nil_append]
   congr 2
   omega
  have g8 : Sat ([] ++ [Hw.was h, row z 110 (frC d s kind x), Hw.own 5 1 y (bc (sealL d s kind data))]) h7 := by
   rw [← el]; exact g7
  exact hok he _ _ (g8.newO 0 2 rfl rfl (by omega))
 simp only [add_bk]
 refine g.lI 1 rfl rfl ?_
 by_cases k1 : kind < 1536
 ·rw [show decide (kind < 1536) = true from decide_eq_true k1, cond_true]
  unfold N89_j0
  rw [cond_true]
  have he : sealE kind data = 30 := by unfold sealE; rw [if_pos (.inl k1)]
  rw [he] at hbad
  exact hbad (by decide) _ (was_ g)
 ·rw [show decide (kind < 1536) = false from decide_eq_false k1, cond_false]
  refine g.lI 1 rfl rfl ?_
  unfold N89_j0
  by_cases k2 : kind > 65535
  ·rw [show decide (kind > 65535) = true from decide_eq_true k2, cond_true]
   have he : sealE kind data = 30 := by unfold sealE; rw [if_pos (.inr k2)]
   rw [he] at hbad
   exact hbad (by decide) _ (was_ g)
  ·rw [show decide (kind > 65535) = false from decide_eq_false k2, cond_false]
   simp only [nn_some', add_bk]
   refine g.lL 1 rfl rfl ?_
   by_cases k3 : 1500 < data.length
   ·rw [show decide (((x.n : Nat) : Int) > 1500) = true from decide_eq_true (by omega), cond_true]
    have he : sealE kind data = 2 := by unfold sealE; rw [if_neg (by omega), if_pos k3]
    rw [he] at hbad
    exact hbad (by decide) _ (was_ g)
   ·rw [show decide (((x.n : Nat) : Int) > 1500) = false from decide_eq_false (by omega), cond_false]
    exact go (by omega) (by omega) (by omega)
def m6eq (a b : M6) : Bool := a.a == b.a && (a.b == b.b && (a.c == b.c && (a.d == b.d && (a.e == b.e && (a.f == b.f && true)))))
theorem m6eq_iff {a b : M6} : m6eq a b = true ↔ a = b := by
 cases a; cases b
 simp [m6eq]
def mineB (own d s : M6) : Bool := !(s.a % 2 == 1) && (m6eq d own || m6eq d oneEighty)
theorem c_mine {own d s : M6} {kind : Int} {x : Sl} {h : Hp} {K : Bool → Hp → Prop} (hs6 : s.ok) (hK : ∀ h', Ext none' h h' → K (mineB own d s) h') :
  C64 own.a own.b own.c own.d own.e own.f d.a d.b d.c d.d d.e d.f s.a s.b s.c s.d s.e s.f kind x h K := by
 apply S64; unfold N64
 have hs0 : Sat ([] ++ [Hw.was h]) h := Sat.start
 refine hs0.nw ?_
 intro z1 h1 g0 _
 have g0 : Sat ([] ++ [Hw.was h, row z1 46 (macC own)]) h1 := g0
 refine g0.nw ?_
 intro z2 h2 g1 _
 have g : Sat ([] ++ [Hw.was h, row z1 46 (macC own), row z2 110 (frC d s kind x)]) h2 := g1
 have was_ : ∀ {M : List Asn} {h' : Hp}, Sat ([] ++ (Hw.was h :: M)) h' → Ext none' h h' := fun g => g.was 0 rfl
 have fin : ∀ {v : Bool} {h' : Hp}, v = mineB own d s → Ext none' h h' → K v h' := by
  rintro v h' rfl he; exact hK h' he
 simp only [add_bk]
 refine g.lI 2 rfl rfl ?_
 refine g.lI 2 rfl rfl ?_
 refine g.lI 2 rfl rfl ?_
 refine g.lI 2 rfl rfl ?_
 refine g.lI 2 rfl rfl ?_
 refine g.lI 2 rfl rfl ?_
 refine c_group hs6.1.1 hs6.1.2 fun h3 he3 => ?_
 have g3 := g.ext he3
 cases hg : (s.a % 2 == 1) with
 | true => rw [Bool.not_true, cond_false]; exact fin (by simp only [mineB, hg]; rfl) (was_ g3)
 | false =>
  rw [Bool.not_false, cond_true]
  refine g3.lI 2 (k := 0) rfl rfl ?_
  refine g3.lI 2 rfl rfl ?_
  refine g3.lI 2 rfl rfl ?_
  refine g3.lI 2 rfl rfl ?_
  refine g3.lI 2 rfl rfl ?_
  refine g3.lI 2 rfl rfl ?_
  refine g3.lI 1 (k := 0) rfl rfl ?_
  refine g3.lI 1 rfl rfl ?_
  refine g3.lI 1 rfl rfl ?_
  refine g3.lI 1 rfl rfl ?_
  refine g3.lI 1 rfl rfl ?_
  refine g3.lI 1 rfl rfl ?_
  show bif m6eq d own then _ else _
  cases he : m6eq d own with
  | true => rw [cond_true]; exact fin (by simp only [mineB, hg, he]; rfl) (was_ g3)
  | false =>
   rw [cond_false]
   refine g3.lI 2 (k := 0) rfl rfl ?_
   refine g3.lI 2 rfl rfl ?_
   refine g3.lI 2 rfl rfl ?_
   refine g3.lI 2 rfl rfl ?_
   refine g3.lI 2 rfl rfl ?_
   refine g3.lI 2 rfl rfl ?_
   refine c_everyone fun h4 he4 => ?_
   have g4 := g3.ext he4
   refine ⟨?_, ?_⟩
   ·refine g4.lI 2 (k := 0) rfl rfl ?_
    refine g4.lI 2 rfl rfl ?_
    refine g4.lI 2 rfl rfl ?_
    refine g4.lI 2 rfl rfl ?_
    refine g4.lI 2 rfl rfl ?_
    refine g4.lI 2 rfl rfl ?_
    exact ⟨rfl, rfl⟩
   ·exact fin (by simp only [mineB, hg, he, Bool.not_false, Bool.true_and, Bool.false_or]; rfl) (was_ g4)
def macOf (l : List UInt8) (k : Nat) : M6 := ⟨(l.getD k 0).toNat, (l.getD (k + 1) 0).toNat, (l.getD (k + 2) 0).toNat, (l.getD (k + 3) 0).toNat, (l.getD (k + 4) 0).toNat, (l.getD (k + 5) 0).toNat⟩
theorem macOf_ok (l : List UInt8) (k : Nat) : (macOf l k).ok := ⟨u8r _, u8r _, u8r _, u8r _, u8r _, u8r _⟩
def kindOf (l : List UInt8) : Nat := getV l 12 2
theorem getV2_lt (l : List UInt8) (a : Int) : getV l a 2 < 65536 := by
 unfold getV
 split
 ·omega
 ·split
  ·omega
  ·have h1 := nat256_lt ((l.drop a.toNat).take (2 : Int).toNat)
   have h2 : 256 ^ ((l.drop a.toNat).take (2 : Int).toNat).length ≤ 256 ^ 2 := Nat.pow_le_pow_right (by omega) (by rw [List.length_take]; omega)
   omega
def openE (l : List UInt8) : Int := if l.length < 60 then 5 else if 1514 < l.length then 2 else if kindOf l < 1536 then 30 else 0
theorem bc6 {l : List UInt8} {k : Nat} (h : k + 6 ≤ l.length) : bc ((l.drop k).take 6) = macC (macOf l k) := by
 have e : (l.drop k).take 6 = [l.getD k 0, l.getD (k + 1) 0, l.getD (k + 2) 0, l.getD (k + 3) 0, l.getD (k + 4) 0, l.getD (k + 5) 0] := by
  apply List.ext_getElem?
  intro i
  rw [List.getElem?_take]
  have gd : ∀ j, j < l.length → l[j]? = some (l.getD j 0) := fun j hj => by
   rw [List.getD_eq_getElem?_getD, List.getElem?_eq_getElem hj]; rfl
  match i with
  | 0 => rw [if_pos (by omega), List.getElem?_drop]; exact gd _ (by omega)
  | 1 => rw [if_pos (by omega), List.getElem?_drop]; exact gd _ (by omega)
  | 2 => rw [if_pos (by omega), List.getElem?_drop]; exact gd _ (by omega)
  | 3 => rw [if_pos (by omega), List.getElem?_drop]; exact gd _ (by omega)
  | 4 => rw [if_pos (by omega), List.getElem?_drop]; exact gd _ (by omega)
  | 5 => rw [if_pos (by omega), List.getElem?_drop]; exact gd _ (by omega)
  | i + 6 => rw [if_neg (by omega)]; rfl
 rw [e]; rfl
theorem c_fopen {l : List UInt8} {x : Sl} {h : Hp} {K : Int → Int → Int → Int → Int → Int → Int → Int → Int → Int → Int → Int → Int → Sl → Int → Hp → Prop} (hr : RdB h x l) (hl : l.length ≤ 1099511627776)
  (hbad : openE l ≠ 0 → ∀ h', Ext none' h h' → K 0 0 0 0 0 0 0 0 0 0 0 0 0 ⟨none, 0, 0⟩ (openE l) h')
  (hok : openE l = 0 → ∀ h' y, NewO h h' 5 1 y (bc (l.drop 14)) → K (macOf l 0).a (macOf l 0).b (macOf l 0).c (macOf l 0).d (macOf l 0).e (macOf l 0).f (macOf l 6).a (macOf l 6).b (macOf l 6).c (macOf l 6).d (macOf l 6).e (macOf l 6).f (kindOf l) y 0 h') :
  C63 x h K := by
 apply S63; unfold N63
 have xn := hr.n
 have xc := hr.c
 have hs0 : Sat ([] ++ [Hw.was h]) h := Sat.start
 refine hs0.nw ?_
 intro z h1 g0 _
 have g : Sat ([] ++ [Hw.was h, row z 110 (frC ⟨0, 0, 0, 0, 0, 0⟩ ⟨0, 0, 0, 0, 0, 0⟩ 0 ⟨none, 0, 0⟩)]) h1 := g0
 clear g0
 have was_ : ∀ {M : List Asn} {h' : Hp}, Sat ([] ++ (Hw.was h :: M)) h' → Ext none' h h' := fun g => g.was 0 rfl
 by_cases k1 : l.length < 60
 ·rw [show decide (((x.n : Nat) : Int) < 60) = true from decide_eq_true (by omega), cond_true]
  have he : openE l = 5 := by unfold openE; rw [if_pos k1]
  rw [he] at hbad
  have hs := g
  unfold frC at hs
  simp only [add_bk]
  repeat (first | (refine Sat.nw hs ?_; intro _ _ hs _; simp only [List.cons_append, List.nil_append] at hs) | (refine Sat.st hs 0 rfl (by simp) rfl ?_; intro _ hs; simp only [List.set_cons_zero, List.set_cons_succ] at hs) | (refine Sat.st hs 1 rfl (by simp) rfl ?_; intro _ hs; simp only [List.set_cons_zero, List.set_cons_succ] at hs) | (refine Sat.lI hs 0 rfl rfl ?_) | (refine Sat.lI hs 1 rfl rfl ?_) | (refine Sat.lL hs 0 rfl rfl ?_) | (refine Sat.lL hs 1 rfl rfl ?_) | (refine Sat.lP hs 0 rfl rfl ?_) | (refine Sat.lP hs 1 rfl rfl ?_) | (refine Sat.lB hs 0 rfl rfl ?_) | (refine Sat.lB hs 1 rfl rfl ?_) | (refine Sat.lS hs 0 rfl rfl ?_) | (refine Sat.lS hs 1 rfl rfl ?_) | (refine Sat.lM hs 0 rfl rfl ?_) | (refine Sat.lM hs 1 rfl rfl ?_) | (refine Sat.lA hs 0 rfl rfl ?_) | (refine Sat.lA hs 1 rfl rfl ?_) | (simp only [nn_some', add_bk]))
  exact hbad (by decide) _ (was_ hs)
 ·rw [show decide (((x.n : Nat) : Int) < 60) = false from decide_eq_false (by omega), cond_false]
  by_cases k2 : 1514 < l.length
  ·rw [show decide (((x.n : Nat) : Int) > 1514) = true from decide_eq_true (by omega), cond_true]
   have he : openE l = 2 := by unfold openE; rw [if_neg k1, if_pos k2]
   rw [he] at hbad
   have hs := g
   unfold frC at hs
   simp only [add_bk]
   repeat (first | (refine Sat.nw hs ?_; intro _ _ hs _; simp only [List.cons_append, List.nil_append] at hs) | (refine Sat.st hs 0 rfl (by simp) rfl ?_; intro _ hs; simp only [List.set_cons_zero, List.set_cons_succ] at hs) | (refine Sat.st hs 1 rfl (by simp) rfl ?_; intro _ hs; simp only [List.set_cons_zero, List.set_cons_succ] at hs) | (refine Sat.lI hs 0 rfl rfl ?_) | (refine Sat.lI hs 1 rfl rfl ?_) | (refine Sat.lL hs 0 rfl rfl ?_) | (refine Sat.lL hs 1 rfl rfl ?_) | (refine Sat.lP hs 0 rfl rfl ?_) | (refine Sat.lP hs 1 rfl rfl ?_) | (refine Sat.lB hs 0 rfl rfl ?_) | (refine Sat.lB hs 1 rfl rfl ?_) | (refine Sat.lS hs 0 rfl rfl ?_) | (refine Sat.lS hs 1 rfl rfl ?_) | (refine Sat.lM hs 0 rfl rfl ?_) | (refine Sat.lM hs 1 rfl rfl ?_) | (refine Sat.lA hs 0 rfl rfl ?_) | (refine Sat.lA hs 1 rfl rfl ?_) | (simp only [nn_some', add_bk]))
   exact hbad (by decide) _ (was_ hs)
  ·rw [show decide (((x.n : Nat) : Int) > 1514) = false from decide_eq_false (by omega), cond_false]
   refine c_get (hr.ext (was_ g)) (by omega) ?_
   rcases Nat.lt_or_ge (kindOf l) 1536 with k3 | k3
   ·rw [show decide (((getV l 12 2 : Nat) : Int) < 1536) = true from decide_eq_true (by unfold kindOf at k3; omega), cond_true]
    have he : openE l = 30 := by unfold openE; rw [if_neg k1, if_neg k2, if_pos k3]
    rw [he] at hbad
    have hs := g
    unfold frC at hs
    simp only [add_bk]
    repeat (first | (refine Sat.nw hs ?_; intro _ _ hs _; simp only [List.cons_append, List.nil_append] at hs) | (refine Sat.st hs 0 rfl (by simp) rfl ?_; intro _ hs; simp only [List.set_cons_zero, List.set_cons_succ] at hs) | (refine Sat.st hs 1 rfl (by simp) rfl ?_; intro _ hs; simp only [List.set_cons_zero, List.set_cons_succ] at hs) | (refine Sat.lI hs 0 rfl rfl ?_) | (refine Sat.lI hs 1 rfl rfl ?_) | (refine Sat.lL hs 0 rfl rfl ?_) | (refine Sat.lL hs 1 rfl rfl ?_) | (refine Sat.lP hs 0 rfl rfl ?_) | (refine Sat.lP hs 1 rfl rfl ?_) | (refine Sat.lB hs 0 rfl rfl ?_) | (refine Sat.lB hs 1 rfl rfl ?_) | (refine Sat.lS hs 0 rfl rfl ?_) | (refine Sat.lS hs 1 rfl rfl ?_) | (refine Sat.lM hs 0 rfl rfl ?_) | (refine Sat.lM hs 1 rfl rfl ?_) | (refine Sat.lA hs 0 rfl rfl ?_) | (refine Sat.lA hs 1 rfl rfl ?_) | (simp only [nn_some', add_bk]))
    exact hbad (by decide) _ (was_ hs)
   ·rw [show decide (((getV l 12 2 : Nat) : Int) < 1536) = false from decide_eq_false (by unfold kindOf at k3; omega), cond_false]
    have he : openE l = 0 := by unfold openE; rw [if_neg k1, if_neg k2, if_neg (by omega)]
    refine bd_nat (i := x.n) (by omega) ?_
    refine bd_nat (i := x.n) (by omega) ?_
    refine bd_nat (i := 14) (by omega) ?_
    have r0 : ∀ {h' : Hp} {c : Nat}, Ext none' h h' → x.n ≤ c → RdB h' ⟨x.p, x.n, c⟩ l := fun he hc => ⟨xn, hc, (hr.ext he).r⟩
    have r1 : RdB h1 ⟨sadr x.p x.n 14 1, x.n - 14, x.n - 14⟩ (l.drop 14) := by
     have := (r0 (was_ g) (Nat.le_refl _)).sub (lo := 14) (hi := x.n) (by omega) (by omega)
     rw [List.take_of_length_le (by rw [List.length_drop]; omega)] at this
     exact this
    refine c_bclone r1 (by rw [List.length_drop]; omega) fun y h2 hy => ?_
    have g2 := g.addNew hy
    refine Sat.nw g2 ?_
    intro z2 h3 g3 _
    have g3 : Sat ([] ++ [Hw.was h, row z 110 (frC ⟨0, 0, 0, 0, 0, 0⟩ ⟨0, 0, 0, 0, 0, 0⟩ 0 ⟨none, 0, 0⟩), Hw.own 5 1 y (bc (l.drop 14)), row z2 110 (frC ⟨0, 0, 0, 0, 0, 0⟩ ⟨0, 0, 0, 0, 0, 0⟩ 0 ⟨none, 0, 0⟩)]) h3 := g3
    have hs := g3
    unfold frC at hs
    simp only [add_bk]
    refine Sat.st hs 3 (k := 0) rfl (by simp) rfl fun h4 hs => ?_
    simp only [List.set_cons_zero, List.set_cons_succ] at hs
    refine Sat.st hs 3 rfl (by simp) rfl fun h4 hs => ?_
    simp only [List.set_cons_zero, List.set_cons_succ] at hs
    refine Sat.st hs 3 rfl (by simp) rfl fun h4 hs => ?_
    simp only [List.set_cons_zero, List.set_cons_succ] at hs
    refine Sat.st hs 3 rfl (by simp) rfl fun h4 hs => ?_
    simp only [List.set_cons_zero, List.set_cons_succ] at hs
    refine Sat.st hs 3 rfl (by simp) rfl fun h4 hs => ?_
    simp only [List.set_cons_zero, List.set_cons_succ] at hs
    refine Sat.st hs 3 rfl (by simp) rfl fun h4 hs => ?_
    simp only [List.set_cons_zero, List.set_cons_succ] at hs
    refine Sat.st hs 3 rfl (by simp) rfl fun h4 hs => ?_
    simp only [List.set_cons_zero, List.set_cons_succ] at hs
    refine Sat.st hs 3 rfl (by simp) rfl fun h4 hs => ?_
    simp only [List.set_cons_zero, List.set_cons_succ] at hs
    refine Sat.st hs 3 rfl (by simp) rfl fun h4 hs => ?_
    simp only [List.set_cons_zero, List.set_cons_succ] at hs
    refine Sat.st hs 3 rfl (by simp) rfl fun h4 hs => ?_
    simp only [List.set_cons_zero, List.set_cons_succ] at hs
    refine Sat.st hs 3 rfl (by simp) rfl fun h4 hs => ?_
    simp only [List.set_cons_zero, List.set_cons_succ] at hs
    refine Sat.st hs 3 rfl (by simp) rfl fun h4 hs => ?_
    simp only [List.set_cons_zero, List.set_cons_succ] at hs
    refine Sat.st hs 3 rfl (by simp) rfl fun h4 hs => ?_
    simp only [List.set_cons_zero, List.set_cons_succ] at hs
    refine Sat.st hs 3 rfl (by simp) rfl fun h4 hs => ?_
    simp only [List.set_cons_zero, List.set_cons_succ] at hs
    have ek : IntKind.wrap .i64 ((getV l 12 2 : Nat) : Int) = ((kindOf l : Nat) : Int) := by
     have := getV2_lt l 12
     unfold kindOf
     exact wi64i (by omega) (by omega)
    rw [ek] at hs
    have g4 : Sat ([] ++ [Hw.was h, row z 110 (frC ⟨0, 0, 0, 0, 0, 0⟩ ⟨0, 0, 0, 0, 0, 0⟩ 0 ⟨none, 0, 0⟩), Hw.own 5 1 y (bc (l.drop 14)), row z2 110 (frC ⟨0, 0, 0, 0, 0, 0⟩ ⟨0, 0, 0, 0, 0, 0⟩ (kindOf l) y)]) h4 := hs
    clear hs
    refine bd_nat (i := 6) (by omega) ?_
    refine bd_nat (i := 6) (by omega) ?_
    refine bd_nat (i := 0) (by omega) ?_
    simp only [sadr_zero]
    have m1 : RdB h4 ⟨x.p, 6, 6⟩ (l.take 6) := by
     have := (r0 (was_ g4) (Nat.le_refl _)).sub (lo := 0) (hi := 6) (by omega) (by omega)
     rw [sadr_zero, List.drop_zero] at this
     exact ⟨by show 6 = (l.take 6).length; rw [List.length_take]; omega, Nat.le_refl _, this.r⟩
    refine g4.cpRow (T2 := 110) (ns := bc (l.take 6)) (ln := 6) 3 rfl y_a (fun _ => rfl) (fun G hG => m1.srcK (n := 6) (by rw [List.length_take]; omega) (by rw [List.take_of_length_le (by rw [List.length_take]; omega)]; exact hG)) (by rw [bc_len, List.length_take]; simp; omega) (by rw [bc_len, List.length_take]; simp [frC]; omega) bc_plain ?_
    intro h5 g5
    have e0 := bc6 (l := l) (k := 0) (by omega)
    rw [List.drop_zero] at e0
    rw [e0] at g5
    have g5 : Sat ([] ++ [Hw.was h, row z 110 (frC ⟨0, 0, 0, 0, 0, 0⟩ ⟨0, 0, 0, 0, 0, 0⟩ 0 ⟨none, 0, 0⟩), Hw.own 5 1 y (bc (l.drop 14)), row z2 110 (frC (macOf l 0) ⟨0, 0, 0, 0, 0, 0⟩ (kindOf l) y)]) h5 := g5
    refine bd_nat (i := 12) (by omega) ?_
    refine bd_nat (i := 12) (by omega) ?_
    refine bd_nat (i := 6) (by omega) ?_
    have m2 : RdB h5 ⟨sadr x.p 12 6 1, 6, 6⟩ ((l.drop 6).take 6) := by
     have h12 : RdB h5 ⟨x.p, 12, 12⟩ (l.take 12) := by
      have := (r0 (was_ g5) (Nat.le_refl _)).sub (lo := 0) (hi := 12) (by omega) (by omega)
      rw [sadr_zero, List.drop_zero] at this
      exact ⟨by show 12 = (l.take 12).length; rw [List.length_take]; omega, Nat.le_refl _, this.r⟩
     have := h12.sub (lo := 6) (hi := 12) (by omega) (by rw [List.length_take]; omega)
     rw [List.drop_take, List.take_take] at this
     exact this
    refine g5.cpRow (T2 := 110) (ns := bc ((l.drop 6).take 6)) (ln := 6) 3 rfl y_a (fun _ => rfl) (fun G hG => m2.srcK (n := 6) (by rw [List.length_take, List.length_drop]; omega) (by rw [List.take_of_length_le (by rw [List.length_take]; omega)]; exact hG)) (by rw [bc_len, List.length_take, List.length_drop]; simp; omega) (by rw [bc_len, List.length_take, List.length_drop]; simp [frC]; omega) bc_plain ?_
    intro h6 g6
    rw [bc6 (l := l) (k := 6) (by omega)] at g6
    have g6 : Sat ([] ++ [Hw.was h, row z 110 (frC ⟨0, 0, 0, 0, 0, 0⟩ ⟨0, 0, 0, 0, 0, 0⟩ 0 ⟨none, 0, 0⟩), Hw.own 5 1 y (bc (l.drop 14)), row z2 110 (frC (macOf l 0) (macOf l 6) (kindOf l) y)]) h6 := g6
    have hs := g6
    unfold frC at hs
    refine Sat.lI hs 3 (k := 0) rfl rfl ?_
    refine Sat.lI hs 3 rfl rfl ?_
    refine Sat.lI hs 3 rfl rfl ?_
    refine Sat.lI hs 3 rfl rfl ?_
    refine Sat.lI hs 3 rfl rfl ?_
    refine Sat.lI hs 3 rfl rfl ?_
    refine Sat.lI hs 3 rfl rfl ?_
    refine Sat.lI hs 3 rfl rfl ?_
    refine Sat.lI hs 3 rfl rfl ?_
    refine Sat.lI hs 3 rfl rfl ?_
    refine Sat.lI hs 3 rfl rfl ?_
    refine Sat.lI hs 3 rfl rfl ?_
    refine Sat.lI hs 3 rfl rfl ?_
    refine Sat.lL hs 3 rfl rfl ?_
    refine Sat.st hs 1 (k := 0) rfl (by simp) rfl fun h7 hs => ?_
    simp only [List.set_cons_zero, List.set_cons_succ] at hs
    refine Sat.st hs 1 rfl (by simp) rfl fun h7 hs => ?_
    simp only [List.set_cons_zero, List.set_cons_succ] at hs
    refine Sat.st hs 1 rfl (by simp) rfl fun h7 hs => ?_
    simp only [List.set_cons_zero, List.set_cons_succ] at hs
    refine Sat.st hs 1 rfl (by simp) rfl fun h7 hs => ?_
    simp only [List.set_cons_zero, List.set_cons_succ] at hs
    refine Sat.st hs 1 rfl (by simp) rfl fun h7 hs => ?_
    simp only [List.set_cons_zero, List.set_cons_succ] at hs
    refine Sat.st hs 1 rfl (by simp) rfl fun h7 hs => ?_
    simp only [List.set_cons_zero, List.set_cons_succ] at hs
    refine Sat.st hs 1 rfl (by simp) rfl fun h7 hs => ?_
    simp only [List.set_cons_zero, List.set_cons_succ] at hs
    refine Sat.st hs 1 rfl (by simp) rfl fun h7 hs => ?_
    simp only [List.set_cons_zero, List.set_cons_succ] at hs
    refine Sat.st hs 1 rfl (by simp) rfl fun h7 hs => ?_
    simp only [List.set_cons_zero, List.set_cons_succ] at hs
    refine Sat.st hs 1 rfl (by simp) rfl fun h7 hs => ?_
    simp only [List.set_cons_zero, List.set_cons_succ] at hs
    refine Sat.st hs 1 rfl (by simp) rfl fun h7 hs => ?_
    simp only [List.set_cons_zero, List.set_cons_succ] at hs
    refine Sat.st hs 1 rfl (by simp) rfl fun h7 hs => ?_
    simp only [List.set_cons_zero, List.set_cons_succ] at hs
    refine Sat.st hs 1 rfl (by simp) rfl fun h7 hs => ?_
    simp only [List.set_cons_zero, List.set_cons_succ] at hs
    refine Sat.st hs 1 rfl (by simp) rfl fun h7 hs => ?_
    simp only [List.set_cons_zero, List.set_cons_succ] at hs
    refine Sat.lI hs 1 (k := 0) rfl rfl ?_
    refine Sat.lI hs 1 rfl rfl ?_
    refine Sat.lI hs 1 rfl rfl ?_
    refine Sat.lI hs 1 rfl rfl ?_
    refine Sat.lI hs 1 rfl rfl ?_
    refine Sat.lI hs 1 rfl rfl ?_
    refine Sat.lI hs 1 rfl rfl ?_
    refine Sat.lI hs 1 rfl rfl ?_
    refine Sat.lI hs 1 rfl rfl ?_
    refine Sat.lI hs 1 rfl rfl ?_
    refine Sat.lI hs 1 rfl rfl ?_
    refine Sat.lI hs 1 rfl rfl ?_
    refine Sat.lI hs 1 rfl rfl ?_
    refine Sat.lL hs 1 rfl rfl ?_
    have g8 : Sat ([] ++ [Hw.was h, Hw.own 5 1 y (bc (l.drop 14))]) _ := hs.sel [0, 2] (by decide) rfl
    exact hok he _ _ (g8.newO 0 1 rfl rfl (by omega))
end Go.Proofs.YtbbnpmikjdgdpaaGreat

set_option linter.unusedVariables false
set_option maxRecDepth 100000
namespace Go.Proofs.YtbbnpmikjdgdpaaGreat
open Go Go.Hw
noncomputable def B33 : Code := match Tryz.f33.body with | some c => c | none => .skip
def N33 (x0 x1 : Int) (x2 : Sl) (h : Hp) (K : Sl → Hp → Prop) : Prop :=
 C31 (IntKind.wrap .u64 x0) 4 h fun s0 h0 =>
 C31 (IntKind.wrap .u64 x1) 4 h0 fun s1 h1 =>
 nw h1 (.cells ⟨[.int .u8 0, .int .u8 17]⟩ 5) fun b0 h2 =>
 C31 (IntKind.wrap .u64 ((x2.n : Nat) : Int)) 2 h2 fun s2 h3 =>
 nw h3 (.cells ⟨[.slice s0.p s0.n s0.c, .slice s1.p s1.n s1.c, .slice (some (bk b0)) 2 2, .slice s2.p s2.n s2.c]⟩ 32) fun b1 h4 =>
 apK Tryz.prog 32 ⟨none, 0, 0⟩ (.slice (some (bk b1)) 4 4) h4 fun s3 h5 =>
 nw h5 (.cells ⟨[.slice x2.p x2.n x2.c]⟩ 32) fun b2 h6 =>
 apK Tryz.prog 32 s3 (.slice (some (bk b2)) 1 1) h6 fun s4 h7 =>
 K s4 h7
theorem S33 {x0 x1 : Int} {x2 : Sl} {h : Hp} {K : Sl → Hp → Prop} (hn : N33 x0 x1 x2 h K) : C33 x0 x1 x2 h K := by
 refine calls_of_D Tryz.func33 (c := B33) rfl (by kernel_rfl) ?_
 refine den_sound hE hm _ .leaf _ _ _ (annOk_leaf) ?_
 refine cast ?_ hn
 kernel_rfl
end Go.Proofs.YtbbnpmikjdgdpaaGreat

set_option linter.unusedVariables false
set_option maxRecDepth 100000
namespace Go.Proofs.YtbbnpmikjdgdpaaGreat
open Go Go.Hw
noncomputable def B15 : Code := match Tryz.f15.body with | some c => c | none => .skip
def N15_j0 (x0 x1 : Int) (x5 : Option Addr) (x10 : Bool) (h : Hp) (Kn : Hp → Prop) (Kr : Sl → Int → Hp → Prop) : Prop :=
 bif x10 then
 Kr ⟨none, 0, 0⟩ 1 h
 else
 nn x5 fun a0 =>
 xI .i64 (cell h (a0.add 1)) fun n0 =>
 bif (n0 == 0) then
 Kr ⟨none, 0, 0⟩ 120 h
 else
 nn x5 fun a1 =>
 xL (cell h (a1.add 2)) fun s0 =>
 bif (decide (((s0.n : Nat) : Int) > 1472)) then
 Kr ⟨none, 0, 0⟩ 2 h
 else
 Kn h
noncomputable def N15_j0_t : Xf := pieceT [(0, .c (.int .u32)), (1, .c (.int .u32)), (5, .c (.ptr)), (10, .c (.bool))] (codeAt B15 [1, 0, 0, 1]) fun x h Q => N15_j0 x.1 x.2.1 x.2.2.1 x.2.2.2 h (fun h' => Q .normal (Sg.env [] ()) h') (fun o0 o1 h' => Q .ret (Sg.env [(6, .c (.slice)), (7, .c (.int .i64))] (o0, o1)) h')
theorem N15_j0_ok : Sound Tryz.prog Tryz.f15.ntmps N15_j0_t (codeAt B15 [1, 0, 0, 1]) := by
 refine piece_sound (fun e => match e with | .normal => [] | .ret => [6, 7] | _ => []) ?_
 intro x h Q hb
 refine den_sound hE hm _ .leaf _ _ _ (annOk_leaf) ?_
 refine cast ?_ hb
 kernel_rfl
def N15_j2 (x8 : Sl) (x9 : Int) (h : Hp) (Kr : Sl → Int → Hp → Prop) : Prop :=
 bd 6 x8.n fun k0 =>
 C31 (IntKind.wrap .u64 x9) 2 h fun s0 h0 =>
 cpK Tryz.prog 5 ⟨sadr x8.p x8.c k0 1, x8.n - k0, x8.c - k0⟩ (.slice s0.p s0.n s0.c) h0 fun n0 h1 =>
 Kr x8 0 h1
noncomputable def N15_j2_t : Xf := pieceT [(8, .c (.slice)), (9, .c (.int .u16))] (codeAt B15 [1, 1, 1, 1, 1, 1, 1, 1, 1]) fun x h Q => N15_j2 x.1 x.2 h (fun o0 o1 h' => Q .ret (Sg.env [(6, .c (.slice)), (7, .c (.int .i64))] (o0, o1)) h')
theorem N15_j2_ok : Sound Tryz.prog Tryz.f15.ntmps N15_j2_t (codeAt B15 [1, 1, 1, 1, 1, 1, 1, 1, 1]) := by
 refine piece_sound (fun e => match e with | .ret => [6, 7] | _ => []) ?_
 intro x h Q hb
 refine den_sound hE hm _ (.two (.ord [0, 1, 2, 3, 4, 5]) .leaf) _ _ _ (⟨trivial, annOk_leaf⟩) ?_
 refine cast ?_ hb
 kernel_rfl
def N15_j1 (x0 x1 : Int) (x5 : Option Addr) (h : Hp) (Kr : Sl → Int → Hp → Prop) : Prop :=
 nn x5 fun a0 =>
 xL (cell h (a0.add 2)) fun s0 =>
 mkK Tryz.prog 5 (IntKind.wrap .i64 (8 + ((s0.n : Nat) : Int))) (IntKind.wrap .i64 (8 + ((s0.n : Nat) : Int))) h fun s1 h0 =>
 nn x5 fun a1 =>
 xI .i64 (cell h0 a1) fun n0 =>
 C31 (IntKind.wrap .u64 n0) 2 h0 fun s2 h1 =>
 cpK Tryz.prog 5 s1 (.slice s2.p s2.n s2.c) h1 fun n1 h2 =>
 bd 2 s1.n fun k0 =>
 nn x5 fun a2 =>
 xI .i64 (cell h2 (a2.add 1)) fun n2 =>
 C31 (IntKind.wrap .u64 n2) 2 h2 fun s3 h3 =>
 cpK Tryz.prog 5 ⟨sadr s1.p s1.c k0 1, s1.n - k0, s1.c - k0⟩ (.slice s3.p s3.n s3.c) h3 fun n3 h4 =>
 bd 4 s1.n fun k1 =>
 C31 (IntKind.wrap .u64 ((s1.n : Nat) : Int)) 2 h4 fun s4 h5 =>
 cpK Tryz.prog 5 ⟨sadr s1.p s1.c k1 1, s1.n - k1, s1.c - k1⟩ (.slice s4.p s4.n s4.c) h5 fun n4 h6 =>
 bd 8 s1.n fun k2 =>
 nn x5 fun a3 =>
 xL (cell h6 (a3.add 2)) fun s5 =>
 cpK Tryz.prog 5 ⟨sadr s1.p s1.c k2 1, s1.n - k2, s1.c - k2⟩ (.slice s5.p s5.n s5.c) h6 fun n5 h7 =>
 C33 x0 x1 s1 h7 fun s6 h8 =>
 C32 s6 h8 fun n6 h9 =>
 bif (n6 == 0) then
 N15_j2 s1 65535 h9
 (fun s7 n7 h10 =>
 Kr s7 n7 h10)
 else
 N15_j2 s1 n6 h9
 (fun s8 n8 h11 =>
 Kr s8 n8 h11)
noncomputable def N15_j1_t : Xf := pieceT [(0, .c (.int .u32)), (1, .c (.int .u32)), (5, .c (.ptr))] (codeAt B15 [1, 1]) fun x h Q => N15_j1 x.1 x.2.1 x.2.2 h (fun o0 o1 h' => Q .ret (Sg.env [(6, .c (.slice)), (7, .c (.int .i64))] (o0, o1)) h')
theorem N15_j1_ok : Sound Tryz.prog Tryz.f15.ntmps N15_j1_t (codeAt B15 [1, 1]) := by
 refine piece_sound (fun e => match e with | .ret => [6, 7] | _ => []) ?_
 intro x h Q hb
 refine den_sound hE hm _ (.two .leaf (.two .leaf (.two (.ord [0, 1, 2, 3, 4, 5, 6]) (.two (.ord [0, 1, 2, 3, 4, 5, 6]) (.two (.ord [0, 1, 2, 3, 4]) (.two .leaf (.two .leaf (.xf N15_j2_t)))))))) _ _ _ (⟨annOk_leaf, ⟨annOk_leaf, ⟨trivial, ⟨trivial, ⟨trivial, ⟨annOk_leaf, ⟨annOk_leaf, N15_j2_ok⟩⟩⟩⟩⟩⟩⟩) ?_
 refine cast ?_ hb
 kernel_rfl
def N15 (x0 x1 x2_0 x2_1 : Int) (x2_2 : Sl) (h : Hp) (K : Sl → Int → Hp → Prop) : Prop :=
 nw h (.cells ⟨[.int .i64 x2_0, .int .i64 x2_1, .slice x2_2.p x2_2.n x2_2.c]⟩ 34) fun b0 h0 =>
 xI .i64 (cell h0 (bk b0)) fun n0 =>
 bif (decide (n0 < 0)) then
 N15_j0 x0 x1 (some (bk b0)) true h0
 (fun h1 =>
 N15_j1 x0 x1 (some (bk b0)) h1
 (fun s0 n1 h2 =>
 K s0 n1 h2))
 (fun s1 n2 h3 =>
 K s1 n2 h3)
 else
 xI .i64 (cell h0 (bk b0)) fun n3 =>
 bif (decide (n3 > 65535)) then
 N15_j0 x0 x1 (some (bk b0)) true h0
 (fun h4 =>
 N15_j1 x0 x1 (some (bk b0)) h4
 (fun s2 n4 h5 =>
 K s2 n4 h5))
 (fun s3 n5 h6 =>
 K s3 n5 h6)
 else
 xI .i64 (cell h0 ((bk b0).add 1)) fun n6 =>
 bif (decide (n6 < 0)) then
 N15_j0 x0 x1 (some (bk b0)) true h0
 (fun h7 =>
 N15_j1 x0 x1 (some (bk b0)) h7
 (fun s4 n7 h8 =>
 K s4 n7 h8))
 (fun s5 n8 h9 =>
 K s5 n8 h9)
 else
 xI .i64 (cell h0 ((bk b0).add 1)) fun n9 =>
 N15_j0 x0 x1 (some (bk b0)) (decide (n9 > 65535)) h0
 (fun h10 =>
 N15_j1 x0 x1 (some (bk b0)) h10
 (fun s6 n10 h11 =>
 K s6 n10 h11))
 (fun s7 n11 h12 =>
 K s7 n11 h12)
theorem S15 {x0 x1 x2_0 x2_1 : Int} {x2_2 : Sl} {h : Hp} {K : Sl → Int → Hp → Prop} (hn : N15 x0 x1 x2_0 x2_1 x2_2 h K) : C15 x0 x1 x2_0 x2_1 x2_2 h K := by
 refine calls_of_D Tryz.func15 (c := B15) rfl (by kernel_rfl) ?_
 refine den_sound hE hm _ (.two .leaf (.two (.one (.two .leaf (.xf N15_j0_t))) (.xf N15_j1_t))) _ _ _ (⟨annOk_leaf, ⟨⟨annOk_leaf, N15_j0_ok⟩, N15_j1_ok⟩⟩) ?_
 refine cast ?_ hn
 kernel_rfl
end Go.Proofs.YtbbnpmikjdgdpaaGreat
