/- Texts of a walk over heaps, printed by program and by hand: lemmas for the law that is proved in this claim. No condition. -/
import Derived.Test.YtkfccpabigikkaaProg
import Derived.Test.YtkfccpabigikkaaPc
import Derived.Sort.AssemblyPlain
set_option linter.unusedSimpArgs false
set_option linter.unusedVariables false
set_option maxRecDepth 100000
namespace Go.Proofs.Ytkfccpabigikkaa
open Go Go.Hw
def E : Nat → Bool := fun f => Nat.blt 2 f && Nat.blt f 95
theorem hE : EnterOk Try.prog E := by
 have all : ∀ f ∈ List.range' 3 92, (!E f || match Try.prog.funcs[f]? with | some fn => !fn.body.isNone && !(fn.name == "runtime.NumGoroutine") | none => false) = true := by
  rw [← List.all_eq_true]
  kernel_rfl
 intro f h
 have hm : f ∈ List.range' 3 92 := by
  simp only [E, Bool.and_eq_true, Bool.or_eq_true, Nat.blt_eq] at h
  simp only [List.mem_range'_1]; omega
 have := all f hm
 rw [h] at this
 simp only [Bool.not_true, Bool.false_or] at this
 split at this
 ·rename_i fn hf
  simp only [Bool.and_eq_true, Bool.not_eq_true'] at this
  exact ⟨fn, hf, this.1, this.2⟩
 ·cases this
theorem hm : Try.prog.follows .mixedOrders = true := by kernel_rfl
def C5 (x0_0 : Int) (x0_1 : Int) (x0_2 : Int) (x0_3 : Int) (x0_4 : Int) (x0_5 : Int) (x1 : Int) (x2 : Sl) (h : Hp) (K : Bool → Hp → Prop) : Prop :=
 HCalls Try.prog 5 ⟨[.agg ⟨[.int .u8 x0_0, .int .u8 x0_1, .int .u8 x0_2, .int .u8 x0_3, .int .u8 x0_4, .int .u8 x0_5]⟩, .int .i64 x1, .slice x2.p x2.n x2.c]⟩ h fun v h' => VT.on (.c (.bool)) (some v) fun r => K r h'
def C6  (h : Hp) (K : Bool → Hp → Prop) : Prop :=
 HCalls Try.prog 6 ⟨[]⟩ h fun v h' => VT.on (.c (.bool)) (some v) fun r => K r h'
def C7 (x0_0 : Int) (x0_1 : Int) (x0_2 : Int) (x0_3 : Int) (x0_4 : Int) (x0_5 : Int) (x1 : Int) (h : Hp) (K : Option Addr → Hp → Prop) : Prop :=
 HCalls Try.prog 7 ⟨[.agg ⟨[.int .u8 x0_0, .int .u8 x0_1, .int .u8 x0_2, .int .u8 x0_3, .int .u8 x0_4, .int .u8 x0_5]⟩, .int .i64 x1]⟩ h fun v h' => VT.on (.c (.ptr)) (some v) fun r => K r h'
def C12 (x0 : Option Addr) (x1 : Int) (x2 : Int) (x3 : Sl) (x4 : Int) (h : Hp) (K : Sl → Hp → Prop) : Prop :=
 HCalls Try.prog 12 ⟨[.pointer x0, .int .u32 x1, .int .u32 x2, .slice x3.p x3.n x3.c, .int .i64 x4]⟩ h fun v h' => VT.on (.c (.slice)) (some v) fun r => K r h'
def C13 (x0 : Int) (x1 : Int) (h : Hp) (K : Sl → Hp → Prop) : Prop :=
 HCalls Try.prog 13 ⟨[.int .u64 x0, .int .i64 x1]⟩ h fun v h' => VT.on (.c (.slice)) (some v) fun r => K r h'
def C14 (x0 : Option Addr) (x1 : Int) (h : Hp) (K : Int → Hp → Prop) : Prop :=
 HCalls Try.prog 14 ⟨[.pointer x0, .int .u32 x1]⟩ h fun v h' => VT.on (.c (.int .i64)) (some v) fun r => K r h'
def C15 (x0 : Option Addr) (x1 : Sl) (x2 : Int) (x3 : Int) (h : Hp) (K : Bool → Hp → Prop) : Prop :=
 HCalls Try.prog 15 ⟨[.pointer x0, .slice x1.p x1.n x1.c, .int .i64 x2, .int .u32 x3]⟩ h fun v h' => VT.on (.c (.bool)) (some v) fun r => K r h'
def C16 (x0_0 : Int) (x0_1 : Int) (x0_2 : Int) (x0_3 : Int) (x0_4 : Int) (x0_5 : Int) (h : Hp) (K : Bool → Hp → Prop) : Prop :=
 HCalls Try.prog 16 ⟨[.agg ⟨[.int .u8 x0_0, .int .u8 x0_1, .int .u8 x0_2, .int .u8 x0_3, .int .u8 x0_4, .int .u8 x0_5]⟩]⟩ h fun v h' => VT.on (.c (.bool)) (some v) fun r => K r h'
def C17 (x0 : Option Addr) (x1_0 : Int) (x1_1 : Int) (x1_2 : Int) (x1_3 : Int) (x1_4 : Int) (x1_5 : Int) (x1_6 : Int) (x1_7 : Int) (x1_8 : Int) (x1_9 : Int) (x1_10 : Int) (x1_11 : Int) (x1_12 : Int) (x1_13 : Int) (x1_14 : Int) (h : Hp) (K : Hp → Prop) : Prop :=
 HCalls Try.prog 17 ⟨[.pointer x0, .agg ⟨[.int .i64 x1_0, .int .u8 x1_1, .int .u8 x1_2, .int .u8 x1_3, .int .u8 x1_4, .int .u8 x1_5, .int .u8 x1_6, .int .u32 x1_7, .int .u8 x1_8, .int .u8 x1_9, .int .u8 x1_10, .int .u8 x1_11, .int .u8 x1_12, .int .u8 x1_13, .int .u32 x1_14]⟩]⟩ h fun _ h' => K h'
def C18 (x0 : Option Addr) (x1_0 : Int) (x1_1 : Int) (x1_2 : Int) (x1_3 : Int) (x1_4 : Int) (x1_5 : Int) (x1_6 : Int) (x1_7 : Int) (x1_8 : Int) (x1_9 : Int) (x1_10 : Int) (x1_11 : Int) (x1_12 : Int) (x1_13 : Int) (x1_14 : Int) (x2 : Int) (x3 : Int) (h : Hp) (K : Sl → Hp → Prop) : Prop :=
 HCalls Try.prog 18 ⟨[.pointer x0, .agg ⟨[.int .i64 x1_0, .int .u8 x1_1, .int .u8 x1_2, .int .u8 x1_3, .int .u8 x1_4, .int .u8 x1_5, .int .u8 x1_6, .int .u32 x1_7, .int .u8 x1_8, .int .u8 x1_9, .int .u8 x1_10, .int .u8 x1_11, .int .u8 x1_12, .int .u8 x1_13, .int .u32 x1_14]⟩, .int .u32 x2, .int .i64 x3]⟩ h fun v h' => VT.on (.c (.slice)) (some v) fun r => K r h'
def C19 (x0 : Option Addr) (x1 : Int) (h : Hp) (K : Sl → Hp → Prop) : Prop :=
 HCalls Try.prog 19 ⟨[.pointer x0, .int .i64 x1]⟩ h fun v h' => VT.on (.c (.slice)) (some v) fun r => K r h'
def C20 (x0 : Option Addr) (h : Hp) (K : Hp → Prop) : Prop :=
 HCalls Try.prog 20 ⟨[.pointer x0]⟩ h fun _ h' => K h'
def C21 (x0 : Option Addr) (h : Hp) (K : Sl → Hp → Prop) : Prop :=
 HCalls Try.prog 21 ⟨[.pointer x0]⟩ h fun v h' => VT.on (.c (.slice)) (some v) fun r => K r h'
def C37 (x0 : Option Addr) (x1 : Int) (h : Hp) (K : Hp → Prop) : Prop :=
 HCalls Try.prog 37 ⟨[.pointer x0, .int .i64 x1]⟩ h fun _ h' => K h'
def C38 (x0 : Option Addr) (h : Hp) (K : Bool → Hp → Prop) : Prop :=
 HCalls Try.prog 38 ⟨[.pointer x0]⟩ h fun v h' => VT.on (.c (.bool)) (some v) fun r => K r h'
def C39 (x0 : Sl) (h : Hp) (K : Sl → Hp → Prop) : Prop :=
 HCalls Try.prog 39 ⟨[.slice x0.p x0.n x0.c]⟩ h fun v h' => VT.on (.c (.slice)) (some v) fun r => K r h'
def C40 (x0 : Option Addr) (h : Hp) (K : Bool → Hp → Prop) : Prop :=
 HCalls Try.prog 40 ⟨[.pointer x0]⟩ h fun v h' => VT.on (.c (.bool)) (some v) fun r => K r h'
def C41 (x0 : Option Addr) (x1 : Int) (h : Hp) (K : Int → Hp → Prop) : Prop :=
 HCalls Try.prog 41 ⟨[.pointer x0, .int .i64 x1]⟩ h fun v h' => VT.on (.c (.int .i64)) (some v) fun r => K r h'
def C42 (x0 : Option Addr) (x1 : Int) (x2 : Option Addr) (h : Hp) (K : Int → Int → Int → Int → Int → Int → Int → Sl → Hp → Prop) : Prop :=
 HCalls Try.prog 42 ⟨[.pointer x0, .int .u32 x1, .pointer x2]⟩ h fun v h' => VT.on (.agg [.int .u8, .int .u8, .int .u8, .int .u8, .int .u8, .int .u8, .int .i64, .slice]) (some v) fun r => K r.1 r.2.1 r.2.2.1 r.2.2.2.1 r.2.2.2.2.1 r.2.2.2.2.2.1 r.2.2.2.2.2.2.1 r.2.2.2.2.2.2.2 h'
def C43 (x0 : Sl) (h : Hp) (K : Int → Int → Int → Int → Int → Int → Int → Int → Int → Int → Int → Int → Int → Int → Int → Int → Hp → Prop) : Prop :=
 HCalls Try.prog 43 ⟨[.slice x0.p x0.n x0.c]⟩ h fun v h' => tupOn [.agg [.int .i64, .int .u8, .int .u8, .int .u8, .int .u8, .int .u8, .int .u8, .int .u32, .int .u8, .int .u8, .int .u8, .int .u8, .int .u8, .int .u8, .int .u32], .c (.int .i64)] v fun r => K r.1.1 r.1.2.1 r.1.2.2.1 r.1.2.2.2.1 r.1.2.2.2.2.1 r.1.2.2.2.2.2.1 r.1.2.2.2.2.2.2.1 r.1.2.2.2.2.2.2.2.1 r.1.2.2.2.2.2.2.2.2.1 r.1.2.2.2.2.2.2.2.2.2.1 r.1.2.2.2.2.2.2.2.2.2.2.1 r.1.2.2.2.2.2.2.2.2.2.2.2.1 r.1.2.2.2.2.2.2.2.2.2.2.2.2.1 r.1.2.2.2.2.2.2.2.2.2.2.2.2.2.1 r.1.2.2.2.2.2.2.2.2.2.2.2.2.2.2 r.2 h'
def C44 (x0 : Sl) (x1 : Int) (x2 : Int) (h : Hp) (K : Int → Int → Hp → Prop) : Prop :=
 HCalls Try.prog 44 ⟨[.slice x0.p x0.n x0.c, .int .i64 x1, .int .i64 x2]⟩ h fun v h' => tupOn [.c (.int .u64), .c (.int .i64)] v fun r => K r.1 r.2 h'
def C45 (x0 : Option Addr) (x1 : Int) (h : Hp) (K : Hp → Prop) : Prop :=
 HCalls Try.prog 45 ⟨[.pointer x0, .int .i64 x1]⟩ h fun _ h' => K h'
def C46 (x0_0 : Int) (x0_1 : Int) (x0_2 : Int) (x0_3 : Int) (x0_4 : Int) (x0_5 : Int) (h : Hp) (K : Bool → Hp → Prop) : Prop :=
 HCalls Try.prog 46 ⟨[.agg ⟨[.int .u8 x0_0, .int .u8 x0_1, .int .u8 x0_2, .int .u8 x0_3, .int .u8 x0_4, .int .u8 x0_5]⟩]⟩ h fun v h' => VT.on (.c (.bool)) (some v) fun r => K r h'
def C47 (x0 : Int) (h : Hp) (K : Bool → Hp → Prop) : Prop :=
 HCalls Try.prog 47 ⟨[.int .u32 x0]⟩ h fun v h' => VT.on (.c (.bool)) (some v) fun r => K r h'
def C48 (x0 : Option Addr) (x1_0 : Int) (x1_1 : Int) (x1_2 : Int) (x1_3 : Int) (x1_4 : Int) (x1_5 : Int) (x1_6 : Int) (x1_7 : Int) (x1_8 : Int) (x1_9 : Int) (x1_10 : Int) (x1_11 : Int) (x1_12 : Int) (x1_13 : Int) (x1_14 : Int) (x2 : Bool) (h : Hp) (K : Sl → Hp → Prop) : Prop :=
 HCalls Try.prog 48 ⟨[.pointer x0, .agg ⟨[.int .i64 x1_0, .int .u8 x1_1, .int .u8 x1_2, .int .u8 x1_3, .int .u8 x1_4, .int .u8 x1_5, .int .u8 x1_6, .int .u32 x1_7, .int .u8 x1_8, .int .u8 x1_9, .int .u8 x1_10, .int .u8 x1_11, .int .u8 x1_12, .int .u8 x1_13, .int .u32 x1_14]⟩, .bool x2]⟩ h fun v h' => VT.on (.c (.slice)) (some v) fun r => K r h'
def C49 (x0_0 : Int) (x0_1 : Int) (x0_2 : Int) (x0_3 : Int) (x0_4 : Int) (x0_5 : Int) (x0_6 : Int) (x0_7 : Int) (x0_8 : Int) (x0_9 : Int) (x0_10 : Int) (x0_11 : Int) (x0_12 : Int) (x0_13 : Int) (x0_14 : Int) (h : Hp) (K : Sl → Int → Hp → Prop) : Prop :=
 HCalls Try.prog 49 ⟨[.agg ⟨[.int .i64 x0_0, .int .u8 x0_1, .int .u8 x0_2, .int .u8 x0_3, .int .u8 x0_4, .int .u8 x0_5, .int .u8 x0_6, .int .u32 x0_7, .int .u8 x0_8, .int .u8 x0_9, .int .u8 x0_10, .int .u8 x0_11, .int .u8 x0_12, .int .u8 x0_13, .int .u32 x0_14]⟩]⟩ h fun v h' => tupOn [.c (.slice), .c (.int .i64)] v fun r => K r.1 r.2 h'
def C50 (x0_0 : Int) (x0_1 : Int) (x0_2 : Int) (x0_3 : Int) (x0_4 : Int) (x0_5 : Int) (x1_0 : Int) (x1_1 : Int) (x1_2 : Int) (x1_3 : Int) (x1_4 : Int) (x1_5 : Int) (x1_6 : Int) (x1_7 : Int) (x1_8 : Int) (x1_9 : Int) (x1_10 : Int) (x1_11 : Int) (x1_12 : Int) (x1_13 : Int) (x1_14 : Int) (h : Hp) (K : Int → Int → Int → Int → Int → Int → Int → Int → Int → Int → Int → Int → Int → Int → Int → Hp → Prop) : Prop :=
 HCalls Try.prog 50 ⟨[.agg ⟨[.int .u8 x0_0, .int .u8 x0_1, .int .u8 x0_2, .int .u8 x0_3, .int .u8 x0_4, .int .u8 x0_5]⟩, .agg ⟨[.int .i64 x1_0, .int .u8 x1_1, .int .u8 x1_2, .int .u8 x1_3, .int .u8 x1_4, .int .u8 x1_5, .int .u8 x1_6, .int .u32 x1_7, .int .u8 x1_8, .int .u8 x1_9, .int .u8 x1_10, .int .u8 x1_11, .int .u8 x1_12, .int .u8 x1_13, .int .u32 x1_14]⟩]⟩ h fun v h' => VT.on (.agg [.int .i64, .int .u8, .int .u8, .int .u8, .int .u8, .int .u8, .int .u8, .int .u32, .int .u8, .int .u8, .int .u8, .int .u8, .int .u8, .int .u8, .int .u32]) (some v) fun r => K r.1 r.2.1 r.2.2.1 r.2.2.2.1 r.2.2.2.2.1 r.2.2.2.2.2.1 r.2.2.2.2.2.2.1 r.2.2.2.2.2.2.2.1 r.2.2.2.2.2.2.2.2.1 r.2.2.2.2.2.2.2.2.2.1 r.2.2.2.2.2.2.2.2.2.2.1 r.2.2.2.2.2.2.2.2.2.2.2.1 r.2.2.2.2.2.2.2.2.2.2.2.2.1 r.2.2.2.2.2.2.2.2.2.2.2.2.2.1 r.2.2.2.2.2.2.2.2.2.2.2.2.2.2 h'
def C51 (x0 : Option Addr) (h : Hp) (K : Sl → Hp → Prop) : Prop :=
 HCalls Try.prog 51 ⟨[.pointer x0]⟩ h fun v h' => VT.on (.c (.slice)) (some v) fun r => K r h'
def C64 (x0_0 : Int) (x0_1 : Int) (x0_2 : Int) (x0_3 : Int) (x0_4 : Int) (x0_5 : Int) (x1 : Int) (x2 : Int) (h : Hp) (K : Int → Int → Int → Int → Int → Int → Int → Int → Int → Int → Int → Int → Int → Int → Int → Hp → Prop) : Prop :=
 HCalls Try.prog 64 ⟨[.agg ⟨[.int .u8 x0_0, .int .u8 x0_1, .int .u8 x0_2, .int .u8 x0_3, .int .u8 x0_4, .int .u8 x0_5]⟩, .int .u32 x1, .int .u32 x2]⟩ h fun v h' => VT.on (.agg [.int .i64, .int .u8, .int .u8, .int .u8, .int .u8, .int .u8, .int .u8, .int .u32, .int .u8, .int .u8, .int .u8, .int .u8, .int .u8, .int .u8, .int .u32]) (some v) fun r => K r.1 r.2.1 r.2.2.1 r.2.2.2.1 r.2.2.2.2.1 r.2.2.2.2.2.1 r.2.2.2.2.2.2.1 r.2.2.2.2.2.2.2.1 r.2.2.2.2.2.2.2.2.1 r.2.2.2.2.2.2.2.2.2.1 r.2.2.2.2.2.2.2.2.2.2.1 r.2.2.2.2.2.2.2.2.2.2.2.1 r.2.2.2.2.2.2.2.2.2.2.2.2.1 r.2.2.2.2.2.2.2.2.2.2.2.2.2.1 r.2.2.2.2.2.2.2.2.2.2.2.2.2.2 h'
def C65  (h : Hp) (K : Int → Int → Int → Int → Int → Int → Hp → Prop) : Prop :=
 HCalls Try.prog 65 ⟨[]⟩ h fun v h' => VT.on (.agg [.int .u8, .int .u8, .int .u8, .int .u8, .int .u8, .int .u8]) (some v) fun r => K r.1 r.2.1 r.2.2.1 r.2.2.2.1 r.2.2.2.2.1 r.2.2.2.2.2 h'
def C66  (h : Hp) (K : Sl → Hp → Prop) : Prop :=
 HCalls Try.prog 66 ⟨[]⟩ h fun v h' => VT.on (.c (.slice)) (some v) fun r => K r h'
def C67 (x0 : Sl) (x1 : Int) (h : Hp) (K : Int → Int → Int → Int → Int → Int → Hp → Prop) : Prop :=
 HCalls Try.prog 67 ⟨[.slice x0.p x0.n x0.c, .int .i64 x1]⟩ h fun v h' => VT.on (.agg [.int .u8, .int .u8, .int .u8, .int .u8, .int .u8, .int .u8]) (some v) fun r => K r.1 r.2.1 r.2.2.1 r.2.2.2.1 r.2.2.2.2.1 r.2.2.2.2.2 h'
def C68 (x0 : Sl) (x1 : Int) (h : Hp) (K : Int → Hp → Prop) : Prop :=
 HCalls Try.prog 68 ⟨[.slice x0.p x0.n x0.c, .int .i64 x1]⟩ h fun v h' => VT.on (.c (.int .u32)) (some v) fun r => K r h'
def C69  (h : Hp) (K : Int → Int → Int → Int → Int → Int → Hp → Prop) : Prop :=
 HCalls Try.prog 69 ⟨[]⟩ h fun v h' => VT.on (.agg [.int .u8, .int .u8, .int .u8, .int .u8, .int .u8, .int .u8]) (some v) fun r => K r.1 r.2.1 r.2.2.1 r.2.2.2.1 r.2.2.2.2.1 r.2.2.2.2.2 h'
def C70 (x0 : Int) (x1 : Int) (h : Hp) (K : Sl → Hp → Prop) : Prop :=
 HCalls Try.prog 70 ⟨[.int .u64 x0, .int .i64 x1]⟩ h fun v h' => VT.on (.c (.slice)) (some v) fun r => K r h'
def C71 (x0 : Sl) (h : Hp) (K : Hp → Prop) : Prop :=
 HCalls Try.prog 71 ⟨[.slice x0.p x0.n x0.c]⟩ h fun _ h' => K h'
def C75 (x0 : Sl) (x1 : Int) (x2 : Int) (x3 : Int) (h : Hp) (K : Hp → Prop) : Prop :=
 HCalls Try.prog 75 ⟨[.slice x0.p x0.n x0.c, .int .i64 x1, .int .i64 x2, .int .i64 x3]⟩ h fun _ h' => K h'
def C76 (x0 : Int) (h : Hp) (K : Int → Hp → Prop) : Prop :=
 HCalls Try.prog 76 ⟨[.int .u64 x0]⟩ h fun v h' => VT.on (.c (.int .i64)) (some v) fun r => K r h'
def C77 (x0 : Sl) (x1 : Int) (x2 : Int) (h : Hp) (K : Hp → Prop) : Prop :=
 HCalls Try.prog 77 ⟨[.slice x0.p x0.n x0.c, .int .i64 x1, .int .i64 x2]⟩ h fun _ h' => K h'
def C78 (x0 : Sl) (x1 : Int) (x2 : Int) (h : Hp) (K : Hp → Prop) : Prop :=
 HCalls Try.prog 78 ⟨[.slice x0.p x0.n x0.c, .int .i64 x1, .int .i64 x2]⟩ h fun _ h' => K h'
def C79 (x0 : Sl) (x1 : Int) (x2 : Int) (h : Hp) (K : Hp → Prop) : Prop :=
 HCalls Try.prog 79 ⟨[.slice x0.p x0.n x0.c, .int .i64 x1, .int .i64 x2]⟩ h fun _ h' => K h'
def C80 (x0 : Sl) (x1 : Int) (x2 : Int) (h : Hp) (K : Int → Int → Hp → Prop) : Prop :=
 HCalls Try.prog 80 ⟨[.slice x0.p x0.n x0.c, .int .i64 x1, .int .i64 x2]⟩ h fun v h' => tupOn [.c (.int .i64), .c (.int .i64)] v fun r => K r.1 r.2 h'
def C81 (x0 : Sl) (x1 : Int) (x2 : Int) (h : Hp) (K : Hp → Prop) : Prop :=
 HCalls Try.prog 81 ⟨[.slice x0.p x0.n x0.c, .int .i64 x1, .int .i64 x2]⟩ h fun _ h' => K h'
def C82 (x0 : Sl) (x1 : Int) (x2 : Int) (h : Hp) (K : Bool → Hp → Prop) : Prop :=
 HCalls Try.prog 82 ⟨[.slice x0.p x0.n x0.c, .int .i64 x1, .int .i64 x2]⟩ h fun v h' => VT.on (.c (.bool)) (some v) fun r => K r h'
def C83 (x0 : Int) (x1 : Int) (h : Hp) (K : Bool → Hp → Prop) : Prop :=
 HCalls Try.prog 83 ⟨[.int .u32 x0, .int .u32 x1]⟩ h fun v h' => VT.on (.c (.bool)) (some v) fun r => K r h'
def C84 (x0 : Sl) (x1 : Int) (x2 : Int) (x3 : Int) (h : Hp) (K : Int → Hp → Prop) : Prop :=
 HCalls Try.prog 84 ⟨[.slice x0.p x0.n x0.c, .int .i64 x1, .int .i64 x2, .int .i64 x3]⟩ h fun v h' => VT.on (.c (.int .i64)) (some v) fun r => K r h'
def C85 (x0 : Sl) (x1 : Int) (x2 : Int) (x3 : Int) (h : Hp) (K : Int → Bool → Hp → Prop) : Prop :=
 HCalls Try.prog 85 ⟨[.slice x0.p x0.n x0.c, .int .i64 x1, .int .i64 x2, .int .i64 x3]⟩ h fun v h' => tupOn [.c (.int .i64), .c (.bool)] v fun r => K r.1 r.2 h'
def C87 (x0 : Int) (h : Hp) (K : Int → Hp → Prop) : Prop :=
 HCalls Try.prog 87 ⟨[.int .u64 x0]⟩ h fun v h' => VT.on (.c (.int .i64)) (some v) fun r => K r h'
def C88 (x0 : Sl) (x1 : Int) (x2 : Int) (x3 : Int) (h : Hp) (K : Hp → Prop) : Prop :=
 HCalls Try.prog 88 ⟨[.slice x0.p x0.n x0.c, .int .i64 x1, .int .i64 x2, .int .i64 x3]⟩ h fun _ h' => K h'
def C89 (x0 : Int) (h : Hp) (K : Int → Hp → Prop) : Prop :=
 HCalls Try.prog 89 ⟨[.int .i64 x0]⟩ h fun v h' => VT.on (.c (.int .u64)) (some v) fun r => K r h'
def C90 (x0 : Option Addr) (h : Hp) (K : Int → Hp → Prop) : Prop :=
 HCalls Try.prog 90 ⟨[.pointer x0]⟩ h fun v h' => VT.on (.c (.int .u64)) (some v) fun r => K r h'
def C91 (x0 : Sl) (x1 : Int) (x2 : Option Addr) (h : Hp) (K : Int → Hp → Prop) : Prop :=
 HCalls Try.prog 91 ⟨[.slice x0.p x0.n x0.c, .int .i64 x1, .pointer x2]⟩ h fun v h' => VT.on (.c (.int .i64)) (some v) fun r => K r h'
def C92 (x0 : Sl) (x1 : Int) (x2 : Int) (x3 : Int) (x4 : Option Addr) (h : Hp) (K : Int → Hp → Prop) : Prop :=
 HCalls Try.prog 92 ⟨[.slice x0.p x0.n x0.c, .int .i64 x1, .int .i64 x2, .int .i64 x3, .pointer x4]⟩ h fun v h' => VT.on (.c (.int .i64)) (some v) fun r => K r h'
def C93 (x0 : Int) (h : Hp) (K : Bool → Hp → Prop) : Prop :=
 HCalls Try.prog 93 ⟨[.int .u32 x0]⟩ h fun v h' => VT.on (.c (.bool)) (some v) fun r => K r h'
def C94 (x0 : Sl) (x1 : Int) (x2 : Int) (x3 : Option Addr) (h : Hp) (K : Int → Int → Hp → Prop) : Prop :=
 HCalls Try.prog 94 ⟨[.slice x0.p x0.n x0.c, .int .i64 x1, .int .i64 x2, .pointer x3]⟩ h fun v h' => tupOn [.c (.int .i64), .c (.int .i64)] v fun r => K r.1 r.2 h'
end Go.Proofs.Ytkfccpabigikkaa

set_option linter.unusedVariables false
set_option maxRecDepth 100000
namespace Go.Proofs.Ytkfccpabigikkaa
open Go Go.Hw
noncomputable def B47 : Code := match Try.f47.body with | some c => c | none => .skip
def N47 (x0 : Int) (h : Hp) (K : Bool → Hp → Prop) : Prop :=
 bif (decide ((Int.fdiv x0 (2 ^ 24)) > 0)) then
 bif (decide ((Int.fdiv x0 (2 ^ 24)) < 224)) then
 K ((Int.fdiv x0 (2 ^ 24)) != 127) h
 else
 K false h
 else
 K false h
theorem S47 {x0 : Int} {h : Hp} {K : Bool → Hp → Prop} (hn : N47 x0 h K) : C47 x0 h K := by
 refine calls_of_D Try.func47 (c := B47) rfl (by kernel_rfl) ?_
 refine den_sound hE hm _ .leaf _ _ _ (annOk_leaf) ?_
 refine cast ?_ hn
 kernel_rfl
end Go.Proofs.Ytkfccpabigikkaa

set_option linter.unusedVariables false
set_option maxRecDepth 100000
namespace Go.Proofs.Ytkfccpabigikkaa
open Go Go.Hw
end Go.Proofs.Ytkfccpabigikkaa

set_option linter.unusedVariables false
set_option maxRecDepth 100000
namespace Go.Proofs.Ytkfccpabigikkaa
open Go Go.Hw
noncomputable def B46 : Code := match Try.f46.body with | some c => c | none => .skip
def N46 (x0_0 x0_1 x0_2 x0_3 x0_4 x0_5 : Int) (h : Hp) (K : Bool → Hp → Prop) : Prop :=
 nw h (.cells ⟨[.int .u8 x0_0, .int .u8 x0_1, .int .u8 x0_2, .int .u8 x0_3, .int .u8 x0_4, .int .u8 x0_5]⟩ 24) fun b0 h0 =>
 xI .u8 (cell h0 (bk b0)) fun n0 =>
 K ((IntKind.wrap .u8 (BitVec.ofInt 8 n0 &&& BitVec.ofInt 8 1).toNat) == 1) h0
theorem S46 {x0_0 x0_1 x0_2 x0_3 x0_4 x0_5 : Int} {h : Hp} {K : Bool → Hp → Prop} (hn : N46 x0_0 x0_1 x0_2 x0_3 x0_4 x0_5 h K) : C46 x0_0 x0_1 x0_2 x0_3 x0_4 x0_5 h K := by
 refine calls_of_D Try.func46 (c := B46) rfl (by kernel_rfl) ?_
 refine den_sound hE hm _ .leaf _ _ _ (annOk_leaf) ?_
 refine cast ?_ hn
 kernel_rfl
end Go.Proofs.Ytkfccpabigikkaa

set_option linter.unusedVariables false
set_option maxRecDepth 100000
namespace Go.Proofs.Ytkfccpabigikkaa
open Go Go.Hw
noncomputable def B16 : Code := match Try.f16.body with | some c => c | none => .skip
def N16 (x0_0 x0_1 x0_2 x0_3 x0_4 x0_5 : Int) (h : Hp) (K : Bool → Hp → Prop) : Prop :=
 nw h (.cells ⟨[.int .u8 x0_0, .int .u8 x0_1, .int .u8 x0_2, .int .u8 x0_3, .int .u8 x0_4, .int .u8 x0_5]⟩ 24) fun b0 h0 =>
 xI .u8 (cell h0 (bk b0)) fun n0 =>
 K ((Int.tmod n0 2) == 1) h0
theorem S16 {x0_0 x0_1 x0_2 x0_3 x0_4 x0_5 : Int} {h : Hp} {K : Bool → Hp → Prop} (hn : N16 x0_0 x0_1 x0_2 x0_3 x0_4 x0_5 h K) : C16 x0_0 x0_1 x0_2 x0_3 x0_4 x0_5 h K := by
 refine calls_of_D Try.func16 (c := B16) rfl (by kernel_rfl) ?_
 refine den_sound hE hm _ .leaf _ _ _ (annOk_leaf) ?_
 refine cast ?_ hn
 kernel_rfl
end Go.Proofs.Ytkfccpabigikkaa

set_option linter.unusedVariables false
set_option maxRecDepth 100000
namespace Go.Proofs.Ytkfccpabigikkaa
open Go Go.Hw
noncomputable def B65 : Code := match Try.f65.body with | some c => c | none => .skip
def N65  (h : Hp) (K : Int → Int → Int → Int → Int → Int → Hp → Prop) : Prop :=
 nw h (.cells ⟨[.int .u8 0, .int .u8 0, .int .u8 0, .int .u8 0, .int .u8 0, .int .u8 0]⟩ 24) fun b0 h0 =>
 st h0 (bk b0) (.int .u8 255) fun h1 =>
 st h1 ((bk b0).add 1) (.int .u8 255) fun h2 =>
 st h2 ((bk b0).add 2) (.int .u8 255) fun h3 =>
 st h3 ((bk b0).add 3) (.int .u8 255) fun h4 =>
 st h4 ((bk b0).add 4) (.int .u8 255) fun h5 =>
 st h5 ((bk b0).add 5) (.int .u8 255) fun h6 =>
 xI .u8 (cell h6 (bk b0)) fun n0 =>
 xI .u8 (cell h6 ((bk b0).add 1)) fun n1 =>
 xI .u8 (cell h6 ((bk b0).add 2)) fun n2 =>
 xI .u8 (cell h6 ((bk b0).add 3)) fun n3 =>
 xI .u8 (cell h6 ((bk b0).add 4)) fun n4 =>
 xI .u8 (cell h6 ((bk b0).add 5)) fun n5 =>
 K n0 n1 n2 n3 n4 n5 h6
theorem S65 {h : Hp} {K : Int → Int → Int → Int → Int → Int → Hp → Prop} (hn : N65 h K) : C65 h K := by
 refine calls_of_M Try.func65 (c := B65) rfl (by kernel_rfl) ?_
 refine den_sound hE hm _ .leaf _ _ _ (annOk_leaf) ?_
 refine cast ?_ hn
 kernel_rfl
end Go.Proofs.Ytkfccpabigikkaa

set_option linter.unusedVariables false
set_option maxRecDepth 100000
namespace Go.Proofs.Ytkfccpabigikkaa
open Go Go.Hw
end Go.Proofs.Ytkfccpabigikkaa

/-
 Numbers of Go: what wraps, what bits do, in Lean's numbers.
-/
set_option linter.unusedSimpArgs false
set_option linter.unusedVariables false
namespace Go.Hw
open Go
theorem wu8 (x : Int) : IntKind.wrap .u8 x = x % 256 := by unfold IntKind.wrap; rfl
theorem wu32 (x : Int) : IntKind.wrap .u32 x = x % 4294967296 := by unfold IntKind.wrap; rfl
theorem wu64 (x : Int) : IntKind.wrap .u64 x = x % 18446744073709551616 := by unfold IntKind.wrap; rfl
theorem wu8i {x : Int} (h0 : 0 ≤ x) (h1 : x < 256) : IntKind.wrap .u8 x = x := by rw [wu8]; omega
theorem wu32i {x : Int} (h0 : 0 ≤ x) (h1 : x < 4294967296) : IntKind.wrap .u32 x = x := by rw [wu32]; omega
theorem wu64i {x : Int} (h0 : 0 ≤ x) (h1 : x < 18446744073709551616) : IntKind.wrap .u64 x = x := by rw [wu64]; omega
theorem wi64i {x : Int} (h0 : -9223372036854775808 ≤ x) (h1 : x < 9223372036854775808) : IntKind.wrap .i64 x = x := wrap_id h0 (by omega)
theorem bvn (w : Nat) (n : Nat) (h : n < 2 ^ w) : (BitVec.ofInt w (n : Int)).toNat = n := by
 rw [BitVec.toNat_ofInt]
 have h2 : ((n : Int)) % ((2 ^ w : Nat) : Int) = n := Int.emod_eq_of_lt (by omega) (by exact_mod_cast h)
 simp only [h2]; simp
theorem band_low {w : Nat} {x : Int} (k : Nat) (h0 : 0 ≤ x) (h1 : x < 2 ^ w) (hk : k ≤ w) : ((BitVec.ofInt w x &&& BitVec.ofInt w (2 ^ k - 1)).toNat : Int) = x % 2 ^ k := by
 obtain ⟨n, rfl⟩ := Int.eq_ofNat_of_zero_le h0
 have hn : n < 2 ^ w := by exact_mod_cast h1
 have hm : (2 ^ k - 1 : Int) = ((2 ^ k - 1 : Nat) : Int) := by
  have : 1 ≤ 2 ^ k := Nat.one_le_two_pow
  rw [Int.natCast_sub this]; push_cast; rfl
 have hm2 : 2 ^ k - 1 < 2 ^ w := by
  have : 2 ^ k ≤ 2 ^ w := Nat.pow_le_pow_right (by omega) hk
  have : 1 ≤ 2 ^ k := Nat.one_le_two_pow
  omega
 rw [hm, BitVec.toNat_and, bvn w n hn, bvn w _ hm2, Nat.and_two_pow_sub_one_eq_mod]
 push_cast; rfl
theorem u8r (b : UInt8) : 0 ≤ (b.toNat : Int) ∧ (b.toNat : Int) < 256 := by have := b.toNat_lt; omega
theorem nat_succ64 {i : Nat} (h : i < 9223372036854775807) : IntKind.wrap .i64 ((i : Int) + 1) = ((i + 1 : Nat) : Int) := by rw [wi64i (by omega) (by omega)]; omega
end Go.Hw

/-
  What stands in separate blocks: a list of assertions, each with blocks of its own.
-/
set_option linter.unusedSimpArgs false
set_option linter.unusedVariables false
namespace Go.Hw
open Go
structure Asn where
  on : (Nat → Prop) → Hp → Prop
  loc : ∀ {F : Nat → Prop} {h h' : Hp}, (∀ x, F x → h' x = h x) → on F h → on F h'
  dom : ∀ {F : Nat → Prop} {h : Hp} {x : Nat}, on F h → F x → h x ≠ none
def Sat (L : List Asn) (h : Hp) : Prop :=
  ∃ F : Nat → Nat → Prop, (∀ (i : Nat) (A : Asn), L[i]? = some A → A.on (F i) h) ∧ ∀ i j x, i < L.length → j < L.length → F i x → F j x → i = j
theorem Sat.nil {h : Hp} : Sat [] h := ⟨fun _ _ => False, by simp, by simp⟩
theorem Sat.get {L : List Asn} {h : Hp} (hs : Sat L h) {i : Nat} {A : Asn} (hi : L[i]? = some A) : ∃ F, A.on F h := let ⟨F, h1, _⟩ := hs; ⟨F i, h1 i A hi⟩
theorem lt_of_get {α : Type} {l : List α} {i : Nat} {x : α} (h : l[i]? = some x) : i < l.length := (List.getElem?_eq_some_iff.1 h).1
theorem get_of_lt {α : Type} {l : List α} {i : Nat} (h : i < l.length) : ∃ x, l[i]? = some x := ⟨l[i], List.getElem?_eq_getElem h⟩
theorem Sat.step {L : List Asn} {h h' : Hp} {i : Nat} {A A' : Asn} (hs : Sat L h) (hi : L[i]? = some A)
    (hst : ∀ F, A.on F h → ∃ F', A'.on F' h' ∧ (∀ x, F' x → F x ∨ h x = none) ∧ ∀ x, ¬ F x → h x ≠ none → h' x = h x) : Sat (L.set i A') h' := by
  obtain ⟨F, h1, h2⟩ := hs
  obtain ⟨F', g1, g2, g3⟩ := hst _ (h1 i A hi)
  have hil := lt_of_get hi
  have dm : ∀ j x, j < L.length → F j x → h x ≠ none := fun j x hj hx => let ⟨B, hB⟩ := get_of_lt hj; B.dom (h1 j B hB) hx
  refine ⟨fun j => if j = i then F' else F j, ?_, ?_⟩
  · intro j B hj
    by_cases e : j = i
    · subst e
      rw [List.getElem?_set_self hil] at hj
      cases hj; simpa using g1
    · rw [List.getElem?_set_ne (fun q => e q.symm)] at hj
      simp only [if_neg e]
      refine B.loc ?_ (h1 j B hj)
      intro x hx
      refine g3 x (fun hq => e (h2 j i x (lt_of_get hj) hil hx hq)) (dm j x (lt_of_get hj) hx)
  · intro j k x hj hk hx hy
    rw [List.length_set] at hj hk
    by_cases e : j = i
    · subst e
      simp only [if_true] at hx
      by_cases e2 : k = j
      · exact e2.symm
      · simp only [if_neg e2] at hy
        rcases g2 x hx with q | q
        · exact h2 j k x hj hk q hy
        · exact (dm k x hk hy q).elim
    · simp only [if_neg e] at hx
      by_cases e2 : k = i
      · subst e2
        simp only [if_true] at hy
        rcases g2 x hy with q | q
        · exact h2 j k x hj hk hx q
        · exact (dm j x hj hx q).elim
      · simp only [if_neg e2] at hy
        exact h2 j k x hj hk hx hy
theorem Sat.ext {L : List Asn} {h h' : Hp} (hs : Sat L h) (he : Ext none' h h') : Sat L h' := by
  obtain ⟨F, h1, h2⟩ := hs
  refine ⟨F, fun i A hi => ?_, h2⟩
  refine A.loc (fun x hx => ?_) (h1 i A hi)
  cases hq : h x with
  | none => exact (A.dom (h1 i A hi) hx hq).elim
  | some o => exact he x o hq (fun e => e)
theorem Sat.more {L : List Asn} {h h' : Hp} {A : Asn} {F' : Nat → Prop} (hs : Sat L h) (he : Ext none' h h') (ha : A.on F' h') (hf : ∀ x, F' x → h x = none) : Sat (L ++ [A]) h' := by
  have hs' := hs.ext he
  obtain ⟨F, h1, h2⟩ := hs
  have dm : ∀ j x, j < L.length → F j x → h x ≠ none := fun j x hj hx => let ⟨B, hB⟩ := get_of_lt hj; B.dom (h1 j B hB) hx
  refine ⟨fun j => if j = L.length then F' else F j, ?_, ?_⟩
  · intro j B hj
    by_cases e : j = L.length
    · subst e
      simp at hj; subst hj; simpa using ha
    · have hlt : j < L.length := by have := lt_of_get hj; simp at this; omega
      rw [List.getElem?_append_left hlt] at hj
      simp only [if_neg e]
      refine B.loc (fun x hx => ?_) (h1 j B hj)
      cases hq : h x with
      | none => exact (dm j x hlt hx hq).elim
      | some o => exact he x o hq (fun e => e)
  · intro j k x hj hk hx hy
    simp at hj hk
    by_cases e : j = L.length
    · simp only [e, if_true] at hx
      by_cases e2 : k = L.length
      · omega
      · simp only [if_neg e2] at hy; exact (dm k x (by omega) hy (hf x hx)).elim
    · simp only [if_neg e] at hx
      by_cases e2 : k = L.length
      · simp only [e2, if_true] at hy; exact (dm j x (by omega) hx (hf x hy)).elim
      · simp only [if_neg e2] at hy; exact h2 j k x (by omega) (by omega) hx hy
theorem Sat.pick {L M : List Asn} {h : Hp} (hs : Sat L h) (f : Nat → Nat) (hf : ∀ (i : Nat) (A : Asn), M[i]? = some A → L[f i]? = some A) (hi : ∀ i j, i < M.length → j < M.length → f i = f j → i = j) : Sat M h := by
  obtain ⟨F, h1, h2⟩ := hs
  refine ⟨fun i => F (f i), fun i A hA => h1 _ A (hf i A hA), fun i j x hil hjl hx hy => ?_⟩
  obtain ⟨A, hA⟩ := get_of_lt hil
  obtain ⟨B, hB⟩ := get_of_lt hjl
  exact hi i j hil hjl (h2 _ _ x (lt_of_get (hf i A hA)) (lt_of_get (hf j B hB)) hx hy)
theorem Sat.left {L M : List Asn} {h : Hp} (hs : Sat (L ++ M) h) : Sat L h :=
  hs.pick (fun i => i) (fun i A hA => by rw [List.getElem?_append_left (lt_of_get hA)]; exact hA) (fun _ _ _ _ e => e)
def emp : Asn := ⟨fun F _ => ∀ x, ¬ F x, fun _ h => h, fun h hx => (h _ hx).elim⟩
def was (h0 : Hp) : Asn := ⟨fun F h => ∀ x, (F x ↔ h0 x ≠ none) ∧ (F x → h x = h0 x), fun hl h x => ⟨(h x).1, fun hx => (hl x hx).trans ((h x).2 hx)⟩, fun {F h x} hh hx => by rw [(hh x).2 hx]; exact ((hh x).1).1 hx⟩
def pt (b : Nat) (o : Obj) : Asn := ⟨fun F h => (∀ x, F x ↔ x = b) ∧ h b = some o, fun hl h => ⟨h.1, (hl b ((h.1 b).2 rfl)).trans h.2⟩, fun {F h x} hh hx => by rw [(hh.1 x).1 hx, hh.2]; simp⟩
def row (b : Nat) (T : TypeId) (cs : List Value) : Asn := pt b (.cells ⟨cs⟩ T (0, 0))
def own (T : TypeId) (sz : Nat) (s : Sl) (vs : List Value) : Asn :=
  ⟨fun F h => (∀ x, F x ↔ s.p = some (bk x)) ∧ Own h T sz s vs,
   fun {F h h'} hl hh => ⟨hh.1, by
    obtain ⟨h1, h2, h3⟩ := hh.2
    refine ⟨h1, h2, ?_⟩
    cases hp : s.p with
    | none => rw [hp] at h3; exact h3
    | some a =>
      rw [hp] at h3
      obtain ⟨e, cs, hb, hr⟩ := h3
      exact ⟨e, cs, (hl a.block ((hh.1 _).2 (by rw [hp, e]))).trans hb, hr⟩⟩,
   fun {F h x} hh hx => by
    have hp := (hh.1 x).1 hx
    have h3 := hh.2.2.2
    rw [hp] at h3
    obtain ⟨_, cs, hb, _⟩ := h3
    rw [show h x = _ from hb]; simp⟩
def pur (p : Prop) : Asn := ⟨fun F _ => (∀ x, ¬ F x) ∧ p, fun _ h => h, fun h hx => (h.1 _ hx).elim⟩
def exs {α : Type} (A : α → Asn) : Asn := ⟨fun F h => ∃ a, (A a).on F h, fun hl ⟨a, h⟩ => ⟨a, (A a).loc hl h⟩, fun ⟨a, h⟩ hx => (A a).dom h hx⟩
def star (M : List Asn) : Asn :=
  ⟨fun F h => ∃ G : Nat → Nat → Prop, (∀ (i : Nat) (A : Asn), M[i]? = some A → A.on (G i) h) ∧ (∀ i j x, i < M.length → j < M.length → G i x → G j x → i = j) ∧ ∀ x, F x ↔ ∃ i, i < M.length ∧ G i x,
   fun hl ⟨G, h1, h2, h3⟩ => ⟨G, fun i A hi => A.loc (fun x hx => hl x ((h3 x).2 ⟨i, lt_of_get hi, hx⟩)) (h1 i A hi), h2, h3⟩,
   fun {F h x} ⟨G, h1, h2, h3⟩ hx => by
    obtain ⟨i, hi, hg⟩ := (h3 x).1 hx
    obtain ⟨A, hA⟩ := get_of_lt hi
    exact A.dom (h1 i A hA) hg⟩
theorem Sat.open {L M : List Asn} {h : Hp} (hs : Sat (L ++ [star M]) h) : Sat (L ++ M) h := by
  obtain ⟨F, h1, h2⟩ := hs
  obtain ⟨G, g1, g2, g3⟩ := h1 L.length (star M) (by simp)
  refine ⟨fun i => if i < L.length then F i else G (i - L.length), ?_, ?_⟩
  · intro i A hi
    by_cases e : i < L.length
    · simp only [if_pos e]
      rw [List.getElem?_append_left e] at hi
      exact h1 i A (by rw [List.getElem?_append_left e]; exact hi)
    · simp only [if_neg e]
      rw [List.getElem?_append_right (by omega)] at hi
      exact g1 _ A hi
  · intro i j x hi hj hx hy
    simp only [List.length_append] at hi hj
    have key : ∀ i, i < L.length → ∀ j, ¬ j < L.length → j < L.length + M.length → F i x → G (j - L.length) x → False := by
      intro i hi j hj hj2 hx hy
      have := h2 i L.length x (by simp; omega) (by simp) hx ((g3 x).2 ⟨_, by omega, hy⟩)
      omega
    by_cases e : i < L.length
    · simp only [if_pos e] at hx
      by_cases e2 : j < L.length
      · simp only [if_pos e2] at hy
        exact h2 i j x (by simp; omega) (by simp; omega) hx hy
      · simp only [if_neg e2] at hy
        exact (key i e j e2 hj hx hy).elim
    · simp only [if_neg e] at hx
      by_cases e2 : j < L.length
      · simp only [if_pos e2] at hy
        exact (key j e2 i e hi hy hx).elim
      · simp only [if_neg e2] at hy
        have := g2 _ _ x (by omega) (by omega) hx hy
        omega
theorem Sat.close {L M : List Asn} {h : Hp} (hs : Sat (L ++ M) h) : Sat (L ++ [star M]) h := by
  obtain ⟨F, h1, h2⟩ := hs
  refine ⟨fun i => if i < L.length then F i else fun x => ∃ k, k < M.length ∧ F (L.length + k) x, ?_, ?_⟩
  · intro i A hi
    by_cases e : i < L.length
    · simp only [if_pos e]
      rw [List.getElem?_append_left e] at hi
      exact h1 i A (by rw [List.getElem?_append_left e]; exact hi)
    · simp only [if_neg e]
      have hlt := lt_of_get hi
      simp at hlt
      have : i = L.length := by omega
      subst this
      simp at hi; subst hi
      refine ⟨fun k => F (L.length + k), fun k A hk => h1 _ A (by rw [List.getElem?_append_right (by omega)]; simpa using hk), fun k l x hk hl hx hy => ?_, fun x => Iff.rfl⟩
      have := h2 _ _ x (by simp; omega) (by simp; omega) hx hy
      omega
  · intro i j x hi hj hx hy
    simp at hi hj
    by_cases e : i < L.length
    · simp only [if_pos e] at hx
      by_cases e2 : j < L.length
      · simp only [if_pos e2] at hy
        exact h2 i j x (by simp; omega) (by simp; omega) hx hy
      · simp only [if_neg e2] at hy
        obtain ⟨k, hk, hy⟩ := hy
        have := h2 _ _ x (by simp; omega) (by simp; omega) hx hy
        omega
    · simp only [if_neg e] at hx
      by_cases e2 : j < L.length
      · simp only [if_pos e2] at hy
        obtain ⟨k, hk, hx⟩ := hx
        have := h2 _ _ x (by simp; omega) (by simp; omega) hx hy
        omega
      · omega
theorem Sat.rot {L M : List Asn} {h : Hp} (hs : Sat (L ++ M) h) (j : Nat) {A : Asn} (hj : M[j]? = some A) : Sat ((L ++ M.eraseIdx j) ++ [A]) h := by
  have hjl := lt_of_get hj
  have hel : (M.eraseIdx j).length + 1 = M.length := by rw [List.length_eraseIdx_of_lt hjl]; omega
  refine hs.pick (fun i => if i < L.length + j then i else if i = L.length + (M.length - 1) then L.length + j else i + 1) ?_ ?_
  · intro i B hi
    have hlt := lt_of_get hi
    simp only [List.length_append, List.length_singleton] at hlt
    by_cases e : i < L.length + j
    · simp only [if_pos e]
      rw [List.getElem?_append_left (by simp; omega)] at hi
      by_cases e2 : i < L.length
      · rw [List.getElem?_append_left e2] at hi ⊢; exact hi
      · rw [List.getElem?_append_right (by omega)] at hi ⊢
        rw [List.getElem?_eraseIdx_of_lt (by omega)] at hi; exact hi
    · simp only [if_neg e]
      by_cases e2 : i = L.length + (M.length - 1)
      · simp only [if_pos e2]
        rw [List.getElem?_append_right (by simp; omega)] at hi
        have : i - (L ++ M.eraseIdx j).length = 0 := by simp; omega
        rw [this] at hi
        simp at hi
        rw [List.getElem?_append_right (by omega)]
        simp only [Nat.add_sub_cancel_left]
        rw [hj, hi]
      · simp only [if_neg e2]
        rw [List.getElem?_append_left (by simp; omega)] at hi
        rw [List.getElem?_append_right (by omega)] at hi ⊢
        rw [List.getElem?_eraseIdx_of_ge (by omega)] at hi
        rw [show i + 1 - L.length = i - L.length + 1 by omega]; exact hi
  · intro i k hi hk e
    simp only [List.length_append, List.length_singleton] at hi hk
    split at e <;> split at e <;> (try split at e) <;> (try split at e) <;> omega
theorem Sat.back {L M : List Asn} {h : Hp} {j : Nat} {A' : Asn} (hs : Sat ((L ++ M.eraseIdx j) ++ [A']) h) (hjl : j < M.length) : Sat (L ++ M.set j A') h := by
  have hel : (M.eraseIdx j).length + 1 = M.length := by rw [List.length_eraseIdx_of_lt hjl]; omega
  refine hs.pick (fun i => if i < L.length + j then i else if i = L.length + j then L.length + (M.length - 1) else i - 1) ?_ ?_
  · intro i B hi
    have hlt := lt_of_get hi
    simp only [List.length_append, List.length_set] at hlt
    by_cases e : i < L.length + j
    · simp only [if_pos e]
      rw [List.getElem?_append_left (by simp; omega)]
      by_cases e2 : i < L.length
      · rw [List.getElem?_append_left e2] at hi ⊢; exact hi
      · rw [List.getElem?_append_right (by omega)] at hi ⊢
        rw [List.getElem?_eraseIdx_of_lt (by omega)]
        rw [List.getElem?_set_ne (by omega)] at hi; exact hi
    · simp only [if_neg e]
      by_cases e2 : i = L.length + j
      · simp only [if_pos e2]
        rw [List.getElem?_append_right (by simp; omega)]
        have : L.length + (M.length - 1) - (L ++ M.eraseIdx j).length = 0 := by simp; omega
        rw [this]
        rw [List.getElem?_append_right (by omega)] at hi
        rw [show i - L.length = j by omega, List.getElem?_set_self hjl] at hi
        simpa using hi
      · simp only [if_neg e2]
        rw [List.getElem?_append_left (by simp; omega)]
        rw [List.getElem?_append_right (by omega)] at hi ⊢
        rw [List.getElem?_eraseIdx_of_ge (by omega)]
        rw [List.getElem?_set_ne (by omega)] at hi
        rw [show i - 1 - L.length + 1 = i - L.length by omega]; exact hi
  · intro i k hi hk e
    simp only [List.length_append, List.length_set] at hi hk
    split at e <;> split at e <;> (try split at e) <;> (try split at e) <;> omega
theorem Sat.imp {L M : List Asn} {h : Hp} (hs : Sat (L ++ M) h) (j : Nat) {A A' : Asn} (hj : M[j]? = some A) (hi : ∀ F, A.on F h → A'.on F h) : Sat (L ++ M.set j A') h := by
  have hjl := lt_of_get hj
  have := Sat.step (i := L.length + j) (A := A) (A' := A') (h' := h) hs (by rw [List.getElem?_append_right (by omega)]; simpa using hj) (fun F hF => ⟨F, hi F hF, fun x hx => .inl hx, fun _ _ _ => rfl⟩)
  rwa [List.set_append_right _ _ (by omega), Nat.add_sub_cancel_left] at this
theorem Sat.at {L M : List Asn} {h h' : Hp} (hs : Sat (L ++ M) h) (j : Nat) {A A' : Asn} (hj : M[j]? = some A)
    (hst : ∀ F, A.on F h → ∃ F', A'.on F' h' ∧ (∀ x, F' x → F x ∨ h x = none) ∧ ∀ x, ¬ F x → h x ≠ none → h' x = h x) : Sat (L ++ M.set j A') h' := by
  have hjl := lt_of_get hj
  have := Sat.step (i := L.length + j) (A := A) (A' := A') (h' := h') hs (by rw [List.getElem?_append_right (by omega)]; simpa using hj) hst
  rwa [List.set_append_right _ _ (by omega), Nat.add_sub_cancel_left] at this
theorem Sat.get' {L M : List Asn} {h : Hp} (hs : Sat (L ++ M) h) (j : Nat) {A : Asn} (hj : M[j]? = some A) : ∃ F, A.on F h :=
  hs.get (i := L.length + j) (by rw [List.getElem?_append_right (by omega)]; simpa using hj)
theorem Sat.add {L M : List Asn} {h h' : Hp} {A : Asn} {F' : Nat → Prop} (hs : Sat (L ++ M) h) (he : Ext none' h h') (ha : A.on F' h') (hf : ∀ x, F' x → h x = none) : Sat (L ++ (M ++ [A])) h' := by
  rw [← List.append_assoc]; exact hs.more he ha hf
theorem Sat.pt {L M : List Asn} {h : Hp} (hs : Sat (L ++ M) h) (j : Nat) {b : Nat} {o : Obj} (hj : M[j]? = some (Hw.pt b o)) : h b = some o := let ⟨_, hF⟩ := hs.get' j hj; hF.2
theorem Sat.blk {L M : List Asn} {h : Hp} (hs : Sat (L ++ M) h) (j : Nat) {b : Nat} {T : TypeId} {cs : List Value} (hj : M[j]? = some (row b T cs)) : Blk h b T cs := let ⟨_, hF⟩ := hs.get' j hj; hF.2
theorem Sat.own {L M : List Asn} {h : Hp} (hs : Sat (L ++ M) h) (j : Nat) {T : TypeId} {sz : Nat} {s : Sl} {vs : List Value} (hj : M[j]? = some (Hw.own T sz s vs)) : Own h T sz s vs := let ⟨_, hF⟩ := hs.get' j hj; hF.2
theorem Sat.was {L M : List Asn} {h h0 : Hp} (hs : Sat (L ++ M) h) (j : Nat) (hj : M[j]? = some (Hw.was h0)) : Ext none' h0 h := by
  obtain ⟨F, hF⟩ := hs.get' j hj
  intro b o hb _
  have := (hF b).2 ((hF b).1.2 (by rw [hb]; simp))
  rw [this]; exact hb
theorem Sat.pur {L M : List Asn} {h : Hp} (hs : Sat (L ++ M) h) (j : Nat) {p : Prop} (hj : M[j]? = some (Hw.pur p)) : p := let ⟨_, hF⟩ := hs.get' j hj; hF.2
theorem Sat.put {L M : List Asn} {h : Hp} (hs : Sat (L ++ M) h) (j : Nat) {b : Nat} {o o' : Obj} (hj : M[j]? = some (Hw.pt b o)) : Sat (L ++ M.set j (Hw.pt b o')) (upd h b o') :=
  hs.at j hj fun F hF => ⟨F, ⟨hF.1, upd_same⟩, fun x hx => .inl hx, fun x hx _ => upd_ne (fun e => hx ((hF.1 x).2 e))⟩
theorem Sat.new {L M : List Asn} {h : Hp} {b : Nat} (hs : Sat (L ++ M) h) (hb : h b = none) (o : Obj) : Sat (L ++ (M ++ [Hw.pt b o])) (upd h b o) :=
  hs.add (Ext.new hb) (F' := fun x => x = b) ⟨fun _ => Iff.rfl, upd_same⟩ (fun x hx => by rw [hx]; exact hb)
theorem Sat.st {L M : List Asn} {h : Hp} {b k : Nat} {T : TypeId} {cs : List Value} {v : Value} {F : Hp → Prop} (hs : Sat (L ++ M) h) (j : Nat) (hj : M[j]? = some (row b T cs)) (hk : k < cs.length) (hp : plain v = true)
    (hF : ∀ h', Sat (L ++ M.set j (row b T (cs.set k v))) h' → F h') : Hw.st h ⟨b, k, none⟩ v F :=
  (hs.blk j hj).st hk hp (hF _ (hs.put j hj))
theorem Sat.addOwn {L M : List Asn} {h h' : Hp} {T : TypeId} {sz : Nat} {s : Sl} {vs : List Value} (hs : Sat (L ++ M) h) (he : Ext none' h h') (ho : Own h' T sz s vs) (hf : ∀ b, s.p = some (bk b) → h b = none) : Sat (L ++ (M ++ [Hw.own T sz s vs])) h' :=
  hs.add he (F' := fun x => s.p = some (bk x)) ⟨fun _ => Iff.rfl, ho⟩ hf
theorem Sat.ap {P : Program} {L M : List Asn} {T : TypeId} {sz : Nat} {s : Sl} {vs ns : List Value} {y : Value} {h : Hp} {F : Sl → Hp → Prop} {n : Nat} (hs : Sat (L ++ M) h) (j : Nat) (hj : M[j]? = some (Hw.own T sz s vs))
    (hsz : P.cellsOf T = sz) (hz : (zc P T).length = sz) (hln : ∀ G : Nat → Prop, lnK y G = G n) (hsrc : ∀ G : List Value → Prop, G ns → srcK h sz n y G)
    (hns : ns.length = n * sz) (hpl : ∀ v ∈ ns, plain v = true) (hby : (s.n + n) * 2 * P.bytesOf T ≤ 2 ^ 48)
    (hF : ∀ s' h', Sat (L ++ M.set j (Hw.own T sz s' (vs ++ ns))) h' → s'.n = s.n + n → F s' h') : apK P T s y h F := by
  refine apK_own (hs.own j hj) hsz hz hln hsrc hns hpl hby ?_
  intro s' h' ho hn he hr
  refine hF s' h' (hs.at j hj fun G hG => ⟨fun x => s'.p = some (bk x), ⟨fun _ => Iff.rfl, ho⟩, fun x hx => ?_, fun x hx hne => ?_⟩) hn
  · rcases hr x hx with e | e
    · exact .inl ((hG.1 x).2 e)
    · exact .inr e
  · cases hq : h x with
    | none => exact (hne hq).elim
    | some o => exact he x o hq (fun e => hx ((hG.1 x).2 e))
theorem Sat.into {L X : List Asn} {A : Asn} {h : Hp} (hs : Sat (L ++ [star X, A]) h) : Sat (L ++ [star (X ++ [A])]) h := by
  have h1 := hs.rot 0 rfl
  have h2 := h1.open
  rw [show (L ++ [star X, A].eraseIdx 0) ++ X = L ++ (A :: X) by simp] at h2
  have h3 := h2.rot 0 rfl
  rw [show (L ++ (A :: X).eraseIdx 0) ++ [A] = L ++ (X ++ [A]) by simp] at h3
  exact h3.close
theorem Sat.drop {L M : List Asn} {h : Hp} (hs : Sat (L ++ M) h) : Sat L h := hs.left
def orA (A B : Asn) : Asn := ⟨fun F h => A.on F h ∨ B.on F h, fun hl hh => hh.imp (A.loc hl) (B.loc hl), fun hh hx => hh.elim (fun h => A.dom h hx) (fun h => B.dom h hx)⟩
end Go.Hw

/-
 Bytes: slices that read as lists of bytes; rows that are pushed to; new slices.
-/
set_option linter.unusedSimpArgs false
set_option linter.unusedVariables false
namespace Go.Hw
open Go
theorem cellx {h h' : Hp} (he : Ext none' h h') {a : Addr} {v : Value} (hc : cell h a = some v) : cell h' a = some v := by
 unfold cell at hc ⊢
 cases hb : h a.block with
 | none => rw [hb] at hc; cases hc
 | some o => rw [hb] at hc; rw [he _ _ hb (fun e => e)]; exact hc
theorem addadd (a : Addr) (m n : Nat) : (a.add m).add n = a.add (m + n) := by
 unfold Addr.add
 by_cases h1 : m = 0
 ·subst h1; simp
 ·by_cases h2 : n = 0
  ·subst h2; simp
  ·simp [h1, h2, Nat.add_assoc]
@[simp] theorem addzero (a : Addr) : a.add 0 = a := by simp [Addr.add]
def Rdc (h : Hp) (p : Option Addr) (vs : List Value) : Prop := ∀ (i : Nat) (v : Value), vs[i]? = some v → ∃ a, p = some a ∧ cell h (a.add i) = some v
theorem Rdc.ext {h h' : Hp} {p : Option Addr} {vs : List Value} (H : Rdc h p vs) (he : Ext none' h h') : Rdc h' p vs := fun i v hi => let ⟨a, hp, hc⟩ := H i v hi; ⟨a, hp, cellx he hc⟩
theorem Rdc.drop {h : Hp} {a : Addr} {vs : List Value} (H : Rdc h (some a) vs) (k : Nat) : Rdc h (some (a.add k)) (vs.drop k) := by
 intro i v hi
 rw [List.getElem?_drop] at hi
 obtain ⟨b, hb, hc⟩ := H _ v hi
 cases hb
 exact ⟨_, rfl, by rw [addadd]; exact hc⟩
theorem Rdc.take {h : Hp} {p : Option Addr} {vs : List Value} (H : Rdc h p vs) (k : Nat) : Rdc h p (vs.take k) := by
 intro i v hi
 rw [List.getElem?_take] at hi
 split at hi
 ·exact H i v hi
 ·cases hi
theorem Rdc.rdN {h : Hp} {a : Addr} {vs : List Value} (H : Rdc h (some a) vs) : ∀ (n i : Nat), i + n ≤ vs.length → Hw.rdN h a i n = some ((vs.drop i).take n) := by
 intro n
 induction n with
 | zero => intro i _; simp [Hw.rdN]
 | succ n ih =>
  intro i hi
  have hlt : i < vs.length := by omega
  obtain ⟨b, hb, hc⟩ := H i vs[i] (List.getElem?_eq_getElem hlt)
  cases hb
  simp only [Hw.rdN, hc, ih (i + 1) (by omega)]
  rw [List.drop_eq_getElem_cons hlt, List.take_succ_cons]
theorem Blk.rdc {h : Hp} {b : Nat} {T : TypeId} {cs : List Value} (hb : Blk h b T cs) : Rdc h (some (bk b)) cs := fun i v hi => ⟨_, rfl, by rw [add_bk, hb.cell]; exact hi⟩
theorem Own.rdc {h : Hp} {T : TypeId} {sz : Nat} {s : Sl} {vs : List Value} (ho : Own h T sz s vs) : Rdc h s.p vs := by
 intro i v hi
 obtain ⟨b, hp, hc⟩ := ho.get hi
 exact ⟨bk b, hp, by rw [add_bk]; exact hc⟩
def bc (l : List UInt8) : List Value := l.map fun b => .int .u8 b.toNat
@[simp] theorem bc_len (l : List UInt8) : (bc l).length = l.length := by simp [bc]
@[simp] theorem bc_nil : bc [] = [] := rfl
@[simp] theorem bc_cons (b : UInt8) (l : List UInt8) : bc (b :: l) = .int .u8 b.toNat :: bc l := rfl
theorem bc_app (l m : List UInt8) : bc (l ++ m) = bc l ++ bc m := by simp [bc]
theorem bc_get (l : List UInt8) (i : Nat) : (bc l)[i]? = l[i]?.map fun b => .int .u8 b.toNat := by simp [bc]
theorem bc_take (l : List UInt8) (n : Nat) : bc (l.take n) = (bc l).take n := by simp [bc, List.map_take]
theorem bc_drop (l : List UInt8) (n : Nat) : bc (l.drop n) = (bc l).drop n := by simp [bc, List.map_drop]
theorem bc_set (l : List UInt8) (n : Nat) (b : UInt8) : bc (l.set n b) = (bc l).set n (.int .u8 b.toNat) := by simp [bc, List.map_set]
theorem bcells_bc (s : ByteArray) : bcells s = bc s.data.toList := rfl
theorem bc_plain {l : List UInt8} : ∀ v ∈ bc l, plain v = true := by
 intro v hv
 obtain ⟨b, _, rfl⟩ := List.mem_map.1 hv
 rfl
theorem cbytes_bc : ∀ (l : List UInt8), cbytes (bc l) = some l := by
 intro l
 induction l with
 | nil => rfl
 | cons b l ih => simp only [bc_cons, cbytes, ih]; simp
structure RdB (h : Hp) (s : Sl) (l : List UInt8) : Prop where
 n : s.n = l.length
 c : s.n ≤ s.c
 r : Rdc h s.p (bc l)
theorem RdB.ext {h h' : Hp} {s : Sl} {l : List UInt8} (H : RdB h s l) (he : Ext none' h h') : RdB h' s l := ⟨H.n, H.c, H.r.ext he⟩
theorem Own.rdb {h : Hp} {T : TypeId} {s : Sl} {l : List UInt8} (ho : Own h T 1 s (bc l)) : RdB h s l := ⟨by have := ho.1; simpa using this.symm, ho.2.1, ho.rdc⟩
theorem RdB.nil {h : Hp} {p : Option Addr} {c : Nat} : RdB h ⟨p, 0, c⟩ [] := ⟨rfl, Nat.zero_le _, by intro i v hi; simp at hi⟩
theorem RdB.get {h : Hp} {s : Sl} {l : List UInt8} (H : RdB h s l) {i : Nat} (hi : i < l.length) : ∃ a, s.p = some a ∧ cell h (a.add i) = some (.int .u8 (l[i]'hi).toNat) :=
 H.r i _ (by rw [bc_get, List.getElem?_eq_getElem hi]; rfl)
theorem RdB.at {h : Hp} {s : Sl} {l : List UInt8} (H : RdB h s l) {x : Int} {i : Nat} (hx : x = i) (hi : i < l.length) {F : Int → Prop} (hF : F ((l[i]'hi).toNat : Int)) :
  idx x s.n (nn s.p fun a => xI .u8 (cell h (a.add (x.toNat * 1))) F) := by
 obtain ⟨a, hp, hc⟩ := H.get hi
 refine idx_of (by omega) (by have := H.n; omega) ?_
 rw [hp]
 subst hx
 simp only [nn_some', Nat.mul_one, Int.toNat_natCast, hc, xI_some]
 exact hF
theorem RdB.b2s {h : Hp} {s : Sl} {l : List UInt8} (H : RdB h s l) {F : ByteArray → Prop} (hF : F ⟨⟨l⟩⟩) : Hw.b2s h s.p s.n F := by
 unfold Hw.b2s
 cases hp : s.p with
 | none =>
  have : l = [] := by
   cases l with
   | nil => rfl
   | cons b l => obtain ⟨a, ha, _⟩ := H.get (i := 0) (by simp); rw [hp] at ha; cases ha
  subst this; exact hF
 | some a =>
  have hr := H.r
  rw [hp] at hr
  simp only []
  rw [hr.rdN _ _ (by rw [H.n]; simp), H.n]
  simp only [List.drop_zero]
  rw [← bc_len, List.take_length, cbytes_bc]
  exact hF
theorem RdB.srcK {h : Hp} {s : Sl} {l : List UInt8} (H : RdB h s l) {n : Nat} (hn : n ≤ l.length) {F : List Value → Prop} (hF : F (bc (l.take n))) : Hw.srcK h 1 n s.v F := by
 unfold Hw.srcK Sl.v
 simp only []
 cases hp : s.p with
 | none =>
  have : l = [] := by
   cases l with
   | nil => rfl
   | cons b l => obtain ⟨a, ha, _⟩ := H.get (i := 0) (by simp); rw [hp] at ha; cases ha
  subst this; simpa using hF
 | some a =>
  have hr := H.r
  rw [hp] at hr
  simp only []
  rw [hr.rdN _ _ (by simp; omega)]
  simp only [List.drop_zero, Nat.mul_one]
  rw [← bc_take]; exact hF
theorem RdB.sub {h : Hp} {s : Sl} {l : List UInt8} (H : RdB h s l) {lo hi : Nat} (h1 : lo ≤ hi) (h2 : hi ≤ l.length) : RdB h ⟨sadr s.p s.c lo 1, hi - lo, s.c - lo⟩ ((l.drop lo).take (hi - lo)) := by
 have hn := H.n
 have hc := H.c
 refine ⟨by simp; omega, by simp; omega, ?_⟩
 show Rdc h (sadr s.p s.c lo 1) _
 unfold sadr
 split
 ·have : hi - lo = 0 := by omega
  rw [this]
  intro i v hi; simp at hi
 ·cases hp : s.p with
  | none =>
   intro i v hi
   obtain ⟨a, ha, _⟩ := H.get (i := 0) (by
    rw [bc_get] at hi
    simp only [Option.map_eq_some_iff] at hi
    obtain ⟨b, hb, _⟩ := hi
    have := lt_of_get hb
    simp at this; omega)
   rw [hp] at ha; cases ha
  | some a =>
   have hr := H.r
   rw [hp] at hr
   have := (hr.drop (lo * 1)).take (hi - lo)
   rw [Nat.mul_one] at this ⊢
   rw [bc_take, bc_drop]
   exact this
theorem Sat.start {h : Hp} : Sat ([] ++ [Hw.was h]) h :=
 ⟨fun _ x => h x ≠ none, fun i A hi => by
  have : i = 0 := by have := lt_of_get hi; simp at this; omega
  subst this
  simp at hi; subst hi
  exact fun x => ⟨Iff.rfl, fun _ => rfl⟩, fun i j x hi hj _ _ => by simp at hi hj; omega⟩
def NewO (h h' : Hp) (T : TypeId) (sz : Nat) (s : Sl) (vs : List Value) : Prop := Ext none' h h' ∧ Own h' T sz s vs ∧ ∀ b, s.p = some (bk b) → h b = none
theorem Sat.newO {L M : List Asn} {h h0 : Hp} (hs : Sat (L ++ M) h) (i j : Nat) {T : TypeId} {sz : Nat} {s : Sl} {vs : List Value} (hi : M[i]? = some (Hw.was h0)) (hj : M[j]? = some (Hw.own T sz s vs)) (hij : i ≠ j) : NewO h0 h T sz s vs := by
 refine ⟨hs.was i hi, hs.own j hj, ?_⟩
 obtain ⟨F, h1, h2⟩ := hs
 intro b hb
 cases hq : h0 b with
 | none => rfl
 | some o =>
  have w := h1 (L.length + i) (Hw.was h0) (by rw [List.getElem?_append_right (by omega)]; simpa using hi)
  have u := h1 (L.length + j) (Hw.own T sz s vs) (by rw [List.getElem?_append_right (by omega)]; simpa using hj)
  have li := lt_of_get hi
  have lj := lt_of_get hj
  have := h2 (L.length + i) (L.length + j) b (by simp; omega) (by simp; omega) ((w b).1.2 (by rw [hq]; simp)) ((u.1 b).2 hb)
  omega
theorem NewO.nil {h : Hp} {T : TypeId} {sz : Nat} : NewO h h T sz ⟨none, 0, 0⟩ [] := ⟨Ext.refl, Own.nil, by intro b hb; cases hb⟩
theorem Sat.addNew {L M : List Asn} {h h' : Hp} {T : TypeId} {sz : Nat} {s : Sl} {vs : List Value} (hs : Sat (L ++ M) h) (hn : NewO h h' T sz s vs) : Sat (L ++ (M ++ [Hw.own T sz s vs])) h' := hs.addOwn hn.1 hn.2.1 hn.2.2
theorem Sat.addNil {L M : List Asn} {h : Hp} (T : TypeId) (sz : Nat) (hs : Sat (L ++ M) h) : Sat (L ++ (M ++ [Hw.own T sz ⟨none, 0, 0⟩ []])) h := hs.addNew NewO.nil
theorem NewO.trans {h h1 h' : Hp} {T : TypeId} {sz : Nat} {s : Sl} {vs : List Value} (he : Ext none' h h1) (hn : NewO h1 h' T sz s vs) : NewO h h' T sz s vs := by
 refine ⟨he.trans hn.1, hn.2.1, fun b hb => ?_⟩
 cases hq : h b with
 | none => rfl
 | some o => have := he b o hq (fun e => e); rw [hn.2.2 b hb] at this; cases this
theorem NewO.ext {h h1 h' : Hp} {T : TypeId} {sz : Nat} {s : Sl} {vs : List Value} (hn : NewO h h1 T sz s vs) (he : Ext none' h1 h') : NewO h h' T sz s vs :=
 ⟨hn.1.trans he, hn.2.1.ext he (fun _ _ e => e), hn.2.2⟩
theorem Sat.push {P : Program} {L M : List Asn} {T : TypeId} {sz k : Nat} {s : Sl} {vs ns : List Value} {h : Hp} {F : Sl → Hp → Prop} (hs : Sat (L ++ M) h) (j : Nat) (hj : M[j]? = some (Hw.own T sz s vs))
  (hsz : P.cellsOf T = sz) (hz : (zc P T).length = sz) (hns : ns.length = k * sz) (hpl : ∀ v ∈ ns, plain v = true) (hby : (s.n + k) * 2 * P.bytesOf T ≤ 2 ^ 48)
  (hF : ∀ s' h', Sat (L ++ M.set j (Hw.own T sz s' (vs ++ ns))) h' → s'.n = s.n + k → F s' h') :
  nw h (.cells ⟨ns⟩ T) fun b0 h0 => apK P T s (.slice (some (bk b0)) k k) h0 F := by
 intro b0 e0
 have hs1 := hs.ext (Ext.new (o := .cells ⟨ns⟩ T (0, 0)) e0)
 refine hs1.ap j hj hsz hz (n := k) (fun _ => rfl) ?_ hns hpl hby hF
 intro G hG
 unfold srcK
 simp only []
 rw [rdN_blk (T := T) (cs := ns) Blk.upd_same _ _ (by omega)]
 simp only [List.drop_zero]
 rw [← hns, List.take_length]; exact hG
theorem Sat.mk {P : Program} {L M : List Asn} {T : TypeId} {sz : Nat} {l c : Int} {h : Hp} {F : Sl → Hp → Prop} (hs : Sat (L ++ M) h) (hz : (zc P T).length = sz) (h0 : 0 ≤ l) (h1 : l ≤ c) (h2 : P.bytesOf T * c ≤ 2 ^ 48) (h3 : c ≤ 9223372036854775807)
  (hF : ∀ s' h' , s'.n = l.toNat → s'.c = c.toNat → Sat (L ++ (M ++ [Hw.own T sz s' (zeros P T l.toNat).toList])) h' → F s' h') : mkK P T l c h F := by
 unfold mkK
 simp only [h0, h1, h2, h3, decide_true, Bool.and_self, cond_true]
 intro b hb
 have split : (zeros P T c.toNat).toList.take (l.toNat * (zc P T).length) = (zeros P T l.toNat).toList := by
  unfold zeros Builtin.zeroCells
  have : min (l.toNat * (zc P T).length) (c.toNat * (zc P T).length) = l.toNat * (zc P T).length := Nat.min_eq_left (Nat.mul_le_mul_right _ (by omega))
  simp [← List.map_take, List.take_range, this]
 refine hF ⟨some (bk b), l.toNat, c.toNat⟩ _ rfl rfl (hs.addOwn (Ext.new hb) ⟨?_, ?_, rfl, (zeros P T c.toNat).toList, ?_, ?_, ?_⟩ ?_)
 ·rw [zeros_len, hz]
 ·show l.toNat ≤ c.toNat; omega
 ·show upd h b _ b = some (.cells ⟨(zeros P T c.toNat).toList⟩ T (0, 0))
  rw [upd_same]
 ·rw [zeros_len, hz]
 ·rw [zeros_len]; exact split
 ·intro b' hb'
  simp only [Option.some.injEq] at hb'
  have : b = b' := congrArg Addr.block hb'
  subst this; exact hb
theorem Sat.sto {L M : List Asn} {h : Hp} {T : TypeId} {sz k : Nat} {s : Sl} {vs : List Value} {v : Value} {F : Hp → Prop} (hs : Sat (L ++ M) h) (j : Nat) (hj : M[j]? = some (Hw.own T sz s vs)) (hk : k < vs.length) (hp : plain v = true)
  (hF : ∀ b h', s.p = some (bk b) → Sat (L ++ M.set j (Hw.own T sz s (vs.set k v))) h' → F h') : ∃ b, s.p = some (bk b) ∧ Hw.st h ⟨b, k, none⟩ v F := by
 have ho := hs.own j hj
 obtain ⟨b, cs, hsp, hb, hl, ht⟩ := ho.row (by intro e; rw [e] at hk; simp at hk)
 refine ⟨b, hsp, ?_⟩
 have hlen : vs.length ≤ cs.length := by rw [← ht]; simp; omega
 refine hb.st (by omega) hp ?_
 refine hF b _ hsp (hs.at j hj fun G hG => ⟨G, ⟨hG.1, ?_⟩, fun x hx => .inl hx, fun x hx _ => upd_ne (fun e => hx ((hG.1 x).2 (by rw [hsp, e])))⟩)
 refine ⟨by simpa using ho.1, ho.2.1, ?_⟩
 show match s.p with | none => _ | some a => _
 rw [hsp]
 refine ⟨rfl, cs.set k v, upd_same, by simpa using hl, ?_⟩
 rw [List.length_set, List.take_set, ht]
theorem Sat.stAt {L M : List Asn} {h : Hp} {T : TypeId} {k : Nat} {x : Int} {s : Sl} {vs : List Value} {v : Value} {F : Hp → Prop} (hs : Sat (L ++ M) h) (j : Nat) (hj : M[j]? = some (Hw.own T 1 s vs)) (hx : x = k) (hk : k < vs.length) (hp : plain v = true)
  (hF : ∀ h', Sat (L ++ M.set j (Hw.own T 1 s (vs.set k v))) h' → F h') : idx x s.n (nn s.p fun a => Hw.st h (a.add (x.toNat * 1)) v F) := by
 have ho := hs.own j hj
 refine idx_of (by omega) (by have := ho.1; omega) ?_
 obtain ⟨b, hb, hst⟩ := hs.sto (F := F) j hj hk hp (fun b h' _ hs' => hF h' hs')
 rw [hb]
 subst hx
 simp only [nn_some', add_bk, Int.toNat_natCast, Nat.mul_one]
 exact hst
theorem putd_u8 {n : Int} (h0 : 0 ≤ n) (h1 : n < 256) : ((UInt8.ofNat n.toNat).toNat : Int) = n := by
 rw [UInt8.toNat_ofNat']
 omega
end Go.Hw

/-
 The small functions of layer 1 over numbers: folded words, changed words, hosts, groups.
-/
-- (no octet.folded)
-- (no ref01.Folded)
-- (no octet.Turn)
-- (no ref01.Turn)
set_option linter.unusedSimpArgs false
set_option linter.unusedVariables false
namespace Go.Proofs.Ytkfccpabigikkaa
open Go Go.Hw
def isHost (ip : Int) : Bool := decide (1 ≤ ip / 16777216) && decide (ip / 16777216 ≤ 223) && decide (ip / 16777216 ≠ 127)
theorem c_isHost {ip : Int} {h : Hp} {K : Bool → Hp → Prop} (hK : K (isHost ip) h) : C47 ip h K := by
 apply S47; unfold N47
 rw [Int.fdiv_eq_ediv_of_nonneg _ (by decide), show ((2 : Int) ^ 24) = 16777216 from rfl]
 unfold isHost at hK
 by_cases h1 : ip / 16777216 > 0
 ·by_cases h2 : ip / 16777216 < 224
  ·have e1 : (1 : Int) ≤ ip / 16777216 := by omega
   have e2 : ip / 16777216 ≤ 223 := by omega
   have e3 : (ip / 16777216 != 127) = decide (ip / 16777216 ≠ 127) := by by_cases e : ip / 16777216 = 127 <;> simp [e]
   simp only [h1, h2, e1, e2, decide_true, cond_true, Bool.true_and] at hK ⊢
   rw [e3]; exact hK
  ·have e2 : ¬ ip / 16777216 ≤ 223 := by omega
   simp only [h1, h2, e2, decide_true, decide_false, cond_true, cond_false, Bool.and_false, Bool.false_and] at hK ⊢; exact hK
 ·have e1 : ¬ (1 : Int) ≤ ip / 16777216 := by omega
  simp only [h1, e1, decide_false, cond_false, Bool.false_and] at hK ⊢; exact hK
theorem c_group {a b c d e f : Int} {h : Hp} {K : Bool → Hp → Prop} (h0 : 0 ≤ a) (h1 : a < 256) (hK : ∀ h', Ext none' h h' → K (a % 2 == 1) h') : C46 a b c d e f h K := by
 apply S46; unfold N46
 intro b0 e0
 have hb : Blk (upd h b0 (.cells ⟨[.int .u8 a, .int .u8 b, .int .u8 c, .int .u8 d, .int .u8 e, .int .u8 f]⟩ 24)) b0 24 _ := Blk.upd_same
 simp only [hb.cell, List.getElem?_cons_zero, xI_some]
 have e1 := band_low (w := 8) (x := a) 1 h0 h1 (by omega)
 rw [show ((2 : Int) ^ 1 - 1) = 1 from rfl, show ((2 : Int) ^ 1) = 2 from rfl] at e1
 rw [e1, wu8i (by omega) (by omega)]
 exact hK _ (Ext.new e0)
theorem c_Group {a b c d e f : Int} {h : Hp} {K : Bool → Hp → Prop} (h0 : 0 ≤ a) (hK : ∀ h', Ext none' h h' → K (a % 2 == 1) h') : C16 a b c d e f h K := by
 apply S16; unfold N16
 intro b0 e0
 have hb : Blk (upd h b0 (.cells ⟨[.int .u8 a, .int .u8 b, .int .u8 c, .int .u8 d, .int .u8 e, .int .u8 f]⟩ 24)) b0 24 _ := Blk.upd_same
 simp only [hb.cell, List.getElem?_cons_zero, xI_some]
 rw [Int.tmod_eq_emod_of_nonneg h0]
 exact hK _ (Ext.new e0)
def markN (list place : Nat) : Nat := (list * 7 + place * 13 + list / 256 + 1) % 256
end Go.Proofs.Ytkfccpabigikkaa

set_option linter.unusedVariables false
set_option maxRecDepth 100000
namespace Go.Proofs.Ytkfccpabigikkaa
open Go Go.Hw
noncomputable def B70 : Code := match Try.f70.body with | some c => c | none => .skip
def N70_l0_b (x0 : Int) (Φ : Sl → Int → Hp → Prop) (x5 : Sl) (x6 : Int) (h : Hp) (K0 : Sl → Hp → Prop) : Prop :=
 bif (decide (x6 ≥ 0)) then
 bif decide ((IntKind.wrap .i64 (8 * x6)) < 0) then False else
 nw h (.cells ⟨[.int .u8 (IntKind.wrap .u8 (Int.fdiv x0 (2 ^ (min (IntKind.wrap .i64 (8 * x6)).toNat 64))))]⟩ 5) fun b0 h0 =>
 apK Try.prog 5 x5 (.slice (some (bk b0)) 1 1) h0 fun s0 h1 =>
 Φ s0 (IntKind.wrap .i64 (x6 - 1)) h1
 else
 K0 x5 h
def N70_l0_B (x0 : Int) (K0 : Sl → Hp → Prop) (s : Sg.T [(5, .c (.slice)), (6, .c (.int .i64))]) (h : Hp) (Φ : Sg.T [(5, .c (.slice)), (6, .c (.int .i64))] → Hp → Prop) : Prop :=
 N70_l0_b x0 (fun x5 x6 h => Φ (x5, x6) h) s.1 s.2 h K0
def N70_l0 (x0 : Int) (x5 : Sl) (x6 : Int) (h : Hp) (K0 : Sl → Hp → Prop) : Prop :=
 loopP (N70_l0_B x0 K0) (x5, x6) h
noncomputable def N70_l0_t : Xf := loopT [(0, .c (.int .u64))] [(5, .c (.slice)), (6, .c (.int .i64))] (codeAt B70 [1, 1, 1, 0, 1, 0, 0]) fun F Q => N70_l0_B F (fun o0 h' => Q (.exit 0) (Sg.env [(5, .c (.slice))] o0) h')
theorem N70_l0_ok : Sound Try.prog Try.f70.ntmps N70_l0_t (codeAt B70 [1, 1, 1, 0, 1, 0]) := by
 refine loop_sound (fun e => match e with | .exit 0 => [5] | _ => []) (by kernel_rfl) ?_
 intro F Q s h Φ hb
 refine den_sound hE hm _ .leaf _ _ _ (annOk_leaf) ?_
 refine cast ?_ hb
 kernel_rfl
def N70 (x0 x1 : Int) (h : Hp) (K : Sl → Hp → Prop) : Prop :=
 bif (decide (x1 < 1)) then
 K ⟨none, 0, 0⟩ h
 else
 bif (decide (x1 > 8)) then
 K ⟨none, 0, 0⟩ h
 else
 mkK Try.prog 5 0 x1 h fun s0 h0 =>
 N70_l0 x0 s0 (IntKind.wrap .i64 (x1 - 1)) h0
 (fun s1 h1 =>
 K s1 h1)
theorem S70 {x0 x1 : Int} {h : Hp} {K : Sl → Hp → Prop} (hn : N70 x0 x1 h K) : C70 x0 x1 h K := by
 refine calls_of_D Try.func70 (c := B70) rfl (by kernel_rfl) ?_
 refine den_sound hE hm _ (.two .leaf (.two .leaf (.two .leaf (.two (.two .leaf (.one (.xf N70_l0_t))) .leaf)))) _ _ _ (⟨annOk_leaf, ⟨annOk_leaf, ⟨annOk_leaf, ⟨⟨annOk_leaf, N70_l0_ok⟩, annOk_leaf⟩⟩⟩⟩) ?_
 refine cast ?_ hn
 kernel_rfl
end Go.Proofs.Ytkfccpabigikkaa

set_option linter.unusedVariables false
set_option maxRecDepth 100000
namespace Go.Proofs.Ytkfccpabigikkaa
open Go Go.Hw
noncomputable def B13 : Code := match Try.f13.body with | some c => c | none => .skip
def N13_l0_b (x1 : Int) (x5 : Sl) (Φ : Int → Int → Hp → Prop) (x0 x6 : Int) (h : Hp) (K0 : Hp → Prop) : Prop :=
 bif (decide (x6 < x1)) then
 idx (IntKind.wrap .i64 ((IntKind.wrap .i64 (x1 - 1)) - x6)) x5.n <|
 nn x5.p fun a0 =>
 st h (a0.add ((IntKind.wrap .i64 ((IntKind.wrap .i64 (x1 - 1)) - x6)).toNat * 1)) (.int .u8 (IntKind.wrap .u8 (Int.tmod x0 256))) fun h0 =>
 Φ (IntKind.wrap .u64 (Int.tdiv x0 256)) (IntKind.wrap .i64 (x6 + 1)) h0
 else
 K0 h
def N13_l0_B (x1 : Int) (x5 : Sl) (K0 : Hp → Prop) (s : Sg.T [(0, .c (.int .u64)), (6, .c (.int .i64))]) (h : Hp) (Φ : Sg.T [(0, .c (.int .u64)), (6, .c (.int .i64))] → Hp → Prop) : Prop :=
 N13_l0_b x1 x5 (fun x0 x6 h => Φ (x0, x6) h) s.1 s.2 h K0
def N13_l0 (x1 : Int) (x5 : Sl) (x0 x6 : Int) (h : Hp) (K0 : Hp → Prop) : Prop :=
 loopP (N13_l0_B x1 x5 K0) (x0, x6) h
noncomputable def N13_l0_t : Xf := loopT [(1, .c (.int .i64)), (5, .c (.slice))] [(0, .c (.int .u64)), (6, .c (.int .i64))] (codeAt B13 [1, 1, 1, 0, 1, 0, 0]) fun F Q => N13_l0_B F.1 F.2 (fun h' => Q (.exit 0) (Sg.env [] ()) h')
theorem N13_l0_ok : Sound Try.prog Try.f13.ntmps N13_l0_t (codeAt B13 [1, 1, 1, 0, 1, 0]) := by
 refine loop_sound (fun e => match e with | .exit 0 => [] | _ => []) (by kernel_rfl) ?_
 intro F Q s h Φ hb
 refine den_sound hE hm _ .leaf _ _ _ (annOk_leaf) ?_
 refine cast ?_ hb
 kernel_rfl
def N13 (x0 x1 : Int) (h : Hp) (K : Sl → Hp → Prop) : Prop :=
 bif (decide (x1 < 1)) then
 K ⟨none, 0, 0⟩ h
 else
 bif (decide (x1 > 8)) then
 K ⟨none, 0, 0⟩ h
 else
 mkK Try.prog 5 x1 x1 h fun s0 h0 =>
 N13_l0 x1 s0 x0 0 h0
 (fun h1 =>
 K s0 h1)
theorem S13 {x0 x1 : Int} {h : Hp} {K : Sl → Hp → Prop} (hn : N13 x0 x1 h K) : C13 x0 x1 h K := by
 refine calls_of_D Try.func13 (c := B13) rfl (by kernel_rfl) ?_
 refine den_sound hE hm _ (.two .leaf (.two .leaf (.two .leaf (.two (.two .leaf (.one (.xf N13_l0_t))) .leaf)))) _ _ _ (⟨annOk_leaf, ⟨annOk_leaf, ⟨annOk_leaf, ⟨⟨annOk_leaf, N13_l0_ok⟩, annOk_leaf⟩⟩⟩⟩) ?_
 refine cast ?_ hn
 kernel_rfl
end Go.Proofs.Ytkfccpabigikkaa

set_option linter.unusedVariables false
set_option maxRecDepth 100000
namespace Go.Proofs.Ytkfccpabigikkaa
open Go Go.Hw
noncomputable def B44 : Code := match Try.f44.body with | some c => c | none => .skip
def N44_l0_b (x0 : Sl) (x1 x2 : Int) (Φ : Int → Int → Hp → Prop) (x8 x9 : Int) (h : Hp) (K0 : Int → Hp → Prop) : Prop :=
 bif (decide (x9 < x2)) then
 idx (IntKind.wrap .i64 (x1 + x9)) x0.n <|
 nn x0.p fun a0 =>
 xI .u8 (cell h (a0.add ((IntKind.wrap .i64 (x1 + x9)).toNat * 1))) fun n0 =>
 Φ (IntKind.wrap .u64 ((IntKind.wrap .u64 (x8 * 256)) + (IntKind.wrap .u64 n0))) (IntKind.wrap .i64 (x9 + 1)) h
 else
 K0 x8 h
def N44_l0_B (x0 : Sl) (x1 x2 : Int) (K0 : Int → Hp → Prop) (s : Sg.T [(8, .c (.int .u64)), (9, .c (.int .i64))]) (h : Hp) (Φ : Sg.T [(8, .c (.int .u64)), (9, .c (.int .i64))] → Hp → Prop) : Prop :=
 N44_l0_b x0 x1 x2 (fun x8 x9 h => Φ (x8, x9) h) s.1 s.2 h K0
def N44_l0 (x0 : Sl) (x1 x2 x8 x9 : Int) (h : Hp) (K0 : Int → Hp → Prop) : Prop :=
 loopP (N44_l0_B x0 x1 x2 K0) (x8, x9) h
noncomputable def N44_l0_t : Xf := loopT [(0, .c (.slice)), (1, .c (.int .i64)), (2, .c (.int .i64))] [(8, .c (.int .u64)), (9, .c (.int .i64))] (codeAt B44 [1, 1, 1, 1, 0, 1, 0, 0]) fun F Q => N44_l0_B F.1 F.2.1 F.2.2 (fun o0 h' => Q (.exit 0) (Sg.env [(8, .c (.int .u64))] o0) h')
theorem N44_l0_ok : Sound Try.prog Try.f44.ntmps N44_l0_t (codeAt B44 [1, 1, 1, 1, 0, 1, 0]) := by
 refine loop_sound (fun e => match e with | .exit 0 => [8] | _ => []) (by kernel_rfl) ?_
 intro F Q s h Φ hb
 refine den_sound hE hm _ .leaf _ _ _ (annOk_leaf) ?_
 refine cast ?_ hb
 kernel_rfl
def N44 (x0 : Sl) (x1 x2 : Int) (h : Hp) (K : Int → Int → Hp → Prop) : Prop :=
 bif (decide (x2 < 1)) then
 K 0 1 h
 else
 bif (decide (x2 > 8)) then
 K 0 1 h
 else
 bif (decide (x1 < 0)) then
 K 0 1 h
 else
 bif (decide (x1 > ((x0.n : Nat) : Int))) then
 K 0 5 h
 else
 bif (decide ((IntKind.wrap .i64 (((x0.n : Nat) : Int) - x1)) < x2)) then
 K 0 5 h
 else
 N44_l0 x0 x1 x2 0 0 h
 (fun n0 h0 =>
 K n0 0 h0)
theorem S44 {x0 : Sl} {x1 x2 : Int} {h : Hp} {K : Int → Int → Hp → Prop} (hn : N44 x0 x1 x2 h K) : C44 x0 x1 x2 h K := by
 refine calls_of_D Try.func44 (c := B44) rfl (by kernel_rfl) ?_
 refine den_sound hE hm _ (.two .leaf (.two .leaf (.two .leaf (.two .leaf (.two (.two .leaf (.one (.xf N44_l0_t))) .leaf))))) _ _ _ (⟨annOk_leaf, ⟨annOk_leaf, ⟨annOk_leaf, ⟨annOk_leaf, ⟨⟨annOk_leaf, N44_l0_ok⟩, annOk_leaf⟩⟩⟩⟩⟩) ?_
 refine cast ?_ hn
 kernel_rfl
end Go.Proofs.Ytkfccpabigikkaa

/-
 Numbers as bytes: Put and Get, the program's and the document's.
-/
-- (no octet.Get)
set_option linter.unusedSimpArgs false
set_option linter.unusedVariables false
namespace Go.Proofs.Ytkfccpabigikkaa
open Go Go.Hw
theorem y_a : Try.prog.cellsOf 5 = 1 := by kernel_rfl
theorem y_z : zc Try.prog 5 = [.int .u8 0] := by kernel_rfl
theorem y_zl : (zc Try.prog 5).length = 1 := by rw [y_z]; rfl
theorem y_b : Try.prog.bytesOf 5 = 1 := by kernel_rfl
theorem y_zeros (n : Nat) : (zeros Try.prog 5 n).toList = bc (List.replicate n 0) := by
 unfold zeros Builtin.zeroCells
 rw [y_z]
 simp only [bc, List.map_replicate]
 apply List.ext_getElem
 ·simp
 ·intro i h1 h2
  simp only [List.getElem_replicate]
  have : i % 1 = 0 := Nat.mod_one i
  simp [this]
def be (n : Nat) : Nat → List UInt8
 | 0 => []
 | w + 1 => UInt8.ofNat (n / 256 ^ w % 256) :: be n w
theorem be_len (n w : Nat) : (be n w).length = w := by induction w with | zero => rfl | succ w ih => simp [be, ih]
def putL (n : Nat) (w : Int) : List UInt8 := if w < 1 ∨ w > 8 then [] else be n w.toNat
theorem byte_of (n : Nat) : (((UInt8.ofNat (n % 256)).toNat : Nat) : Int) = ((n % 256 : Nat) : Int) := by rw [UInt8.toNat_ofNat']; omega
theorem c_put {n w : Int} {h : Hp} {K : Sl → Hp → Prop} (h0 : 0 ≤ n) (h1 : n < 18446744073709551616) (hK : ∀ h' s, NewO h h' 5 1 s (bc (putL n.toNat w)) → K s h') : C70 n w h K := by
 apply S70; unfold N70
 by_cases c1 : w < 1
 ·simp only [c1, decide_true, cond_true]
  have e : putL n.toNat w = [] := by unfold putL; rw [if_pos (.inl c1)]
  rw [e] at hK
  exact hK h _ NewO.nil
 ·by_cases c2 : w > 8
  ·simp only [c1, c2, decide_true, decide_false, cond_true, cond_false]
   have e : putL n.toNat w = [] := by unfold putL; rw [if_pos (.inr c2)]
   rw [e] at hK
   exact hK h _ NewO.nil
  ·simp only [c1, c2, decide_false, cond_false]
   have e : putL n.toNat w = be n.toNat w.toNat := by unfold putL; rw [if_neg (by omega)]
   rw [e] at hK
   refine (Sat.start (h := h)).mk (sz := 1) y_zl (by omega) (by omega) (by rw [y_b]; omega) (by omega) ?_
   intro s hb hn hc hs
   have z0 : (zeros Try.prog 5 (0 : Int).toNat).toList = bc [] := by rw [show (0 : Int).toNat = 0 from rfl, y_zeros]; rfl
   rw [z0] at hs
   unfold N70_l0
   refine loopP_inv (fun (x : Sl × Int) hc => ∃ (j : Nat) (c : List UInt8), x.2 = (j : Int) - 1 ∧ j ≤ w.toNat ∧ c ++ be n.toNat j = be n.toNat w.toNat ∧ x.1.n = c.length ∧ Sat ([] ++ [Hw.was h, Hw.own 5 1 x.1 (bc c)]) hc) (fun x _ => (x.2 + 1).toNat) ?_
    ⟨w.toNat, [], by rw [wi64i (by omega) (by omega)]; omega, Nat.le_refl _, rfl, by simpa using hn, hs⟩
   rintro ⟨t, x⟩ hc ⟨j, c, hx, hj, hcj, htn, hs⟩
   simp only at hx hs htn
   subst hx
   unfold N70_l0_B N70_l0_b
   dsimp only
   have clen : c.length + j = w.toNat := by have := congrArg List.length hcj; simpa [be_len] using this
   cases j with
   | zero =>
    simp only [Int.natCast_zero, show decide ((0 : Int) - 1 ≥ 0) = false from rfl, cond_false]
    refine hK _ t ?_
    have : c = be n.toNat w.toNat := by simpa [be] using hcj
    rw [← this]
    exact hs.newO 0 1 rfl rfl (by omega)
   | succ j =>
    have ex : ((j + 1 : Nat) : Int) - 1 = (j : Int) := by omega
    rw [ex]
    simp only [show decide ((j : Int) ≥ 0) = true by simp, cond_true]
    have e8 : IntKind.wrap .i64 (8 * (j : Int)) = ((8 * j : Nat) : Int) := by rw [wi64i (by omega) (by omega)]; omega
    have em : min (((8 * j : Nat) : Int)).toNat 64 = 8 * j := by omega
    rw [e8, em]
    simp only [show decide (((8 * j : Nat) : Int) < 0) = false by simp; omega, cond_false]
    have ep : (2 : Int) ^ (8 * j) = ((256 ^ j : Nat) : Int) := by rw [Int.pow_mul, show (2 : Int) ^ 8 = 256 from rfl, Int.natCast_pow]; rfl
    have ev : IntKind.wrap .u8 (Int.fdiv n (2 ^ (8 * j))) = (((UInt8.ofNat (n.toNat / 256 ^ j % 256)).toNat : Nat) : Int) := by
     rw [byte_of, ep, Int.fdiv_eq_ediv_of_nonneg _ (Int.natCast_nonneg _), wu8]
     obtain ⟨m, rfl⟩ := Int.eq_ofNat_of_zero_le h0
     simp only [Int.toNat_natCast]
     omega
    rw [ev]
    refine hs.push 1 rfl (k := 1) y_a y_zl rfl (by intro v hv; simp at hv; subst hv; rfl) (by rw [y_b]; omega) ?_
    intro s' h' hs' hn'
    have ew : IntKind.wrap .i64 ((j : Int) - 1) = (j : Int) - 1 := wi64i (by omega) (by omega)
    rw [ew]
    have ec : bc c ++ [Value.int .u8 (((UInt8.ofNat (n.toNat / 256 ^ j % 256)).toNat : Nat) : Int)] = bc (c ++ [UInt8.ofNat (n.toNat / 256 ^ j % 256)]) := by rw [bc_app]; rfl
    rw [ec] at hs'
    refine ⟨⟨j, _, rfl, by omega, ?_, ?_, hs'⟩, ?_⟩
    ·rw [← hcj]; simp [be]
    ·rw [hn', htn]; simp
    ·show ((j : Int) - 1 + 1).toNat < ((j : Int) + 1).toNat; omega
theorem put_step (q : Nat) : IntKind.wrap .u8 (Int.tmod (q : Int) 256) = (((UInt8.ofNat (q % 256)).toNat : Nat) : Int) := by
 rw [byte_of, Int.tmod_eq_emod_of_nonneg (by omega), wu8]; omega
theorem put_next {q : Nat} (h : q < 18446744073709551616) : IntKind.wrap .u64 (Int.tdiv (q : Int) 256) = ((q / 256 : Nat) : Int) := by
 rw [Int.tdiv_eq_ediv_of_nonneg (by omega), wu64i (by omega) (by omega)]; omega
theorem c_Put {n w : Int} {h : Hp} {K : Sl → Hp → Prop} (h0 : 0 ≤ n) (h1 : n < 18446744073709551616) (hK : ∀ h' s, NewO h h' 5 1 s (bc (putL n.toNat w)) → K s h') : C13 n w h K := by
 apply S13; unfold N13
 by_cases c1 : w < 1
 ·simp only [c1, decide_true, cond_true]
  have e : putL n.toNat w = [] := by unfold putL; rw [if_pos (.inl c1)]
  rw [e] at hK
  exact hK h _ NewO.nil
 ·by_cases c2 : w > 8
  ·simp only [c1, c2, decide_true, decide_false, cond_true, cond_false]
   have e : putL n.toNat w = [] := by unfold putL; rw [if_pos (.inr c2)]
   rw [e] at hK
   exact hK h _ NewO.nil
  ·simp only [c1, c2, decide_false, cond_false]
   have e : putL n.toNat w = be n.toNat w.toNat := by unfold putL; rw [if_neg (by omega)]
   rw [e] at hK
   refine (Sat.start (h := h)).mk (sz := 1) y_zl (by omega) (by omega) (by rw [y_b]; omega) (by omega) ?_
   intro s hb hn hc hs
   rw [y_zeros] at hs
   unfold N13_l0
   refine loopP_inv (fun (x : Int × Int) hc => ∃ i : Nat, x.2 = i ∧ i ≤ w.toNat ∧ x.1 = ((n.toNat / 256 ^ i : Nat) : Int) ∧ Sat ([] ++ [Hw.was h, Hw.own 5 1 s (bc (List.replicate (w.toNat - i) 0 ++ be n.toNat i))]) hc) (fun x _ => w.toNat - x.2.toNat) ?_
    ⟨0, rfl, Nat.zero_le _, by simp; omega, by simpa [be] using hs⟩
   rintro ⟨m, x⟩ hc ⟨i, hx, hi, hm, hs⟩
   simp only at hx hm
   subst hx; subst hm
   unfold N13_l0_B N13_l0_b
   dsimp only
   by_cases hlt : i < w.toNat
   ·have : decide ((i : Int) < w) = true := by simp; omega
    rw [this, cond_true]
    have e1 : IntKind.wrap .i64 (IntKind.wrap .i64 (w - 1) - (i : Int)) = ((w.toNat - 1 - i : Nat) : Int) := by rw [wi64i (x := w - 1) (by omega) (by omega), wi64i (by omega) (by omega)]; omega
    rw [e1]
    refine hs.stAt (k := w.toNat - 1 - i) 1 rfl rfl (by simp [be_len]; omega) rfl ?_
    ·intro h' hs'
     have e2 := put_step (n.toNat / 256 ^ i)
     rw [e2] at hs'
     have e3 : (bc (List.replicate (w.toNat - i) 0 ++ be n.toNat i)).set (w.toNat - 1 - i) (.int .u8 (((UInt8.ofNat (n.toNat / 256 ^ i % 256)).toNat : Nat) : Int)) = bc (List.replicate (w.toNat - (i + 1)) 0 ++ be n.toNat (i + 1)) := by
      rw [← bc_set]
      congr 1
      have : w.toNat - i = (w.toNat - 1 - i) + 1 := by omega
      rw [this, List.replicate_succ', List.append_assoc, List.set_append_right _ _ (by simp)]
      simp [be, show w.toNat - (i + 1) = w.toNat - 1 - i by omega]
     have hs2 : Sat ([] ++ [Hw.was h, Hw.own 5 1 s (bc (List.replicate (w.toNat - (i + 1)) 0 ++ be n.toNat (i + 1)))]) h' := by rw [← e3]; exact hs'
     have e4 : IntKind.wrap .u64 (Int.tdiv ((n.toNat / 256 ^ i : Nat) : Int) 256) = ((n.toNat / 256 ^ (i + 1) : Nat) : Int) := by
      have hle : n.toNat / 256 ^ i ≤ n.toNat := Nat.div_le_self _ _
      rw [put_next (by omega), Nat.div_div_eq_div_mul, ← Nat.pow_succ]
     rw [nat_succ64 (by omega), e4]
     exact ⟨⟨i + 1, rfl, hlt, rfl, hs2⟩, by show w.toNat - (((i + 1 : Nat) : Int)).toNat < w.toNat - ((i : Nat) : Int).toNat; omega⟩
   ·have : decide ((i : Int) < w) = false := by simp; omega
    rw [this, cond_false]
    have : i = w.toNat := by omega
    subst this
    refine hK _ s ?_
    have := hs.newO 0 1 rfl rfl (by omega)
    simpa using this
def nat256 (l : List UInt8) : Nat := l.foldl (fun a b => a * 256 + b.toNat) 0
theorem nat256_snoc (l : List UInt8) (b : UInt8) : nat256 (l ++ [b]) = nat256 l * 256 + b.toNat := by simp [nat256]
theorem nat256_lt (l : List UInt8) : nat256 l < 256 ^ l.length := by
 have key : ∀ (l : List UInt8) (a : Nat), l.foldl (fun a b => a * 256 + b.toNat) a < (a + 1) * 256 ^ l.length := by
  intro l
  induction l with
  | nil => intro a; simp
  | cons b l ih =>
   intro a
   have hb := b.toNat_lt
   have h1 := ih (a * 256 + b.toNat)
   have h2 : (a * 256 + b.toNat + 1) * 256 ^ l.length ≤ ((a + 1) * 256) * 256 ^ l.length := Nat.mul_le_mul_right _ (by omega)
   simp only [List.foldl_cons, List.length_cons]
   rw [Nat.pow_succ, Nat.mul_comm (256 ^ l.length) 256, ← Nat.mul_assoc]
   omega
 have := key l 0
 unfold nat256; omega
def getV (l : List UInt8) (at_ w : Int) : Nat := if w < 1 ∨ w > 8 ∨ at_ < 0 then 0 else if at_ > l.length ∨ l.length - at_ < w then 0 else nat256 ((l.drop at_.toNat).take w.toNat)
def getE (l : List UInt8) (at_ w : Int) : Int := if w < 1 ∨ w > 8 ∨ at_ < 0 then 1 else if at_ > l.length ∨ l.length - at_ < w then 5 else 0
theorem pow256_le {k : Nat} (hk : k ≤ 7) : 256 ^ k ≤ 72057594037927936 := by
 have : 256 ^ k ≤ 256 ^ 7 := Nat.pow_le_pow_right (by omega) hk
 exact this
theorem c_Get {s : Sl} {l : List UInt8} {at_ w : Int} {h : Hp} {K : Int → Int → Hp → Prop} (H : RdB h s l) (hl : l.length ≤ 140737488355328) (hK : K (getV l at_ w : Nat) (getE l at_ w) h) : C44 s at_ w h K := by
 apply S44; unfold N44
 have hn := H.n
 have hc := H.c
 by_cases c1 : w < 1
 ·have e1 : getV l at_ w = 0 := by unfold getV; rw [if_pos (.inl c1)]
  have e2 : getE l at_ w = 1 := by unfold getE; rw [if_pos (.inl c1)]
  simp only [c1, decide_true, cond_true]
  rw [e1, e2] at hK; exact hK
 ·by_cases c2 : w > 8
  ·have e1 : getV l at_ w = 0 := by unfold getV; rw [if_pos (.inr (.inl c2))]
   have e2 : getE l at_ w = 1 := by unfold getE; rw [if_pos (.inr (.inl c2))]
   simp only [c1, c2, decide_true, decide_false, cond_true, cond_false]
   rw [e1, e2] at hK; exact hK
  ·by_cases c3 : at_ < 0
   ·have e1 : getV l at_ w = 0 := by unfold getV; rw [if_pos (.inr (.inr c3))]
    have e2 : getE l at_ w = 1 := by unfold getE; rw [if_pos (.inr (.inr c3))]
    simp only [c1, c2, c3, decide_true, decide_false, cond_true, cond_false]
    rw [e1, e2] at hK; exact hK
   ·simp only [c1, c2, c3, decide_false, cond_false]
    rw [hn]
    by_cases c4 : at_ > (l.length : Int)
    ·have e1 : getV l at_ w = 0 := by unfold getV; rw [if_neg (by omega), if_pos (.inl c4)]
     have e2 : getE l at_ w = 5 := by unfold getE; rw [if_neg (by omega), if_pos (.inl c4)]
     simp only [c4, decide_true, cond_true]
     rw [e1, e2] at hK; exact hK
    ·simp only [c4, decide_false, cond_false]
     rw [wi64i (x := (l.length : Int) - at_) (by omega) (by omega)]
     by_cases c5 : (l.length : Int) - at_ < w
     ·have e1 : getV l at_ w = 0 := by unfold getV; rw [if_neg (by omega), if_pos (.inr c5)]
      have e2 : getE l at_ w = 5 := by unfold getE; rw [if_neg (by omega), if_pos (.inr c5)]
      simp only [c5, decide_true, cond_true]
      rw [e1, e2] at hK; exact hK
     ·have e1 : getV l at_ w = nat256 ((l.drop at_.toNat).take w.toNat) := by unfold getV; rw [if_neg (by omega), if_neg (by omega)]
      have e2 : getE l at_ w = 0 := by unfold getE; rw [if_neg (by omega), if_neg (by omega)]
      simp only [c5, decide_false, cond_false]
      rw [e1, e2] at hK
      generalize hm : (l.drop at_.toNat).take w.toNat = m at hK
      have ml : m.length = w.toNat := by rw [← hm]; simp; omega
      unfold N44_l0
      refine loopP_inv (fun (x : Int × Int) hc => hc = h ∧ ∃ i : Nat, x.2 = i ∧ i ≤ m.length ∧ x.1 = ((nat256 (m.take i) : Nat) : Int)) (fun x _ => m.length - x.2.toNat) ?_ ⟨rfl, 0, rfl, Nat.zero_le _, rfl⟩
      rintro ⟨v, x⟩ hc2 ⟨rfl, i, hx, hi, hv⟩
      simp only at hx hv
      subst hx; subst hv
      unfold N44_l0_B N44_l0_b
      dsimp only
      by_cases hlt : i < m.length
      ·have : decide ((i : Int) < w) = true := by simp; omega
       rw [this, cond_true]
       rw [wi64i (x := at_ + (i : Int)) (by omega) (by omega)]
       refine H.at (i := at_.toNat + i) (by omega) (by omega) ?_
       have hb := nat256_lt (m.take i)
       have hp := pow256_le (k := (m.take i).length) (by simp; omega)
       have el : l[at_.toNat + i]'(by omega) = m[i] := by
        simp only [← hm, List.getElem_take, List.getElem_drop]
       have hu := (m[i]).toNat_lt
       rw [el, wu64i (x := (nat256 (m.take i) : Int) * 256) (by omega) (by omega), wu64i (x := (m[i].toNat : Int)) (by omega) (by omega), wu64i (by omega) (by omega), nat_succ64 (by omega)]
       have e3 : (nat256 (m.take i) : Int) * 256 + (m[i].toNat : Int) = ((nat256 (m.take (i + 1)) : Nat) : Int) := by
        rw [← List.take_append_getElem hlt, nat256_snoc]; omega
       rw [e3]
       exact ⟨⟨rfl, i + 1, rfl, hlt, rfl⟩, by show m.length - (((i + 1 : Nat) : Int)).toNat < m.length - ((i : Nat) : Int).toNat; omega⟩
      ·have : decide ((i : Int) < w) = false := by simp; omega
       rw [this, cond_false]
       rw [List.take_of_length_le (by omega)]
       exact hK
end Go.Proofs.Ytkfccpabigikkaa

set_option linter.unusedVariables false
set_option maxRecDepth 100000
namespace Go.Proofs.Ytkfccpabigikkaa
open Go Go.Hw
end Go.Proofs.Ytkfccpabigikkaa

set_option linter.unusedVariables false
set_option maxRecDepth 100000
namespace Go.Proofs.Ytkfccpabigikkaa
open Go Go.Hw
end Go.Proofs.Ytkfccpabigikkaa

/-
 The internet's sum: the program's and the document's; bytes lent; the bound.
-/
-- (no octet.Sum)
-- (no ref01.Sum)
-- (no ref01.Beyond)
set_option linter.unusedSimpArgs false
set_option linter.unusedVariables false
namespace Go.Proofs.Ytkfccpabigikkaa
open Go Go.Hw
def wat (i : Nat) (b : UInt8) : Nat := if i % 2 = 0 then 256 * b.toNat else b.toNat
def ws : Nat → List UInt8 → Nat
 | _, [] => 0
 | i, b :: l => wat i b + ws (i + 1) l
structure RdP (h : Hp) (s : Sl) (ts : List Sl) (ps : List (List UInt8)) : Prop where
 n : s.n = ts.length
 len : ts.length = ps.length
 r : Rdc h s.p (ts.map Sl.v)
 each : ∀ (i : Nat) t l, ts[i]? = some t → ps[i]? = some l → RdB h t l
theorem RdP.ext {h h' : Hp} {s : Sl} {ts : List Sl} {ps : List (List UInt8)} (H : RdP h s ts ps) (he : Ext none' h h') : RdP h' s ts ps := ⟨H.n, H.len, H.r.ext he, fun i t l h1 h2 => (H.each i t l h1 h2).ext he⟩
theorem RdP.at {h : Hp} {s : Sl} {ts : List Sl} {ps : List (List UInt8)} (H : RdP h s ts ps) {x : Int} {i : Nat} (hx : x = i) (hi : i < ps.length) {F : Sl → Prop} (hF : ∀ t, ts[i]? = some t → RdB h t (ps[i]'hi) → F t) : idx x s.n (nn s.p fun a => xL (cell h (a.add (x.toNat * 1))) F) := by
 have hi2 : i < ts.length := by rw [H.len]; exact hi
 obtain ⟨a, hp, hc⟩ := H.r i (ts[i]).v (by rw [List.getElem?_map, List.getElem?_eq_getElem hi2]; rfl)
 refine idx_of (by omega) (by rw [H.n]; omega) ?_
 rw [hp]
 subst hx
 simp only [nn_some', Nat.mul_one, Int.toNat_natCast, hc, xL_v]
 exact hF _ (List.getElem?_eq_getElem hi2) (H.each i _ _ (List.getElem?_eq_getElem hi2) (List.getElem?_eq_getElem hi))
end Go.Proofs.Ytkfccpabigikkaa

set_option linter.unusedVariables false
set_option maxRecDepth 100000
namespace Go.Proofs.Ytkfccpabigikkaa
open Go Go.Hw
end Go.Proofs.Ytkfccpabigikkaa

set_option linter.unusedVariables false
set_option maxRecDepth 100000
namespace Go.Proofs.Ytkfccpabigikkaa
open Go Go.Hw
end Go.Proofs.Ytkfccpabigikkaa

/-
 A book of lists of bytes that came out: one more is taken; all of them are their owner's.
-/
set_option linter.unusedSimpArgs false
set_option linter.unusedVariables false
namespace Go.Proofs.Ytkfccpabigikkaa
open Go Go.Hw
abbrev Ent := Sl × List UInt8
def ownB (e : Ent) : Asn := Hw.own 5 1 e.1 (bc e.2)
theorem Sat.ex {α : Type} {L : List Asn} {A : α → Asn} {h : Hp} (a : α) (hs : Sat (L ++ [A a]) h) : Sat (L ++ [exs A]) h := hs.imp 0 rfl fun F hF => ⟨a, hF⟩
def mk (i n : Nat) : List UInt8 := (List.range n).map fun j => UInt8.ofNat (markN i j)
def dn (i : Nat) (e : Ent) (g : Sl) : Asn :=
 orA (star [pur (g.p = e.1.p ∧ g.c = e.1.c ∧ e.1.n = e.2.length ∧ e.1.n ≤ e.1.c), Hw.own 5 1 g (bc (mk i (e.2.length + 9)))]) (star [Hw.own 5 1 e.1 (bc (mk i e.2.length)), Hw.own 5 1 g (bc (mk i (e.2.length + 9)))])
def its (E : List Ent) (G : List Sl) : List Asn := E.mapIdx fun j e => match G[j]? with
 | some g => dn j e g
 | none => ownB e
end Go.Proofs.Ytkfccpabigikkaa

/-
  Rows of bytes that may bear a mark behind their end (a string's bytes, taken as a slice): reading, writing, append.
-/
set_option linter.unusedSimpArgs false
set_option linter.unusedVariables false
namespace Go.Hw
open Go
def Blm (h : Hp) (b : Nat) (T : TypeId) (l : List Value) : Prop := ∃ z : Nat × Nat, (z.1 = z.2 ∨ l.length ≤ z.1) ∧ h b = some (.cells ⟨l⟩ T z)
theorem Blk.m {h : Hp} {b : Nat} {T : TypeId} {l : List Value} (hb : Blk h b T l) : Blm h b T l := ⟨(0, 0), .inl rfl, hb⟩
theorem Blm.cell {h : Hp} {b k : Nat} {T : TypeId} {l : List Value} (hb : Blm h b T l) : Hw.cell h ⟨b, k, none⟩ = l[k]? := by
  obtain ⟨z, _, hb⟩ := hb; exact cell_at hb
theorem Blm.st {h : Hp} {b k : Nat} {T : TypeId} {l : List Value} {v : Value} {F : Hp → Prop} (hb : Blm h b T l) (hk : k < l.length) (hp : plain v = true)
    (hF : ∀ h', Blm h' b T (l.set k v) → (∀ c, c ≠ b → h' c = h c) → F h') : Hw.st h ⟨b, k, none⟩ v F := by
  obtain ⟨⟨z1, z2⟩, hz, hb⟩ := hb
  unfold Hw.st; rw [hp]
  refine ⟨⟨by rw [cell_at hb]; simp [hk], ?_⟩, ?_⟩
  · unfold frz
    simp only [hb]
    rcases hz with hz | hz
    · have hz : z1 = z2 := hz
      subst hz
      by_cases hq : z1 ≤ k
      · have : ¬ k < z1 := by omega
        simp [this]
      · simp [hq]
    · have : ¬ z1 ≤ k := by have : l.length ≤ z1 := hz; omega
      simp [this]
  · have e : setc h ⟨b, k, none⟩ v = upd h b (.cells ⟨l.set k v⟩ T (z1, z2)) := by simp [Hw.setc, hb]
    rw [e]
    exact hF _ ⟨(z1, z2), by simpa using hz, upd_same⟩ fun c hc => upd_ne hc
theorem wrL_blm {b : Nat} {T : TypeId} {F : Hp → Prop} {o : Nat} : ∀ (l : List Value) (i : Nat) (h : Hp) (cs : List Value), Blm h b T cs → o + i + l.length ≤ cs.length → (∀ v ∈ l, plain v = true) →
    (∀ h', Blm h' b T (setL cs (o + i) l) → (∀ c, c ≠ b → h' c = h c) → F h') → wrL ⟨b, o, none⟩ i l h F := by
  intro l
  induction l with
  | nil => intro i h cs hb _ _ hF; exact hF h hb fun _ _ => rfl
  | cons v l ih =>
    intro i h cs hb hi hp hF
    simp only [List.length_cons] at hi
    simp only [wrL, add_mk]
    refine hb.st (by omega) (hp v (List.mem_cons_self ..)) ?_
    intro h1 hb1 hf1
    refine ih (i + 1) _ (cs.set (o + i) v) hb1 (by simp; omega) (fun w hw => hp w (List.mem_cons_of_mem _ hw)) ?_
    intro h' hb' hf
    refine hF h' hb' ?_
    intro c hc; rw [hf c hc, hf1 c hc]
def OwnB (h : Hp) (T : TypeId) (s : Sl) (l : List UInt8) : Prop :=
  l.length = s.n ∧ s.n ≤ s.c ∧
  match s.p with
  | none => s.c = 0
  | some a => a = bk a.block ∧ ∃ cs, Blm h a.block T cs ∧ cs.length = s.c ∧ cs.take l.length = bc l
theorem Own.ownB {h : Hp} {T : TypeId} {s : Sl} {l : List UInt8} (ho : Own h T 1 s (bc l)) : OwnB h T s l := by
  obtain ⟨h1, h2, h3⟩ := ho
  refine ⟨by simpa using h1, h2, ?_⟩
  cases hp : s.p with
  | none => rw [hp] at h3; exact h3
  | some a =>
    rw [hp] at h3
    obtain ⟨e, cs, hb, hl, ht⟩ := h3
    exact ⟨e, cs, hb.m, by simpa using hl, by simpa using ht⟩
theorem OwnB.rdb {h : Hp} {T : TypeId} {s : Sl} {l : List UInt8} (ho : OwnB h T s l) : RdB h s l := by
  obtain ⟨h1, h2, h3⟩ := ho
  refine ⟨h1.symm, h2, ?_⟩
  intro i v hi
  have hil := (List.getElem?_eq_some_iff.1 hi).1
  rw [bc_len] at hil
  cases hp : s.p with
  | none => rw [hp] at h3; have : s.c = 0 := h3; omega
  | some a =>
    rw [hp] at h3
    obtain ⟨e, cs, hb, hl, ht⟩ := h3
    refine ⟨a, rfl, ?_⟩
    rw [e, add_bk, hb.cell]
    rw [← ht, List.getElem?_take, if_pos hil] at hi
    exact hi
theorem OwnB.st {h : Hp} {T : TypeId} {s : Sl} {l : List UInt8} (ho : OwnB h T s l) {k : Nat} (hk : k < l.length) {v : UInt8} {F : Hp → Prop}
    (hF : ∀ b h', s.p = some (bk b) → OwnB h' T s (l.set k v) → (∀ c, c ≠ b → h' c = h c) → F h') : ∃ b, s.p = some (bk b) ∧ Hw.st h ⟨b, k, none⟩ (.int .u8 v.toNat) F := by
  obtain ⟨h1, h2, h3⟩ := ho
  cases hp : s.p with
  | none => rw [hp] at h3; have : s.c = 0 := h3; omega
  | some a =>
    rw [hp] at h3
    obtain ⟨e, cs, hb, hl, ht⟩ := h3
    refine ⟨a.block, by rw [← e], ?_⟩
    refine hb.st (by omega) rfl ?_
    intro h' hb' hf
    refine hF a.block h' (by rw [hp, ← e]) ⟨by simpa using h1, h2, ?_⟩ hf
    show match s.p with | none => _ | some a => _
    rw [hp]
    refine ⟨e, _, hb', by simpa using hl, ?_⟩
    rw [List.length_set, List.take_set, ht, bc_set]
theorem OwnB.ap {P : Program} {T : TypeId} {s : Sl} {l m : List UInt8} {y : Value} {h : Hp} {F : Sl → Hp → Prop} (ho : OwnB h T s l)
    (hsz : P.cellsOf T = 1) (hz : (zc P T).length = 1) (hln : ∀ G : Nat → Prop, lnK y G = G m.length) (hsrc : ∀ G : List Value → Prop, G (bc m) → srcK h 1 m.length y G) (hby : (s.n + m.length) * 2 * P.bytesOf T ≤ 2 ^ 48)
    (hF : ∀ s' h', OwnB h' T s' (l ++ m) → Ext (fun b => s.p = some (bk b)) h h' → (∀ b, s'.p = some (bk b) → s.p = some (bk b) ∨ h b = none) → F s' h') : apK P T s y h F := by
  have hr := ho.rdb
  unfold apK
  rw [hln]
  obtain ⟨h1, h2, h3⟩ := ho
  refine ⟨fun hc => ?_, fun hc => ⟨?_, ?_⟩⟩
  · rw [hsz]
    refine hsrc _ ?_
    cases hp : s.p with
    | none =>
      rw [hp] at h3
      have h3' : s.c = 0 := h3
      have hm : m = [] := List.length_eq_zero_iff.1 (by omega)
      subst hm
      simp only []
      refine hF ⟨none, s.n + 0, s.c⟩ h ⟨by simp; omega, by simp; omega, h3'⟩ Ext.refl (by intro b hb; cases hb)
    | some a =>
      rw [hp] at h3
      obtain ⟨e, cs, hb, hl, ht⟩ := h3
      simp only []
      rw [e, add_bk, Nat.mul_one]
      refine wrL_blm (bc m) 0 h cs hb (by rw [bc_len]; omega) bc_plain ?_
      intro h' hb' hf
      rw [Nat.add_zero, setL_eq (by rw [bc_len]; omega)] at hb'
      refine hF ⟨some (bk a.block), s.n + m.length, s.c⟩ h' ⟨by simp; omega, hc, rfl, _, hb', ?_, ?_⟩ ?_ ?_
      · simp; omega
      · rw [← h1, ht, bc_app, List.append_assoc, ← List.append_assoc (bc l)]
        exact List.take_left' (by simp)
      · intro c o hco hn
        have : c ≠ a.block := by rintro rfl; exact hn (by show s.p = some (bk a.block); rw [hp, ← e])
        rw [hf c this]; exact hco
      · intro b hb; left; rw [← hb]; rw [hp, ← e]
  · have := nextcap_le (s.n + m.length) s.c hc
    calc _ ≤ 2 * (s.n + m.length) * P.bytesOf T := Nat.mul_le_mul_right _ this
      _ = (s.n + m.length) * 2 * P.bytesOf T := by rw [Nat.mul_comm 2]
      _ ≤ 2 ^ 48 := hby
  · rw [hsz]
    refine hr.srcK (n := s.n) (by omega) ?_
    refine hsrc _ ?_
    intro c b hcb hb
    rw [← h1, List.take_length]
    have harr : (⟨bc l ++ bc m⟩ : Array Value) ++ zeros P T (c - (l.length + m.length)) = ⟨(bc l ++ bc m) ++ (zeros P T (c - (l.length + m.length))).toList⟩ := by apply Array.ext'; simp
    rw [harr]
    refine hF ⟨some (bk b), l.length + m.length, c⟩ _ ⟨by simp, by show l.length + m.length ≤ c; omega, rfl, _, ⟨(0, 0), .inl rfl, upd_same⟩, ?_, ?_⟩ (Ext.new hb) ?_
    · show _ = c
      rw [List.length_append, zeros_len, hz, List.length_append, bc_len, bc_len]; omega
    · rw [bc_app]; exact List.take_left' (by simp)
    · intro b' hb'; right
      simp only [Option.some.injEq] at hb'
      have : b = b' := congrArg Addr.block hb'
      subst this; exact hb
def byt (T : TypeId) (s : Sl) (l : List UInt8) : Asn :=
  ⟨fun F h => (∀ x, F x ↔ s.p = some (bk x)) ∧ OwnB h T s l,
   fun {F h h'} hl hh => ⟨hh.1, by
    obtain ⟨h1, h2, h3⟩ := hh.2
    refine ⟨h1, h2, ?_⟩
    cases hp : s.p with
    | none => rw [hp] at h3; exact h3
    | some a =>
      rw [hp] at h3
      obtain ⟨e, cs, ⟨z, hz, hb⟩, hr⟩ := h3
      exact ⟨e, cs, ⟨z, hz, (hl a.block ((hh.1 _).2 (by rw [hp, e]))).trans hb⟩, hr⟩⟩,
   fun {F h x} hh hx => by
    have hp := (hh.1 x).1 hx
    have h3 := hh.2.2.2
    rw [hp] at h3
    obtain ⟨_, cs, ⟨z, _, hb⟩, _⟩ := h3
    rw [show h x = _ from hb]; simp⟩
theorem Sat.byt {L M : List Asn} {h : Hp} (hs : Sat (L ++ M) h) (j : Nat) {T : TypeId} {s : Sl} {l : List UInt8} (hj : M[j]? = some (Hw.byt T s l)) : OwnB h T s l := let ⟨_, hF⟩ := hs.get' j hj; hF.2
theorem Sat.addB {L M : List Asn} {h h' : Hp} {T : TypeId} {s : Sl} {l : List UInt8} (hs : Sat (L ++ M) h) (he : Ext none' h h') (ho : OwnB h' T s l) (hf : ∀ b, s.p = some (bk b) → h b = none) : Sat (L ++ (M ++ [Hw.byt T s l])) h' :=
  hs.add he (F' := fun x => s.p = some (bk x)) ⟨fun _ => Iff.rfl, ho⟩ hf
theorem Sat.s2b {L M : List Asn} {h : Hp} {T : TypeId} {l : List UInt8} {F : Sl → Hp → Prop} (hs : Sat (L ++ M) h) (hF : ∀ s h', Sat (L ++ (M ++ [Hw.byt T s l])) h' → F s h') : Hw.s2b T ⟨⟨l⟩⟩ h F := by
  intro c b hc hb
  have hsz : (⟨⟨l⟩⟩ : ByteArray).size = l.length := rfl
  rw [hsz] at hc ⊢
  refine hF _ _ (hs.addB (s := ⟨some ⟨b, 0, none⟩, l.length, c⟩) (Ext.new hb) ⟨rfl, hc, rfl, _, ⟨(c, c + 1), .inr ?_, upd_same⟩, ?_, ?_⟩ ?_)
  · rw [bcells_bc]; simp; omega
  · rw [bcells_bc]; simp; omega
  · rw [bcells_bc]; exact List.take_left' (by simp)
  · intro b' hb'
    simp only [Option.some.injEq] at hb'
    have : b = b' := congrArg Addr.block hb'
    subst this; exact hb
end Go.Hw

/-
 Copy, for elements of any number of cells.
-/
set_option linter.unusedSimpArgs false
set_option linter.unusedVariables false
namespace Go.Hw
open Go
end Go.Hw

/-
 More on separate blocks: another order, loads out of rows, one of a star.
-/
set_option linter.unusedSimpArgs false
set_option linter.unusedVariables false
namespace Go.Hw
open Go
theorem Sat.sel {L M : List Asn} {h : Hp} (hs : Sat (L ++ M) h) (is : List Nat) (hn : is.Nodup) {M' : List Asn} (hM : is.map (fun i => M[i]?) = M'.map some) : Sat (L ++ M') h := by
 have hlen : is.length = M'.length := by have := congrArg List.length hM; simpa using this
 have key : ∀ (i : Nat) (A : Asn), M'[i]? = some A → ∃ k : Nat, is[i]? = some k ∧ M[k]? = some A := by
  intro i A hA
  have h1 := congrArg (fun l => l[i]?) hM
  simp only [List.getElem?_map, hA, Option.map_some] at h1
  cases hk : is[i]? with
  | none => rw [hk] at h1; cases h1
  | some k => rw [hk] at h1; exact ⟨k, rfl, by simpa using h1⟩
 refine hs.pick (fun i => if i < L.length then i else L.length + is.getD (i - L.length) 0) ?_ ?_
 ·intro i A hi
  by_cases e : i < L.length
  ·rw [if_pos e]; rw [List.getElem?_append_left e] at hi ⊢; exact hi
  ·rw [if_neg e]
   rw [List.getElem?_append_right (by omega)] at hi
   obtain ⟨k, hk, hA⟩ := key _ _ hi
   rw [List.getElem?_append_right (by omega), Nat.add_sub_cancel_left]
   simp only [List.getD, hk, Option.getD_some]; exact hA
 ·intro i j hi hj e
  simp only [List.length_append] at hi hj
  by_cases e1 : i < L.length
  ·by_cases e2 : j < L.length
   ·simp only [if_pos e1, if_pos e2] at e; exact e
   ·simp only [if_pos e1, if_neg e2] at e; omega
  ·by_cases e2 : j < L.length
   ·simp only [if_neg e1, if_pos e2] at e; omega
   ·simp only [if_neg e1, if_neg e2] at e
    have hi' : i - L.length < is.length := by omega
    have hj' : j - L.length < is.length := by omega
    simp only [List.getD, List.getElem?_eq_getElem hi', List.getElem?_eq_getElem hj', Option.getD_some] at e
    have e3 : is[i - L.length] = is[j - L.length] := by omega
    have : i - L.length = j - L.length := (List.getElem_inj hn).1 e3
    omega
theorem Sat.asc {L A B : List Asn} {h : Hp} (hs : Sat ((L ++ A) ++ B) h) : Sat (L ++ (A ++ B)) h := by rw [← List.append_assoc]; exact hs
theorem Sat.csa {L A B : List Asn} {h : Hp} (hs : Sat (L ++ (A ++ B)) h) : Sat ((L ++ A) ++ B) h := by rw [List.append_assoc]; exact hs
theorem Sat.mv {L A B C D : List Asn} {h : Hp} (hs : Sat ((L ++ A) ++ B) h) (e : A ++ B = C ++ D := by rfl) : Sat ((L ++ C) ++ D) h := by rw [List.append_assoc, ← e, ← List.append_assoc]; exact hs
section
variable {L M : List Asn} {h : Hp} {b k : Nat} {T : TypeId} {cs : List Value}
theorem Sat.lI (hs : Sat (L ++ M) h) (j : Nat) {κ : IntKind} {n : Int} {F : Int → Prop} (hj : M[j]? = some (row b T cs)) (hc : cs[k]? = some (.int κ n)) (hF : F n) : xI κ (cell h ⟨b, k, none⟩) F :=
 xI_of (by rw [(hs.blk j hj).cell]; exact hc) hF
theorem Sat.lB (hs : Sat (L ++ M) h) (j : Nat) {n : Bool} {F : Bool → Prop} (hj : M[j]? = some (row b T cs)) (hc : cs[k]? = some (.bool n)) (hF : F n) : xB (cell h ⟨b, k, none⟩) F :=
 xB_of (by rw [(hs.blk j hj).cell]; exact hc) hF
theorem Sat.lS (hs : Sat (L ++ M) h) (j : Nat) {n : ByteArray} {F : ByteArray → Prop} (hj : M[j]? = some (row b T cs)) (hc : cs[k]? = some (.string n)) (hF : F n) : xS (cell h ⟨b, k, none⟩) F :=
 xS_of (by rw [(hs.blk j hj).cell]; exact hc) hF
theorem Sat.lP (hs : Sat (L ++ M) h) (j : Nat) {n : Option Addr} {F : Option Addr → Prop} (hj : M[j]? = some (row b T cs)) (hc : cs[k]? = some (.pointer n)) (hF : F n) : xP (cell h ⟨b, k, none⟩) F :=
 xP_of (by rw [(hs.blk j hj).cell]; exact hc) hF
theorem Sat.lL (hs : Sat (L ++ M) h) (j : Nat) {p : Option Addr} {n c : Nat} {F : Sl → Prop} (hj : M[j]? = some (row b T cs)) (hc : cs[k]? = some (.slice p n c)) (hF : F ⟨p, n, c⟩) : xL (cell h ⟨b, k, none⟩) F :=
 xL_of (s := ⟨p, n, c⟩) (by rw [(hs.blk j hj).cell]; exact hc) hF
theorem Sat.lM (hs : Sat (L ++ M) h) (j : Nat) {n : Option Nat} {F : Option Nat → Prop} (hj : M[j]? = some (row b T cs)) (hc : cs[k]? = some (.map n)) (hF : F n) : xM (cell h ⟨b, k, none⟩) F :=
 xM_of (by rw [(hs.blk j hj).cell]; exact hc) hF
theorem Sat.lA (hs : Sat (L ++ M) h) (j : Nat) {n : Value} {F : Value → Prop} (hj : M[j]? = some (row b T cs)) (hc : cs[k]? = some n) (hF : F n) : xA (cell h ⟨b, k, none⟩) F :=
 xA_of (by rw [(hs.blk j hj).cell]; exact hc) hF
end
section
variable {L M : List Asn} {h : Hp} {T : TypeId} {sz : Nat} {s : Sl} {vs : List Value}
theorem Sat.cel (hs : Sat (L ++ M) h) (j : Nat) {k : Nat} {v : Value} (hj : M[j]? = some (Hw.own T sz s vs)) (hk : vs[k]? = some v) : ∃ b, s.p = some (bk b) ∧ cell h ⟨b, k, none⟩ = some v := (hs.own j hj).get hk
theorem Sat.oI (hs : Sat (L ++ M) h) (j : Nat) {κ : IntKind} {n : Int} {k : Nat} {F : Int → Prop} (hj : M[j]? = some (Hw.own T sz s vs)) (hk : vs[k]? = some (.int κ n)) (hF : F n) : nn s.p fun a => xI κ (cell h (a.add k)) F := by
 obtain ⟨b, hp, hc⟩ := hs.cel j hj hk
 rw [hp, nn_some', add_bk]; exact xI_of hc hF
theorem Sat.stO (hs : Sat (L ++ M) h) (j : Nat) {k : Nat} {v : Value} {F : Hp → Prop} {a : Addr} (hj : M[j]? = some (Hw.own T sz s vs)) (hk : k < vs.length) (hp : plain v = true) (ha : s.p = some a)
  (hF : ∀ h', Sat (L ++ M.set j (Hw.own T sz s (vs.set k v))) h' → F h') : Hw.st h (a.add k) v F := by
 obtain ⟨r, hr, ⟨cs, hb⟩, hst⟩ := (hs.own j hj).st hk
 rw [ha] at hr; cases hr
 rw [add_bk]
 refine hst v F hp fun h' ho he => ?_
 refine hF h' (hs.at j hj fun G hG => ⟨G, ⟨hG.1, ho⟩, fun x hx => .inl hx, fun x hx hne => ?_⟩)
 cases hq : h x with
 | none => exact (hne hq).elim
 | some o => exact he x o hq fun e => hx ((hG.1 x).2 (by rw [ha, e]))
end
theorem Sat.out {L X : List Asn} {A : Asn} {h : Hp} (hs : Sat (L ++ [star X]) h) (j : Nat) (hj : X[j]? = some A) : Sat (L ++ [star (X.eraseIdx j), A]) h := by
 have h1 := hs.open.rot j hj
 have h2 : Sat ((L ++ [A]) ++ X.eraseIdx j) h := by
  have hlen := lt_of_get hj
  refine h1.pick (fun i => if i < L.length then i else if i = L.length then (L ++ X.eraseIdx j).length else i - 1) ?_ ?_
  ·intro i B hi
   have hil := lt_of_get hi
   simp only [List.length_append, List.length_singleton] at hil
   by_cases e : i < L.length
   ·simp only [if_pos e]
    rw [List.getElem?_append_left (by simp; omega), List.getElem?_append_left e] at hi
    rw [List.getElem?_append_left (by simp; omega), List.getElem?_append_left e]; exact hi
   ·simp only [if_neg e]
    by_cases e2 : i = L.length
    ·simp only [if_pos e2]
     rw [e2, List.getElem?_append_left (by simp), List.getElem?_append_right (Nat.le_refl _), Nat.sub_self] at hi
     rw [List.getElem?_append_right (Nat.le_refl _), Nat.sub_self]; exact hi
    ·simp only [if_neg e2]
     rw [List.getElem?_append_right (by simp; omega)] at hi
     rw [List.getElem?_append_left (by simp; omega), List.getElem?_append_right (by omega)]
     rw [show i - 1 - L.length = i - (L ++ [A]).length by simp; omega]; exact hi
  ·intro i k hi hk e
   simp only [List.length_append, List.length_singleton] at hi hk e
   split at e <;> split at e <;> (try split at e) <;> (try split at e) <;> omega
 have h3 := h2.close
 have h4 : Sat (L ++ [A, star (X.eraseIdx j)]) h := by simpa using h3
 exact h4.sel [1, 0] (by decide) rfl
theorem Sat.inn {L X : List Asn} {A' : Asn} {h : Hp} (j : Nat) (hs : Sat (L ++ [star (X.eraseIdx j), A']) h) (hj : j < X.length) : Sat (L ++ [star (X.set j A')]) h := by
 have h1 : Sat (L ++ [A', star (X.eraseIdx j)]) h := hs.sel [1, 0] (by decide) rfl
 have h2 : Sat ((L ++ [A']) ++ [star (X.eraseIdx j)]) h := by simpa using h1
 have h3 := h2.open
 have hel : (X.eraseIdx j).length + 1 = X.length := by rw [List.length_eraseIdx_of_lt hj]; omega
 have h4 : Sat ((L ++ X.eraseIdx j) ++ [A']) h := by
  refine h3.pick (fun i => if i < L.length then i else if i = (L ++ X.eraseIdx j).length then L.length else i + 1) ?_ ?_
  ·intro i B hi
   have hil := lt_of_get hi
   simp only [List.length_append, List.length_singleton] at hil
   by_cases e : i < L.length
   ·simp only [if_pos e]
    rw [List.getElem?_append_left (by simp; omega), List.getElem?_append_left e] at hi
    rw [List.getElem?_append_left (by simp; omega), List.getElem?_append_left e]; exact hi
   ·simp only [if_neg e]
    by_cases e2 : i = (L ++ X.eraseIdx j).length
    ·simp only [if_pos e2]
     rw [e2, List.getElem?_append_right (Nat.le_refl _), Nat.sub_self] at hi
     rw [List.getElem?_append_left (by simp), List.getElem?_append_right (Nat.le_refl _), Nat.sub_self]; exact hi
    ·simp only [if_neg e2]
     simp only [List.length_append] at e2
     rw [List.getElem?_append_left (by simp; omega), List.getElem?_append_right (by omega)] at hi
     rw [List.getElem?_append_right (by simp; omega)]
     rw [show i + 1 - (L ++ [A']).length = i - L.length by simp]; exact hi
  ·intro i k hi hk e
   simp only [List.length_append, List.length_singleton] at hi hk e
   split at e <;> split at e <;> (try split at e) <;> (try split at e) <;> omega
 exact (h4.back hj).close
theorem Sat.perm {X Y : List Asn} (hp : X.Perm Y) : ∀ {L : List Asn} {h : Hp}, Sat (L ++ X) h → Sat (L ++ Y) h := by
 induction hp with
 | nil => intro L h hs; exact hs
 | cons a _ ih =>
  intro L h hs
  have h1 : Sat (L ++ ([a] ++ _)) h := hs
  exact Sat.asc (ih (Sat.csa h1))
 | swap a b l =>
  intro L h hs
  have hs : Sat (L ++ b :: a :: l) h := hs
  refine hs.pick (fun i => if i = L.length then L.length + 1 else if i = L.length + 1 then L.length else i) ?_ ?_
  ·intro i A hi
   by_cases e : i < L.length
   ·rw [List.getElem?_append_left e] at hi
    rw [if_neg (by omega), if_neg (by omega), List.getElem?_append_left e]; exact hi
   ·rw [List.getElem?_append_right (by omega)] at hi
    by_cases e1 : i = L.length
    ·rw [if_pos e1, List.getElem?_append_right (by omega)]
     rw [e1, Nat.sub_self] at hi
     rw [Nat.add_sub_cancel_left]; exact hi
    ·rw [if_neg e1]
     by_cases e2 : i = L.length + 1
     ·rw [if_pos e2, List.getElem?_append_right (by omega)]
      rw [e2, Nat.add_sub_cancel_left] at hi
      rw [Nat.sub_self]; exact hi
     ·rw [if_neg e2, List.getElem?_append_right (by omega)]
      obtain ⟨k, hk⟩ : ∃ k, i - L.length = k + 2 := ⟨i - L.length - 2, by omega⟩
      rw [hk] at hi ⊢; exact hi
  ·intro i j hi hj e
   split at e <;> split at e <;> (try split at e) <;> (try split at e) <;> omega
 | trans _ _ ih1 ih2 => intro L h hs; exact ih2 (ih1 hs)
theorem Sat.call2 {L : List Asn} {A : Asn} {h : Hp} (hs : Sat (L ++ [A]) h) :
  ∃ F, A.on F h ∧ ∀ (h' : Hp) (A' B : Asn) (F' G : Nat → Prop), A'.on F' h' → B.on G h' → (∀ x, F' x → ¬ G x) → Ext F h h' → (∀ x, F' x → F x ∨ h x = none) → (∀ x, G x → F x ∨ h x = none) → Sat (L ++ [A', B]) h' := by
 obtain ⟨F, h1, h2⟩ := hs
 have hA := h1 L.length A (by simp)
 refine ⟨F L.length, hA, fun h' A' B F' G ha hb hd he hf hg => ?_⟩
 have dm : ∀ (i : Nat) x, i < (L ++ [A]).length → F i x → h x ≠ none := fun i x hi hx => let ⟨C, hC⟩ := get_of_lt hi; C.dom (h1 i C hC) hx
 refine ⟨fun i => if i < L.length then F i else if i = L.length then F' else G, ?_, ?_⟩
 ·intro i C hi
  have hil := lt_of_get hi
  simp only [List.length_append, List.length_cons, List.length_nil] at hil
  by_cases e : i < L.length
  ·simp only [if_pos e]
   rw [List.getElem?_append_left e] at hi
   have hi' : (L ++ [A])[i]? = some C := by rw [List.getElem?_append_left e]; exact hi
   refine C.loc (fun x hx => ?_) (h1 i C hi')
   cases hq : h x with
   | none => exact (dm i x (lt_of_get hi') hx hq).elim
   | some o => exact he x o hq fun hfx => by have := h2 i _ x (lt_of_get hi') (by simp) hx hfx; omega
  ·simp only [if_neg e]
   rw [List.getElem?_append_right (by omega)] at hi
   by_cases e2 : i = L.length
   ·simp only [if_pos e2]
    rw [show i - L.length = 0 by omega] at hi
    simp at hi; subst hi; exact ha
   ·simp only [if_neg e2]
    rw [show i - L.length = 1 by omega] at hi
    simp at hi; subst hi; exact hb
 ·have key : ∀ i x, i < L.length → F i x → ¬ (F L.length x ∨ h x = none) := by
   intro i x hi hx hq
   rcases hq with q | q
   ·have := h2 i _ x (by simp; omega) (by simp) hx q; omega
   ·exact dm i x (by simp; omega) hx q
  intro i k x hi hk hx hy
  simp only [List.length_append, List.length_cons, List.length_nil] at hi hk
  by_cases e : i < L.length
  ·simp only [if_pos e] at hx
   by_cases e2 : k < L.length
   ·simp only [if_pos e2] at hy
    exact h2 i k x (by simp; omega) (by simp; omega) hx hy
   ·simp only [if_neg e2] at hy
    by_cases e3 : k = L.length
    ·simp only [if_pos e3] at hy; exact (key i x e hx (hf x hy)).elim
    ·simp only [if_neg e3] at hy; exact (key i x e hx (hg x hy)).elim
  ·simp only [if_neg e] at hx
   by_cases e2 : k < L.length
   ·simp only [if_pos e2] at hy
    by_cases e3 : i = L.length
    ·simp only [if_pos e3] at hx; exact (key k x e2 hy (hf x hx)).elim
    ·simp only [if_neg e3] at hx; exact (key k x e2 hy (hg x hx)).elim
   ·simp only [if_neg e2] at hy
    by_cases e3 : i = L.length
    ·simp only [if_pos e3] at hx
     by_cases e4 : k = L.length
     ·omega
     ·simp only [if_neg e4] at hy; exact (hd x hx hy).elim
    ·simp only [if_neg e3] at hx
     by_cases e4 : k = L.length
     ·simp only [if_pos e4] at hy; exact (hd x hy hx).elim
     ·omega
theorem Sat.call {L : List Asn} {A : Asn} {h : Hp} (hs : Sat (L ++ [A]) h) :
  ∃ F, A.on F h ∧ ∀ (h' : Hp) (A' : Asn) (F' : Nat → Prop), A'.on F' h' → Ext F h h' → (∀ x, F' x → F x ∨ h x = none) → Sat (L ++ [A']) h' := by
 obtain ⟨F, h1, h2⟩ := hs.call2
 refine ⟨F, h1, fun h' A' F' ha he hf => ?_⟩
 have := h2 h' A' emp F' (fun _ => False) ha (fun _ e => e) (fun _ _ e => e) he hf (fun _ e => e.elim)
 exact this.sel [0] (by decide) rfl
end Go.Hw

/-
  Slices that own the rest of their row from some place on: queues (append behind, cut ahead).
-/
set_option linter.unusedSimpArgs false
set_option linter.unusedVariables false
namespace Go.Hw
open Go
def OwnT (h : Hp) (T : TypeId) (sz : Nat) (s : Sl) (vs : List Value) : Prop :=
  vs.length = s.n * sz ∧ s.n ≤ s.c ∧ (s.c ≠ 0 → ∃ b o cs, s.p = some ⟨b, o, none⟩ ∧ Blk h b T cs ∧ cs.length = o + s.c * sz ∧ (cs.drop o).take vs.length = vs)
def Sl.tb (s : Sl) (x : Nat) : Prop := s.c ≠ 0 ∧ ∃ o, s.p = some ⟨x, o, none⟩
def tailA (T : TypeId) (sz : Nat) (s : Sl) (vs : List Value) : Asn :=
  ⟨fun F h => (∀ x, F x ↔ s.tb x) ∧ OwnT h T sz s vs,
   fun {F h h'} hl hh => ⟨hh.1, hh.2.1, hh.2.2.1, fun hc => by
    obtain ⟨b, o, cs, hp, hb, hr⟩ := hh.2.2.2 hc
    exact ⟨b, o, cs, hp, (hl b ((hh.1 b).2 ⟨hc, o, hp⟩)).trans hb, hr⟩⟩,
   fun {F h x} hh hx => by
    obtain ⟨hc, o, hp⟩ := (hh.1 x).1 hx
    obtain ⟨b, o', cs, hp', hb, _⟩ := hh.2.2.2 hc
    rw [hp] at hp'; cases hp'
    rw [show h x = _ from hb]; simp⟩
section
variable {P : Program} {L M : List Asn} {h : Hp} {T : TypeId} {sz : Nat} {s : Sl} {vs : List Value}
theorem OwnT.nil {p : Option Addr} : OwnT h T sz ⟨p, 0, 0⟩ [] := ⟨by simp, Nat.le_refl _, fun e => absurd rfl e⟩
theorem Own.tail (ho : Own h T sz s vs) : OwnT h T sz s vs := by
  obtain ⟨h1, h2, h3⟩ := ho
  refine ⟨h1, h2, fun hc => ?_⟩
  cases hp : s.p with
  | none => rw [hp] at h3; exact absurd h3 hc
  | some a =>
    rw [hp] at h3
    obtain ⟨e, cs, hb, hl, ht⟩ := h3
    exact ⟨a.block, 0, cs, by rw [e], hb, by omega, by simpa using ht⟩
theorem OwnT.get (ho : OwnT h T sz s vs) {k : Nat} {v : Value} (hk : vs[k]? = some v) : ∃ a, s.p = some a ∧ cell h (a.add k) = some v := by
  have hlt := (List.getElem?_eq_some_iff.1 hk).1
  have hc : s.c ≠ 0 := by
    intro e
    have h1 := ho.1; have h2 := ho.2.1
    have : s.n = 0 := by omega
    rw [this, Nat.zero_mul] at h1; omega
  obtain ⟨b, o, cs, hp, hb, hl, ht⟩ := ho.2.2 hc
  refine ⟨_, hp, ?_⟩
  rw [add_mk, hb.cell]
  rw [← ht, List.getElem?_take, if_pos hlt, List.getElem?_drop] at hk
  exact hk
theorem OwnT.rdc (ho : OwnT h T sz s vs) : Rdc h s.p vs := fun i v hi => ho.get hi
theorem Sat.tail (hs : Sat (L ++ M) h) (j : Nat) (hj : M[j]? = some (tailA T sz s vs)) : OwnT h T sz s vs := let ⟨_, hF⟩ := hs.get' j hj; hF.2
theorem OwnT.cut (ho : OwnT h T sz s vs) {k : Nat} (hk : k ≤ s.n) (h0 : 0 < sz) : OwnT h T sz ⟨sadr s.p s.c k sz, s.n - k, s.c - k⟩ (vs.drop (k * sz)) := by
  obtain ⟨h1, h2, h3⟩ := ho
  refine ⟨by rw [List.length_drop, h1, ← Nat.sub_mul], by show s.n - k ≤ s.c - k; omega, fun hc => ?_⟩
  have hc : s.c - k ≠ 0 := hc
  obtain ⟨b, o, cs, hp, hb, hl, ht⟩ := h3 (by omega)
  refine ⟨b, o + k * sz, cs, ?_, hb, ?_, ?_⟩
  · show sadr s.p s.c k sz = _
    unfold sadr
    rw [if_neg (by omega), hp]
    simp
  · show _ = o + k * sz + (s.c - k) * sz
    rw [hl, Nat.sub_mul]
    have : k * sz ≤ s.c * sz := Nat.mul_le_mul_right _ (by omega)
    omega
  · rw [← ht, ← List.drop_drop, List.drop_take, List.length_take]
    congr 1
    rw [List.length_drop, List.length_drop]
    have : vs.length ≤ cs.length - o := by
      have := congrArg List.length ht
      rw [List.length_take, List.length_drop] at this; omega
    omega
end
end Go.Hw

/-
 More on separate blocks: new rows told by a lemma, copies to a place within an owned row.
-/
set_option linter.unusedSimpArgs false
set_option linter.unusedVariables false
namespace Go.Hw
open Go
theorem Sat.nw {L M : List Asn} {h : Hp} {o : Obj} {F : Nat → Hp → Prop} (hs : Sat (L ++ M) h) (hF : ∀ b h', Sat (L ++ (M ++ [Hw.pt b o])) h' → Ext none' h h' → F b h') : Hw.nw h o F :=
 fun b hb => hF b _ (hs.new hb o) (Ext.new hb)
theorem Sat.base (h : Hp) : ∃ L, Sat (L ++ []) h ∧ ∀ {M : List Asn} {h' : Hp}, Sat (L ++ M) h' → Ext none' h h' :=
 ⟨[Hw.was h], Sat.start, fun hs => hs.left.was (L := []) (M := [Hw.was h]) 0 rfl⟩
theorem Rdc.srcK {h : Hp} {a : Addr} {vs : List Value} (H : Rdc h (some a) vs) {n m c : Nat} (hn : n ≤ vs.length) {F : List Value → Prop} (hF : F (vs.take n)) : Hw.srcK h 1 n (.slice (some a) m c) F := by
 unfold Hw.srcK
 simp only []
 rw [H.rdN _ _ (by simp; omega)]
 simp only [List.drop_zero, Nat.mul_one]
 exact hF
theorem Blk.rdcAt {h : Hp} {b : Nat} {T : TypeId} {cs : List Value} (hb : Blk h b T cs) (o : Nat) : Rdc h (some ⟨b, o, none⟩) (cs.drop o) := fun i v hi => ⟨_, rfl, by rw [add_mk, hb.cell]; rw [List.getElem?_drop] at hi; exact hi⟩
theorem Sat.cpAt {P : Program} {L M : List Asn} {T : TypeId} {s : Sl} {vs ns : List Value} {y : Value} {h : Hp} {F : Nat → Hp → Prop} {n k : Nat} (hs : Sat (L ++ M) h) (j : Nat) (hj : M[j]? = some (Hw.own T 1 s vs))
  (hk : k ≤ s.n) (hsz : P.cellsOf T = 1) (hln : ∀ G : Nat → Prop, lnK y G = G n) (hn : k + n ≤ s.n) (hsrc : ∀ G : List Value → Prop, G ns → srcK h 1 n y G) (hns : ns.length = n) (hpl : ∀ v ∈ ns, plain v = true)
  (hF : ∀ h', Sat (L ++ M.set j (Hw.own T 1 s (vs.take k ++ ns ++ vs.drop (k + n)))) h' → F n h') : cpK P T ⟨sadr s.p s.c k 1, s.n - k, s.c - k⟩ y h F := by
 unfold cpK
 rw [hln, hsz]
 have em : Nat.min n (s.n - k) = n := Nat.min_eq_left (by omega)
 simp only [em]
 refine hsrc _ ?_
 obtain ⟨ho1, ho2, ho3⟩ := hs.own j hj
 rw [Nat.mul_one] at ho1
 cases hp : s.p with
 | none =>
  rw [hp] at ho3
  have hc : s.c = 0 := ho3
  have hn0 : n = 0 := by omega
  have hk0 : k = 0 := by omega
  subst hn0; subst hk0
  have : ns = [] := List.length_eq_zero_iff.1 hns
  subst this
  have e : sadr none s.c 0 1 = none := by simp
  rw [e]
  simp only []
  refine hF h ?_
  have := hs.imp j hj (A' := Hw.own T 1 s vs) (fun F h => h)
  simpa using this
 | some a =>
  rw [hp] at ho3
  obtain ⟨ea, cs, hcs, hcl, hct⟩ := ho3
  rw [Nat.mul_one] at hcl
  have fin : ∀ h2, (Hw.Blk h2 a.block T (setL cs k ns)) → (∀ x, x ≠ a.block → h2 x = h x) → F n h2 := by
   intro h2 hb2 hf2
   have hlv : vs.length ≤ cs.length := by rw [← hct]; simp; omega
   refine hF h2 (hs.at j hj fun G hG => ⟨G, ⟨hG.1, by simp; omega, ho2, ?_⟩, fun x hx => .inl hx, fun x hx _ => hf2 x (fun e => hx ((hG.1 x).2 (by rw [hp, ea, e])))⟩)
   rw [hp]
   refine ⟨ea, _, hb2, by rw [setL_length, Nat.mul_one]; exact hcl, ?_⟩
   rw [setL_eq (by omega), hns]
   have e1 : cs.take k = vs.take k := by rw [← hct, List.take_take, Nat.min_eq_left (by omega)]
   have e2 : cs.drop (k + n) = vs.drop (k + n) ++ cs.drop vs.length := by
    have h1 : cs = vs ++ cs.drop vs.length := by conv => lhs; rw [← List.take_append_drop vs.length cs, hct]
    conv => lhs; rw [h1]
    rw [List.drop_append_of_le_length (by omega)]
   rw [e1, e2, ← List.append_assoc]
   exact List.take_left
  by_cases hck : s.c = k
  ·have hn0 : n = 0 := by omega
   have : ns = [] := List.length_eq_zero_iff.1 (by omega)
   subst this
   have e : sadr (some a) s.c k 1 = some a := by unfold sadr; rw [if_pos hck]
   rw [e]
   simp only [wrL]
   exact fin h hcs (fun _ _ => rfl)
  ·have e : sadr (some a) s.c k 1 = some (a.add k) := by unfold sadr; rw [if_neg hck]; simp
   rw [e]
   simp only []
   rw [ea, add_bk]
   refine wrL_blk (b := a.block) (o := k) ns 0 _ cs hcs (by omega) hpl ?_
   intro h2 hb2 hf2
   exact fin h2 hb2 hf2
theorem Sat.cp0 {P : Program} {L M : List Asn} {T : TypeId} {s : Sl} {vs ns : List Value} {y : Value} {h : Hp} {F : Nat → Hp → Prop} {n : Nat} (hs : Sat (L ++ M) h) (j : Nat) (hj : M[j]? = some (Hw.own T 1 s vs))
  (hsz : P.cellsOf T = 1) (hln : ∀ G : Nat → Prop, lnK y G = G n) (hn : n ≤ s.n) (hsrc : ∀ G : List Value → Prop, G ns → srcK h 1 n y G) (hns : ns.length = n) (hpl : ∀ v ∈ ns, plain v = true)
  (hF : ∀ h', Sat (L ++ M.set j (Hw.own T 1 s (ns ++ vs.drop n))) h' → F n h') : cpK P T s y h F := by
 have := hs.cpAt (P := P) (F := F) (y := y) (n := n) (k := 0) j hj (Nat.zero_le _) hsz hln (by omega) hsrc hns hpl (fun h' hs' => hF h' (by simpa using hs'))
 simpa using this
theorem Sat.part {L M : List Asn} {h : Hp} (hs : Sat (L ++ M) h) (is : List Nat) (hn : is.Nodup) {M1 M2 : List Asn} (hM : is.map (fun i => M[i]?) = (M1 ++ M2).map some) : Sat ((L ++ M1) ++ M2) h := Sat.csa (hs.sel is hn hM)
end Go.Hw

set_option linter.unusedVariables false
set_option maxRecDepth 100000
namespace Go.Proofs.Ytkfccpabigikkaa
open Go Go.Hw
noncomputable def B39 : Code := match Try.f39.body with | some c => c | none => .skip
def N39 (x0 : Sl) (h : Hp) (K : Sl → Hp → Prop) : Prop :=
 bif x0.p.isNone then
 K ⟨none, 0, 0⟩ h
 else
 nw h (.cells ⟨[]⟩ 5) fun b0 h0 =>
 apK Try.prog 5 ⟨some (bk b0), 0, 0⟩ (.slice x0.p x0.n x0.c) h0 fun s0 h1 =>
 K s0 h1
theorem S39 {x0 : Sl} {h : Hp} {K : Sl → Hp → Prop} (hn : N39 x0 h K) : C39 x0 h K := by
 refine calls_of_D Try.func39 (c := B39) rfl (by kernel_rfl) ?_
 refine den_sound hE hm _ .leaf _ _ _ (annOk_leaf) ?_
 refine cast ?_ hn
 kernel_rfl
end Go.Proofs.Ytkfccpabigikkaa

set_option linter.unusedVariables false
set_option maxRecDepth 100000
namespace Go.Proofs.Ytkfccpabigikkaa
open Go Go.Hw
noncomputable def B69 : Code := match Try.f69.body with | some c => c | none => .skip
def N69  (h : Hp) (K : Int → Int → Int → Int → Int → Int → Hp → Prop) : Prop :=
 nw h (.cells ⟨[.int .u8 0, .int .u8 0, .int .u8 0, .int .u8 0, .int .u8 0, .int .u8 0]⟩ 23) fun b0 h0 =>
 st h0 (bk b0) (.int .u8 0) fun h1 =>
 st h1 ((bk b0).add 1) (.int .u8 1) fun h2 =>
 st h2 ((bk b0).add 2) (.int .u8 8) fun h3 =>
 st h3 ((bk b0).add 3) (.int .u8 0) fun h4 =>
 st h4 ((bk b0).add 4) (.int .u8 6) fun h5 =>
 st h5 ((bk b0).add 5) (.int .u8 4) fun h6 =>
 xI .u8 (cell h6 (bk b0)) fun n0 =>
 xI .u8 (cell h6 ((bk b0).add 1)) fun n1 =>
 xI .u8 (cell h6 ((bk b0).add 2)) fun n2 =>
 xI .u8 (cell h6 ((bk b0).add 3)) fun n3 =>
 xI .u8 (cell h6 ((bk b0).add 4)) fun n4 =>
 xI .u8 (cell h6 ((bk b0).add 5)) fun n5 =>
 K n0 n1 n2 n3 n4 n5 h6
theorem S69 {h : Hp} {K : Int → Int → Int → Int → Int → Int → Hp → Prop} (hn : N69 h K) : C69 h K := by
 refine calls_of_M Try.func69 (c := B69) rfl (by kernel_rfl) ?_
 refine den_sound hE hm _ .leaf _ _ _ (annOk_leaf) ?_
 refine cast ?_ hn
 kernel_rfl
end Go.Proofs.Ytkfccpabigikkaa

set_option linter.unusedVariables false
set_option maxRecDepth 100000
namespace Go.Proofs.Ytkfccpabigikkaa
open Go Go.Hw
noncomputable def B49 : Code := match Try.f49.body with | some c => c | none => .skip
def N49_j0 (x1 : Option Addr) (h : Hp) (Kr : Sl → Int → Hp → Prop) : Prop :=
 mkK Try.prog 5 28 28 h fun s0 h0 =>
 C69 h0 fun n0 n1 n2 n3 n4 n5 h1 =>
 nw h1 (.cells ⟨[.int .u8 0, .int .u8 0, .int .u8 0, .int .u8 0, .int .u8 0, .int .u8 0]⟩ 23) fun b0 h2 =>
 st h2 (bk b0) (.int .u8 n0) fun h3 =>
 st h3 ((bk b0).add 1) (.int .u8 n1) fun h4 =>
 st h4 ((bk b0).add 2) (.int .u8 n2) fun h5 =>
 st h5 ((bk b0).add 3) (.int .u8 n3) fun h6 =>
 st h6 ((bk b0).add 4) (.int .u8 n4) fun h7 =>
 st h7 ((bk b0).add 5) (.int .u8 n5) fun h8 =>
 cpK Try.prog 5 s0 (.slice (sadr (some (bk b0)) 6 0 1) 6 6) h8 fun n6 h9 =>
 nn x1 fun a0 =>
 xI .i64 (cell h9 a0) fun n7 =>
 idx 7 s0.n <|
 nn s0.p fun a1 =>
 st h9 (a1.add ((7 : Int).toNat * 1)) (.int .u8 (IntKind.wrap .u8 n7)) fun h10 =>
 bd 8 s0.n fun k0 =>
 nn x1 fun a2 =>
 cpK Try.prog 5 ⟨sadr s0.p s0.c k0 1, s0.n - k0, s0.c - k0⟩ (.slice (sadr (some (a2.add 1)) 6 0 1) 6 6) h10 fun n8 h11 =>
 bd 14 s0.n fun k1 =>
 nn x1 fun a3 =>
 xI .u32 (cell h11 (a3.add 7)) fun n9 =>
 C70 (IntKind.wrap .u64 n9) 4 h11 fun s1 h12 =>
 cpK Try.prog 5 ⟨sadr s0.p s0.c k1 1, s0.n - k1, s0.c - k1⟩ (.slice s1.p s1.n s1.c) h12 fun n10 h13 =>
 bd 18 s0.n fun k2 =>
 nn x1 fun a4 =>
 cpK Try.prog 5 ⟨sadr s0.p s0.c k2 1, s0.n - k2, s0.c - k2⟩ (.slice (sadr (some (a4.add 8)) 6 0 1) 6 6) h13 fun n11 h14 =>
 bd 24 s0.n fun k3 =>
 nn x1 fun a5 =>
 xI .u32 (cell h14 (a5.add 14)) fun n12 =>
 C70 (IntKind.wrap .u64 n12) 4 h14 fun s2 h15 =>
 cpK Try.prog 5 ⟨sadr s0.p s0.c k3 1, s0.n - k3, s0.c - k3⟩ (.slice s2.p s2.n s2.c) h15 fun n13 h16 =>
 Kr s0 0 h16
noncomputable def N49_j0_t : Xf := pieceT [(1, .c (.ptr))] (codeAt B49 [1, 1]) fun x h Q => N49_j0 x h (fun o0 o1 h' => Q .ret (Sg.env [(2, .c (.slice)), (3, .c (.int .i64))] (o0, o1)) h')
theorem N49_j0_ok : Sound Try.prog Try.f49.ntmps N49_j0_t (codeAt B49 [1, 1]) := by
 refine piece_sound (fun e => match e with | .ret => [2, 3] | _ => []) ?_
 intro x h Q hb
 refine den_sound hE hm _ (.two .leaf (.two .leaf (.two .leaf (.two .leaf (.two (.ord [0, 1, 2, 3, 4]) (.two (.ord [0, 1, 2, 3, 4, 5, 6]) (.two (.ord [0, 1, 2, 3, 4]) (.two (.ord [0, 1, 2, 3, 4, 5, 6]) .leaf)))))))) _ _ _ (⟨annOk_leaf, ⟨annOk_leaf, ⟨annOk_leaf, ⟨annOk_leaf, ⟨trivial, ⟨trivial, ⟨trivial, ⟨trivial, annOk_leaf⟩⟩⟩⟩⟩⟩⟩⟩) ?_
 refine cast ?_ hb
 kernel_rfl
def N49 (x0_0 x0_1 x0_2 x0_3 x0_4 x0_5 x0_6 x0_7 x0_8 x0_9 x0_10 x0_11 x0_12 x0_13 x0_14 : Int) (h : Hp) (K : Sl → Int → Hp → Prop) : Prop :=
 nw h (.cells ⟨[.int .i64 x0_0, .int .u8 x0_1, .int .u8 x0_2, .int .u8 x0_3, .int .u8 x0_4, .int .u8 x0_5, .int .u8 x0_6, .int .u32 x0_7, .int .u8 x0_8, .int .u8 x0_9, .int .u8 x0_10, .int .u8 x0_11, .int .u8 x0_12, .int .u8 x0_13, .int .u32 x0_14]⟩ 42) fun b0 h0 =>
 xI .i64 (cell h0 (bk b0)) fun n0 =>
 bif (n0 != 1) then
 xI .i64 (cell h0 (bk b0)) fun n1 =>
 bif (n1 != 2) then
 K ⟨none, 0, 0⟩ 80 h0
 else
 N49_j0 (some (bk b0)) h0
 (fun s0 n2 h1 =>
 K s0 n2 h1)
 else
 N49_j0 (some (bk b0)) h0
 (fun s1 n3 h2 =>
 K s1 n3 h2)
theorem S49 {x0_0 x0_1 x0_2 x0_3 x0_4 x0_5 x0_6 x0_7 x0_8 x0_9 x0_10 x0_11 x0_12 x0_13 x0_14 : Int} {h : Hp} {K : Sl → Int → Hp → Prop} (hn : N49 x0_0 x0_1 x0_2 x0_3 x0_4 x0_5 x0_6 x0_7 x0_8 x0_9 x0_10 x0_11 x0_12 x0_13 x0_14 h K) : C49 x0_0 x0_1 x0_2 x0_3 x0_4 x0_5 x0_6 x0_7 x0_8 x0_9 x0_10 x0_11 x0_12 x0_13 x0_14 h K := by
 refine calls_of_D Try.func49 (c := B49) rfl (by kernel_rfl) ?_
 refine den_sound hE hm _ (.two .leaf (.two .leaf (.xf N49_j0_t))) _ _ _ (⟨annOk_leaf, ⟨annOk_leaf, N49_j0_ok⟩⟩) ?_
 refine cast ?_ hn
 kernel_rfl
end Go.Proofs.Ytkfccpabigikkaa

set_option linter.unusedVariables false
set_option maxRecDepth 100000
namespace Go.Proofs.Ytkfccpabigikkaa
open Go Go.Hw
noncomputable def B64 : Code := match Try.f64.body with | some c => c | none => .skip
def N64 (x0_0 x0_1 x0_2 x0_3 x0_4 x0_5 x1 x2 : Int) (h : Hp) (K : Int → Int → Int → Int → Int → Int → Int → Int → Int → Int → Int → Int → Int → Int → Int → Hp → Prop) : Prop :=
 nw h (.cells ⟨[.int .u8 x0_0, .int .u8 x0_1, .int .u8 x0_2, .int .u8 x0_3, .int .u8 x0_4, .int .u8 x0_5]⟩ 24) fun b0 h0 =>
 nw h0 (.cells ⟨[.int .i64 0, .int .u8 0, .int .u8 0, .int .u8 0, .int .u8 0, .int .u8 0, .int .u8 0, .int .u32 0, .int .u8 0, .int .u8 0, .int .u8 0, .int .u8 0, .int .u8 0, .int .u8 0, .int .u32 0]⟩ 42) fun b1 h1 =>
 xI .u8 (cell h1 (bk b0)) fun n0 =>
 xI .u8 (cell h1 ((bk b0).add 1)) fun n1 =>
 xI .u8 (cell h1 ((bk b0).add 2)) fun n2 =>
 xI .u8 (cell h1 ((bk b0).add 3)) fun n3 =>
 xI .u8 (cell h1 ((bk b0).add 4)) fun n4 =>
 xI .u8 (cell h1 ((bk b0).add 5)) fun n5 =>
 st h1 (bk b1) (.int .i64 1) fun h2 =>
 st h2 ((bk b1).add 1) (.int .u8 n0) fun h3 =>
 st h3 ((bk b1).add 2) (.int .u8 n1) fun h4 =>
 st h4 ((bk b1).add 3) (.int .u8 n2) fun h5 =>
 st h5 ((bk b1).add 4) (.int .u8 n3) fun h6 =>
 st h6 ((bk b1).add 5) (.int .u8 n4) fun h7 =>
 st h7 ((bk b1).add 6) (.int .u8 n5) fun h8 =>
 st h8 ((bk b1).add 7) (.int .u32 x1) fun h9 =>
 st h9 ((bk b1).add 8) (.int .u8 0) fun h10 =>
 st h10 ((bk b1).add 9) (.int .u8 0) fun h11 =>
 st h11 ((bk b1).add 10) (.int .u8 0) fun h12 =>
 st h12 ((bk b1).add 11) (.int .u8 0) fun h13 =>
 st h13 ((bk b1).add 12) (.int .u8 0) fun h14 =>
 st h14 ((bk b1).add 13) (.int .u8 0) fun h15 =>
 st h15 ((bk b1).add 14) (.int .u32 x2) fun h16 =>
 xI .i64 (cell h16 (bk b1)) fun n6 =>
 xI .u8 (cell h16 ((bk b1).add 1)) fun n7 =>
 xI .u8 (cell h16 ((bk b1).add 2)) fun n8 =>
 xI .u8 (cell h16 ((bk b1).add 3)) fun n9 =>
 xI .u8 (cell h16 ((bk b1).add 4)) fun n10 =>
 xI .u8 (cell h16 ((bk b1).add 5)) fun n11 =>
 xI .u8 (cell h16 ((bk b1).add 6)) fun n12 =>
 xI .u32 (cell h16 ((bk b1).add 7)) fun n13 =>
 xI .u8 (cell h16 ((bk b1).add 8)) fun n14 =>
 xI .u8 (cell h16 ((bk b1).add 9)) fun n15 =>
 xI .u8 (cell h16 ((bk b1).add 10)) fun n16 =>
 xI .u8 (cell h16 ((bk b1).add 11)) fun n17 =>
 xI .u8 (cell h16 ((bk b1).add 12)) fun n18 =>
 xI .u8 (cell h16 ((bk b1).add 13)) fun n19 =>
 xI .u32 (cell h16 ((bk b1).add 14)) fun n20 =>
 K n6 n7 n8 n9 n10 n11 n12 n13 n14 n15 n16 n17 n18 n19 n20 h16
theorem S64 {x0_0 x0_1 x0_2 x0_3 x0_4 x0_5 x1 x2 : Int} {h : Hp} {K : Int → Int → Int → Int → Int → Int → Int → Int → Int → Int → Int → Int → Int → Int → Int → Hp → Prop} (hn : N64 x0_0 x0_1 x0_2 x0_3 x0_4 x0_5 x1 x2 h K) : C64 x0_0 x0_1 x0_2 x0_3 x0_4 x0_5 x1 x2 h K := by
 refine calls_of_M Try.func64 (c := B64) rfl (by kernel_rfl) ?_
 refine den_sound hE hm _ .leaf _ _ _ (annOk_leaf) ?_
 refine cast ?_ hn
 kernel_rfl
end Go.Proofs.Ytkfccpabigikkaa

set_option linter.unusedVariables false
set_option maxRecDepth 100000
namespace Go.Proofs.Ytkfccpabigikkaa
open Go Go.Hw
noncomputable def B50 : Code := match Try.f50.body with | some c => c | none => .skip
def N50 (x0_0 x0_1 x0_2 x0_3 x0_4 x0_5 x1_0 x1_1 x1_2 x1_3 x1_4 x1_5 x1_6 x1_7 x1_8 x1_9 x1_10 x1_11 x1_12 x1_13 x1_14 : Int) (h : Hp) (K : Int → Int → Int → Int → Int → Int → Int → Int → Int → Int → Int → Int → Int → Int → Int → Hp → Prop) : Prop :=
 nw h (.cells ⟨[.int .u8 x0_0, .int .u8 x0_1, .int .u8 x0_2, .int .u8 x0_3, .int .u8 x0_4, .int .u8 x0_5]⟩ 24) fun b0 h0 =>
 nw h0 (.cells ⟨[.int .i64 x1_0, .int .u8 x1_1, .int .u8 x1_2, .int .u8 x1_3, .int .u8 x1_4, .int .u8 x1_5, .int .u8 x1_6, .int .u32 x1_7, .int .u8 x1_8, .int .u8 x1_9, .int .u8 x1_10, .int .u8 x1_11, .int .u8 x1_12, .int .u8 x1_13, .int .u32 x1_14]⟩ 42) fun b1 h1 =>
 nw h1 (.cells ⟨[.int .i64 0, .int .u8 0, .int .u8 0, .int .u8 0, .int .u8 0, .int .u8 0, .int .u8 0, .int .u32 0, .int .u8 0, .int .u8 0, .int .u8 0, .int .u8 0, .int .u8 0, .int .u8 0, .int .u32 0]⟩ 42) fun b2 h2 =>
 xI .u8 (cell h2 (bk b0)) fun n0 =>
 xI .u8 (cell h2 ((bk b0).add 1)) fun n1 =>
 xI .u8 (cell h2 ((bk b0).add 2)) fun n2 =>
 xI .u8 (cell h2 ((bk b0).add 3)) fun n3 =>
 xI .u8 (cell h2 ((bk b0).add 4)) fun n4 =>
 xI .u8 (cell h2 ((bk b0).add 5)) fun n5 =>
 xI .u32 (cell h2 ((bk b1).add 14)) fun n6 =>
 xI .u8 (cell h2 ((bk b1).add 1)) fun n7 =>
 xI .u8 (cell h2 ((bk b1).add 2)) fun n8 =>
 xI .u8 (cell h2 ((bk b1).add 3)) fun n9 =>
 xI .u8 (cell h2 ((bk b1).add 4)) fun n10 =>
 xI .u8 (cell h2 ((bk b1).add 5)) fun n11 =>
 xI .u8 (cell h2 ((bk b1).add 6)) fun n12 =>
 xI .u32 (cell h2 ((bk b1).add 7)) fun n13 =>
 st h2 (bk b2) (.int .i64 2) fun h3 =>
 st h3 ((bk b2).add 1) (.int .u8 n0) fun h4 =>
 st h4 ((bk b2).add 2) (.int .u8 n1) fun h5 =>
 st h5 ((bk b2).add 3) (.int .u8 n2) fun h6 =>
 st h6 ((bk b2).add 4) (.int .u8 n3) fun h7 =>
 st h7 ((bk b2).add 5) (.int .u8 n4) fun h8 =>
 st h8 ((bk b2).add 6) (.int .u8 n5) fun h9 =>
 st h9 ((bk b2).add 7) (.int .u32 n6) fun h10 =>
 st h10 ((bk b2).add 8) (.int .u8 n7) fun h11 =>
 st h11 ((bk b2).add 9) (.int .u8 n8) fun h12 =>
 st h12 ((bk b2).add 10) (.int .u8 n9) fun h13 =>
 st h13 ((bk b2).add 11) (.int .u8 n10) fun h14 =>
 st h14 ((bk b2).add 12) (.int .u8 n11) fun h15 =>
 st h15 ((bk b2).add 13) (.int .u8 n12) fun h16 =>
 st h16 ((bk b2).add 14) (.int .u32 n13) fun h17 =>
 xI .i64 (cell h17 (bk b2)) fun n14 =>
 xI .u8 (cell h17 ((bk b2).add 1)) fun n15 =>
 xI .u8 (cell h17 ((bk b2).add 2)) fun n16 =>
 xI .u8 (cell h17 ((bk b2).add 3)) fun n17 =>
 xI .u8 (cell h17 ((bk b2).add 4)) fun n18 =>
 xI .u8 (cell h17 ((bk b2).add 5)) fun n19 =>
 xI .u8 (cell h17 ((bk b2).add 6)) fun n20 =>
 xI .u32 (cell h17 ((bk b2).add 7)) fun n21 =>
 xI .u8 (cell h17 ((bk b2).add 8)) fun n22 =>
 xI .u8 (cell h17 ((bk b2).add 9)) fun n23 =>
 xI .u8 (cell h17 ((bk b2).add 10)) fun n24 =>
 xI .u8 (cell h17 ((bk b2).add 11)) fun n25 =>
 xI .u8 (cell h17 ((bk b2).add 12)) fun n26 =>
 xI .u8 (cell h17 ((bk b2).add 13)) fun n27 =>
 xI .u32 (cell h17 ((bk b2).add 14)) fun n28 =>
 K n14 n15 n16 n17 n18 n19 n20 n21 n22 n23 n24 n25 n26 n27 n28 h17
theorem S50 {x0_0 x0_1 x0_2 x0_3 x0_4 x0_5 x1_0 x1_1 x1_2 x1_3 x1_4 x1_5 x1_6 x1_7 x1_8 x1_9 x1_10 x1_11 x1_12 x1_13 x1_14 : Int} {h : Hp} {K : Int → Int → Int → Int → Int → Int → Int → Int → Int → Int → Int → Int → Int → Int → Int → Hp → Prop} (hn : N50 x0_0 x0_1 x0_2 x0_3 x0_4 x0_5 x1_0 x1_1 x1_2 x1_3 x1_4 x1_5 x1_6 x1_7 x1_8 x1_9 x1_10 x1_11 x1_12 x1_13 x1_14 h K) : C50 x0_0 x0_1 x0_2 x0_3 x0_4 x0_5 x1_0 x1_1 x1_2 x1_3 x1_4 x1_5 x1_6 x1_7 x1_8 x1_9 x1_10 x1_11 x1_12 x1_13 x1_14 h K := by
 refine calls_of_M Try.func50 (c := B50) rfl (by kernel_rfl) ?_
 refine den_sound hE hm _ .leaf _ _ _ (annOk_leaf) ?_
 refine cast ?_ hn
 kernel_rfl
end Go.Proofs.Ytkfccpabigikkaa

set_option linter.unusedVariables false
set_option maxRecDepth 100000
namespace Go.Proofs.Ytkfccpabigikkaa
open Go Go.Hw
noncomputable def B66 : Code := match Try.f66.body with | some c => c | none => .skip
def N66  (h : Hp) (K : Sl → Hp → Prop) : Prop :=
 nw h (.cells ⟨[.int .u8 0, .int .u8 1, .int .u8 8, .int .u8 0, .int .u8 6, .int .u8 4]⟩ 5) fun b0 h0 =>
 K ⟨some (bk b0), 6, 6⟩ h0
theorem S66 {h : Hp} {K : Sl → Hp → Prop} (hn : N66 h K) : C66 h K := by
 refine calls_of_D Try.func66 (c := B66) rfl (by kernel_rfl) ?_
 refine den_sound hE hm _ .leaf _ _ _ (annOk_leaf) ?_
 refine cast ?_ hn
 kernel_rfl
end Go.Proofs.Ytkfccpabigikkaa

set_option linter.unusedVariables false
set_option maxRecDepth 100000
namespace Go.Proofs.Ytkfccpabigikkaa
open Go Go.Hw
end Go.Proofs.Ytkfccpabigikkaa

set_option linter.unusedVariables false
set_option maxRecDepth 100000
namespace Go.Proofs.Ytkfccpabigikkaa
open Go Go.Hw
end Go.Proofs.Ytkfccpabigikkaa

set_option linter.unusedVariables false
set_option maxRecDepth 100000
namespace Go.Proofs.Ytkfccpabigikkaa
open Go Go.Hw
end Go.Proofs.Ytkfccpabigikkaa

set_option linter.unusedVariables false
set_option maxRecDepth 100000
namespace Go.Proofs.Ytkfccpabigikkaa
open Go Go.Hw
end Go.Proofs.Ytkfccpabigikkaa

set_option linter.unusedVariables false
set_option maxRecDepth 100000
namespace Go.Proofs.Ytkfccpabigikkaa
open Go Go.Hw
end Go.Proofs.Ytkfccpabigikkaa

set_option linter.unusedVariables false
set_option maxRecDepth 100000
namespace Go.Proofs.Ytkfccpabigikkaa
open Go Go.Hw
end Go.Proofs.Ytkfccpabigikkaa

/-
 Stations, messages of the address protocol as bytes: the program's and the document's.
-/
set_option linter.unusedSimpArgs false
set_option linter.unusedVariables false
set_option maxRecDepth 4000
namespace Go.Proofs.Ytkfccpabigikkaa
open Go Go.Hw
structure M6 where
 a : Int
 b : Int
 c : Int
 d : Int
 e : Int
 f : Int
deriving DecidableEq
def M6.ok (m : M6) : Prop := (0 ≤ m.a ∧ m.a < 256) ∧ (0 ≤ m.b ∧ m.b < 256) ∧ (0 ≤ m.c ∧ m.c < 256) ∧ (0 ≤ m.d ∧ m.d < 256) ∧ (0 ≤ m.e ∧ m.e < 256) ∧ (0 ≤ m.f ∧ m.f < 256)
def mb (m : M6) : List UInt8 := [UInt8.ofNat m.a.toNat, UInt8.ofNat m.b.toNat, UInt8.ofNat m.c.toNat, UInt8.ofNat m.d.toNat, UInt8.ofNat m.e.toNat, UInt8.ofNat m.f.toNat]
theorem mb_bc {m : M6} (h : m.ok) : bc (mb m) = [.int .u8 m.a, .int .u8 m.b, .int .u8 m.c, .int .u8 m.d, .int .u8 m.e, .int .u8 m.f] := by
 obtain ⟨h1, h2, h3, h4, h5, h6⟩ := h
 simp only [bc, mb, List.map_cons, List.map_nil]
 rw [putd_u8 h1.1 h1.2, putd_u8 h2.1 h2.2, putd_u8 h3.1 h3.2, putd_u8 h4.1 h4.2, putd_u8 h5.1 h5.2, putd_u8 h6.1 h6.2]
def arpH : List UInt8 := [0, 1, 8, 0, 6, 4]
def arpL (op : Int) (s : M6) (si : Int) (d : M6) (di : Int) : List UInt8 := arpH ++ [0, UInt8.ofNat op.toNat] ++ mb s ++ be si.toNat 4 ++ mb d ++ be di.toNat 4
theorem arpL_len {op si di : Int} {s d : M6} : (arpL op s si d di).length = 28 := by simp [arpL, arpH, mb, be_len]
def oneEighty : M6 := ⟨255, 255, 255, 255, 255, 255⟩
theorem c_bclone {s : Sl} {l : List UInt8} {h : Hp} {K : Sl → Hp → Prop} (hr : RdB h s l) (hl : l.length ≤ 140737488355328) (hK : ∀ s' h', NewO h h' 5 1 s' (bc l) → K s' h') : C39 s h K := by
 apply S39; unfold N39
 cases hp : s.p with
 | none =>
  have : l = [] := by
   cases l with
   | nil => rfl
   | cons x l => obtain ⟨a, ha, _⟩ := hr.get (i := 0) (by simp); rw [hp] at ha; cases ha
  subst this
  exact hK _ _ NewO.nil
 | some a =>
  simp only [Option.isNone_some, cond_false]
  intro b0 e0
  have hs0 : Sat ([] ++ [Hw.was h]) h := Sat.start
  have hs1 : Sat ([] ++ [Hw.was h, Hw.own 5 1 ⟨some (bk b0), 0, 0⟩ []]) (upd h b0 (.cells ⟨[]⟩ 5 (0, 0))) := hs0.addOwn (Ext.new e0) ⟨rfl, Nat.le_refl _, rfl, [], upd_same, rfl, rfl⟩ (fun b hb => by
   simp only [Option.some.injEq] at hb
   have : b0 = b := congrArg Addr.block hb
   subst this; exact e0)
  have hr1 := hr.ext (Ext.new (o := .cells ⟨[]⟩ 5 (0, 0)) e0)
  have hn := hr.n
  refine hs1.ap 1 rfl (n := s.n) (ns := bc l) (by kernel_rfl) (by kernel_rfl) (fun _ => rfl) ?_ (by rw [bc_len]; omega) bc_plain (by
   rw [show Try.prog.bytesOf 5 = 1 by kernel_rfl]; show (0 + s.n) * 2 * 1 ≤ _; omega) ?_
  ·intro G hG
   rw [← hp]
   refine hr1.srcK (n := s.n) (by omega) ?_
   rw [hn, List.take_length]; exact hG
  ·intro s' h' hs' _
   rw [List.nil_append] at hs'
   have hs' : Sat ([] ++ [Hw.was h, Hw.own 5 1 s' (bc l)]) h' := hs'
   exact hK s' h' (hs'.newO 0 1 rfl rfl (by decide))
theorem c_ahead {h : Hp} {K : Int → Int → Int → Int → Int → Int → Hp → Prop} (hK : ∀ h', Ext none' h h' → K 0 1 8 0 6 4 h') : C69 h K := by
 apply S69; unfold N69
 obtain ⟨L, hs, hL⟩ := Sat.base h
 repeat (first | (refine Sat.nw hs ?_; intro _ _ hs _; simp only [List.cons_append, List.nil_append] at hs) | (refine Sat.st hs 0 rfl (by simp) rfl ?_; intro _ hs; simp only [List.set_cons_zero, List.set_cons_succ] at hs) | (refine Sat.lI hs 0 rfl rfl ?_) | (refine Sat.lL hs 0 rfl rfl ?_) | (refine Sat.lP hs 0 rfl rfl ?_) | (refine Sat.lB hs 0 rfl rfl ?_) | (refine Sat.lS hs 0 rfl rfl ?_) | (refine Sat.lM hs 0 rfl rfl ?_) | (refine Sat.lA hs 0 rfl rfl ?_) | (simp only [nn_some', add_bk]))
 exact hK _ (hL hs)
theorem c_every {h : Hp} {K : Int → Int → Int → Int → Int → Int → Hp → Prop} (hK : ∀ h', Ext none' h h' → K 255 255 255 255 255 255 h') : C65 h K := by
 apply S65; unfold N65
 obtain ⟨L, hs, hL⟩ := Sat.base h
 repeat (first | (refine Sat.nw hs ?_; intro _ _ hs _; simp only [List.cons_append, List.nil_append] at hs) | (refine Sat.st hs 0 rfl (by simp) rfl ?_; intro _ hs; simp only [List.set_cons_zero, List.set_cons_succ] at hs) | (refine Sat.lI hs 0 rfl rfl ?_) | (refine Sat.lL hs 0 rfl rfl ?_) | (refine Sat.lP hs 0 rfl rfl ?_) | (refine Sat.lB hs 0 rfl rfl ?_) | (refine Sat.lS hs 0 rfl rfl ?_) | (refine Sat.lM hs 0 rfl rfl ?_) | (refine Sat.lA hs 0 rfl rfl ?_) | (simp only [nn_some', add_bk]))
 exact hK _ (hL hs)
theorem c_aask {m : M6} {s d : Int} {h : Hp} {K : Int → Int → Int → Int → Int → Int → Int → Int → Int → Int → Int → Int → Int → Int → Int → Hp → Prop} (hK : ∀ h', Ext none' h h' → K 1 m.a m.b m.c m.d m.e m.f s 0 0 0 0 0 0 d h') : C64 m.a m.b m.c m.d m.e m.f s d h K := by
 apply S64; unfold N64
 obtain ⟨L, hs, hL⟩ := Sat.base h
 repeat (first | (refine Sat.nw hs ?_; intro _ _ hs _; simp only [List.cons_append, List.nil_append] at hs) | (refine Sat.st hs 0 rfl (by simp) rfl ?_; intro _ hs; simp only [List.set_cons_zero, List.set_cons_succ] at hs) | (refine Sat.st hs 1 rfl (by simp) rfl ?_; intro _ hs; simp only [List.set_cons_zero, List.set_cons_succ] at hs) | (refine Sat.lI hs 0 rfl rfl ?_) | (refine Sat.lI hs 1 rfl rfl ?_) | (refine Sat.lL hs 0 rfl rfl ?_) | (refine Sat.lL hs 1 rfl rfl ?_) | (refine Sat.lP hs 0 rfl rfl ?_) | (refine Sat.lP hs 1 rfl rfl ?_) | (refine Sat.lB hs 0 rfl rfl ?_) | (refine Sat.lB hs 1 rfl rfl ?_) | (refine Sat.lS hs 0 rfl rfl ?_) | (refine Sat.lS hs 1 rfl rfl ?_) | (refine Sat.lM hs 0 rfl rfl ?_) | (refine Sat.lM hs 1 rfl rfl ?_) | (refine Sat.lA hs 0 rfl rfl ?_) | (refine Sat.lA hs 1 rfl rfl ?_) | (simp only [nn_some', add_bk]))
 exact hK _ (hL hs)
theorem c_atell {m sm dm : M6} {op si di : Int} {h : Hp} {K : Int → Int → Int → Int → Int → Int → Int → Int → Int → Int → Int → Int → Int → Int → Int → Hp → Prop}
  (hK : ∀ h', Ext none' h h' → K 2 m.a m.b m.c m.d m.e m.f di sm.a sm.b sm.c sm.d sm.e sm.f si h') : C50 m.a m.b m.c m.d m.e m.f op sm.a sm.b sm.c sm.d sm.e sm.f si dm.a dm.b dm.c dm.d dm.e dm.f di h K := by
 apply S50; unfold N50
 obtain ⟨L, hs, hL⟩ := Sat.base h
 repeat (first | (refine Sat.nw hs ?_; intro _ _ hs _; simp only [List.cons_append, List.nil_append] at hs) | (refine Sat.st hs 0 rfl (by simp) rfl ?_; intro _ hs; simp only [List.set_cons_zero, List.set_cons_succ] at hs) | (refine Sat.st hs 1 rfl (by simp) rfl ?_; intro _ hs; simp only [List.set_cons_zero, List.set_cons_succ] at hs) | (refine Sat.st hs 2 rfl (by simp) rfl ?_; intro _ hs; simp only [List.set_cons_zero, List.set_cons_succ] at hs) | (refine Sat.lI hs 0 rfl rfl ?_) | (refine Sat.lI hs 1 rfl rfl ?_) | (refine Sat.lI hs 2 rfl rfl ?_) | (refine Sat.lL hs 0 rfl rfl ?_) | (refine Sat.lL hs 1 rfl rfl ?_) | (refine Sat.lL hs 2 rfl rfl ?_) | (refine Sat.lP hs 0 rfl rfl ?_) | (refine Sat.lP hs 1 rfl rfl ?_) | (refine Sat.lP hs 2 rfl rfl ?_) | (refine Sat.lB hs 0 rfl rfl ?_) | (refine Sat.lB hs 1 rfl rfl ?_) | (refine Sat.lB hs 2 rfl rfl ?_) | (refine Sat.lS hs 0 rfl rfl ?_) | (refine Sat.lS hs 1 rfl rfl ?_) | (refine Sat.lS hs 2 rfl rfl ?_) | (refine Sat.lM hs 0 rfl rfl ?_) | (refine Sat.lM hs 1 rfl rfl ?_) | (refine Sat.lM hs 2 rfl rfl ?_) | (refine Sat.lA hs 0 rfl rfl ?_) | (refine Sat.lA hs 1 rfl rfl ?_) | (refine Sat.lA hs 2 rfl rfl ?_) | (simp only [nn_some', add_bk]))
 exact hK _ (hL hs)
theorem mac_src {L M : List Asn} {h : Hp} (hs : Sat (L ++ M) h) (j : Nat) {b : Nat} {T : TypeId} {cs : List Value} {k : Nat} (hj : M[j]? = some (row b T cs)) {ns : List Value} (hk : (cs.drop k).take 6 = ns) (hn : 6 ≤ (cs.drop k).length) {G : List Value → Prop} (hG : G ns) :
  srcK h 1 6 (.slice (some ⟨b, k, none⟩) 6 6) G := ((hs.blk j hj).rdcAt k).srcK hn (by rw [hk]; exact hG)
theorem c_aenc {op si di : Int} {s d : M6} {h : Hp} {K : Sl → Int → Hp → Prop} (ho : op = 1 ∨ op = 2) (hm1 : s.ok) (hm2 : d.ok) (hsi : 0 ≤ si ∧ si < 4294967296) (hdi : 0 ≤ di ∧ di < 4294967296)
  (hK : ∀ h' x, NewO h h' 5 1 x (bc (arpL op s si d di)) → K x 0 h') : C49 op s.a s.b s.c s.d s.e s.f si d.a d.b d.c d.d d.e d.f di h K := by
 apply S49; unfold N49
 have hs0 : Sat ([] ++ [Hw.was h]) h := Sat.start
 refine hs0.nw ?_
 intro b0 h0 hs0 _
 have hs0 : Sat ([] ++ [Hw.was h, row b0 42 [.int .i64 op, .int .u8 s.a, .int .u8 s.b, .int .u8 s.c, .int .u8 s.d, .int .u8 s.e, .int .u8 s.f, .int .u32 si, .int .u8 d.a, .int .u8 d.b, .int .u8 d.c, .int .u8 d.d, .int .u8 d.e, .int .u8 d.f, .int .u32 di]]) h0 := hs0
 have go : N49_j0 (some (bk b0)) h0 K := by
  unfold N49_j0
  generalize e28 : (28 : Int) = n28
  refine hs0.mk (sz := 1) y_zl (by omega) (by omega) (by rw [y_b]; omega) (by omega) ?_
  intro x h1 xn xc hs1
  have en : n28.toNat = 28 := by omega
  rw [en] at xn xc hs1
  rw [y_zeros] at hs1
  refine c_ahead fun h2 he2 => ?_
  have hs2 := hs1.ext he2
  refine hs2.nw ?_
  intro b1 h3 hs3 _
  have hs3 : Sat ([] ++ [Hw.was h, row b0 42 [.int .i64 op, .int .u8 s.a, .int .u8 s.b, .int .u8 s.c, .int .u8 s.d, .int .u8 s.e, .int .u8 s.f, .int .u32 si, .int .u8 d.a, .int .u8 d.b, .int .u8 d.c, .int .u8 d.d, .int .u8 d.e, .int .u8 d.f, .int .u32 di], Hw.own 5 1 x (bc (List.replicate 28 0)), row b1 23 [.int .u8 0, .int .u8 0, .int .u8 0, .int .u8 0, .int .u8 0, .int .u8 0]]) h3 := hs3
  simp only [nn_some', add_bk]
  refine hs3.st 3 rfl (by simp) rfl ?_
  intro h4 hs4
  refine Sat.st hs4 3 rfl (by simp) rfl ?_
  intro h5 hs5
  refine Sat.st hs5 3 rfl (by simp) rfl ?_
  intro h6 hs6
  refine Sat.st hs6 3 rfl (by simp) rfl ?_
  intro h7 hs7
  refine Sat.st hs7 3 rfl (by simp) rfl ?_
  intro h8 hs8
  refine Sat.st hs8 3 rfl (by simp) rfl ?_
  intro h9 hs9
  have hs9 : Sat ([] ++ [Hw.was h, row b0 42 [.int .i64 op, .int .u8 s.a, .int .u8 s.b, .int .u8 s.c, .int .u8 s.d, .int .u8 s.e, .int .u8 s.f, .int .u32 si, .int .u8 d.a, .int .u8 d.b, .int .u8 d.c, .int .u8 d.d, .int .u8 d.e, .int .u8 d.f, .int .u32 di], Hw.own 5 1 x (bc (List.replicate 28 0)), row b1 23 [.int .u8 0, .int .u8 1, .int .u8 8, .int .u8 0, .int .u8 6, .int .u8 4]]) h9 := hs9
  refine hs9.cp0 (n := 6) (ns := bc arpH) 2 rfl y_a (fun _ => rfl) (by omega) (fun G hG => by rw [sadr_zero]; exact mac_src hs9 3 rfl rfl (by decide) hG) (by decide) bc_plain ?_
  intro h10 hs10
  have hs10 : Sat ([] ++ [Hw.was h, row b0 42 [.int .i64 op, .int .u8 s.a, .int .u8 s.b, .int .u8 s.c, .int .u8 s.d, .int .u8 s.e, .int .u8 s.f, .int .u32 si, .int .u8 d.a, .int .u8 d.b, .int .u8 d.c, .int .u8 d.d, .int .u8 d.e, .int .u8 d.f, .int .u32 di], Hw.own 5 1 x (bc (arpH ++ List.replicate 22 0)), row b1 23 [.int .u8 0, .int .u8 1, .int .u8 8, .int .u8 0, .int .u8 6, .int .u8 4]]) h10 := hs10
  refine hs10.lI 1 rfl rfl ?_
  refine hs10.stAt 2 (k := 7) rfl rfl (by simp [arpH]) rfl ?_
  intro h11 hs11
  have ew : (Value.int .u8 (IntKind.wrap .u8 op)) = .int .u8 ((UInt8.ofNat op.toNat).toNat : Int) := by
   rcases ho with rfl | rfl <;> rfl
  rw [ew, ← bc_set] at hs11
  have hs11 : Sat ([] ++ [Hw.was h, row b0 42 [.int .i64 op, .int .u8 s.a, .int .u8 s.b, .int .u8 s.c, .int .u8 s.d, .int .u8 s.e, .int .u8 s.f, .int .u32 si, .int .u8 d.a, .int .u8 d.b, .int .u8 d.c, .int .u8 d.d, .int .u8 d.e, .int .u8 d.f, .int .u32 di], Hw.own 5 1 x (bc (arpH ++ [0, UInt8.ofNat op.toNat] ++ List.replicate 20 0)), row b1 23 [.int .u8 0, .int .u8 1, .int .u8 8, .int .u8 0, .int .u8 6, .int .u8 4]]) h11 := hs11
  refine bd_nat (i := 8) (by omega) ?_
  rw [sadr_zero]
  refine hs11.cpAt (n := 6) (k := 8) (ns := bc (mb s)) 2 rfl (by omega) y_a (fun _ => rfl) (by omega) (fun G hG => mac_src hs11 1 (k := 1) rfl (mb_bc hm1).symm (by simp) hG) (by simp [mb]) bc_plain ?_
  intro h12 hs12
  rw [← bc_take, ← bc_drop, ← bc_app, ← bc_app] at hs12
  have hs12 : Sat ([] ++ [Hw.was h, row b0 42 [.int .i64 op, .int .u8 s.a, .int .u8 s.b, .int .u8 s.c, .int .u8 s.d, .int .u8 s.e, .int .u8 s.f, .int .u32 si, .int .u8 d.a, .int .u8 d.b, .int .u8 d.c, .int .u8 d.d, .int .u8 d.e, .int .u8 d.f, .int .u32 di], Hw.own 5 1 x (bc (arpH ++ [0, UInt8.ofNat op.toNat] ++ mb s ++ List.replicate 14 0))]) h12 := hs12.sel [0, 1, 2] (by decide) rfl
  refine bd_nat (i := 14) (by omega) ?_
  refine hs12.lI 1 rfl rfl ?_
  rw [wu64i hsi.1 (by omega)]
  refine c_put (w := 4) hsi.1 (by omega) ?_
  intro h13 y hn13
  have ep : putL si.toNat 4 = be si.toNat 4 := rfl
  rw [ep] at hn13
  have hs13 := hs12.ext hn13.1
  have yn : y.n = 4 := by have := hn13.2.1.1; simp [be_len] at this; omega
  refine hs13.cpAt (n := 4) (k := 14) (ns := bc (be si.toNat 4)) 2 rfl (by omega) y_a (fun G => by show G y.n = G 4; rw [yn]) (by omega) (fun G hG => (hn13.2.1.rdb).srcK (n := 4) (by simp [be_len]) (by rw [List.take_of_length_le (by simp [be_len])]; exact hG)) (by simp [be_len]) bc_plain ?_
  intro h14 hs14
  rw [← bc_take, ← bc_drop, ← bc_app, ← bc_app] at hs14
  have hs14 : Sat ([] ++ [Hw.was h, row b0 42 [.int .i64 op, .int .u8 s.a, .int .u8 s.b, .int .u8 s.c, .int .u8 s.d, .int .u8 s.e, .int .u8 s.f, .int .u32 si, .int .u8 d.a, .int .u8 d.b, .int .u8 d.c, .int .u8 d.d, .int .u8 d.e, .int .u8 d.f, .int .u32 di], Hw.own 5 1 x (bc (arpH ++ [0, UInt8.ofNat op.toNat] ++ mb s ++ be si.toNat 4 ++ List.replicate 10 0))]) h14 := hs14
  refine bd_nat (i := 18) (by omega) ?_
  rw [sadr_zero]
  refine hs14.cpAt (n := 6) (k := 18) (ns := bc (mb d)) 2 rfl (by omega) y_a (fun _ => rfl) (by omega) (fun G hG => mac_src hs14 1 (k := 8) rfl (mb_bc hm2).symm (by simp) hG) (by simp [mb]) bc_plain ?_
  intro h15 hs15
  rw [← bc_take, ← bc_drop, ← bc_app, ← bc_app] at hs15
  have hs15 : Sat ([] ++ [Hw.was h, row b0 42 [.int .i64 op, .int .u8 s.a, .int .u8 s.b, .int .u8 s.c, .int .u8 s.d, .int .u8 s.e, .int .u8 s.f, .int .u32 si, .int .u8 d.a, .int .u8 d.b, .int .u8 d.c, .int .u8 d.d, .int .u8 d.e, .int .u8 d.f, .int .u32 di], Hw.own 5 1 x (bc (arpH ++ [0, UInt8.ofNat op.toNat] ++ mb s ++ be si.toNat 4 ++ mb d ++ List.replicate 4 0))]) h15 := hs15
  refine bd_nat (i := 24) (by omega) ?_
  refine hs15.lI 1 rfl rfl ?_
  rw [wu64i hdi.1 (by omega)]
  refine c_put (w := 4) hdi.1 (by omega) ?_
  intro h16 z hn16
  have ep : putL di.toNat 4 = be di.toNat 4 := rfl
  rw [ep] at hn16
  have hs16 := hs15.ext hn16.1
  have zn : z.n = 4 := by have := hn16.2.1.1; simp [be_len] at this; omega
  refine hs16.cpAt (n := 4) (k := 24) (ns := bc (be di.toNat 4)) 2 rfl (by omega) y_a (fun G => by show G z.n = G 4; rw [zn]) (by omega) (fun G hG => (hn16.2.1.rdb).srcK (n := 4) (by simp [be_len]) (by rw [List.take_of_length_le (by simp [be_len])]; exact hG)) (by simp [be_len]) bc_plain ?_
  intro h17 hs17
  rw [← bc_take, ← bc_drop, ← bc_app, ← bc_app] at hs17
  have hs17 : Sat ([] ++ [Hw.was h, row b0 42 [.int .i64 op, .int .u8 s.a, .int .u8 s.b, .int .u8 s.c, .int .u8 s.d, .int .u8 s.e, .int .u8 s.f, .int .u32 si, .int .u8 d.a, .int .u8 d.b, .int .u8 d.c, .int .u8 d.d, .int .u8 d.e, .int .u8 d.f, .int .u32 di], Hw.own 5 1 x (bc (arpL op s si d di))]) h17 := hs17
  exact hK _ _ (hs17.newO 0 2 rfl rfl (by omega))
 refine hs0.lI 1 (k := 0) rfl rfl ?_
 rcases ho with rfl | rfl
 ·exact go
 ·simp only [show ((2 : Int) != 1) = true from rfl, cond_true]
  refine hs0.lI 1 (k := 0) rfl rfl ?_
  exact go
theorem c_rhead {L M : List Asn} {h : Hp} {K : Sl → Hp → Prop} (hs : Sat (L ++ M) h) (hK : ∀ h' x, Sat (L ++ (M ++ [Hw.own 5 1 x (bc arpH)])) h' → Ext none' h h' → K x h') : C66 h K := by
 apply S66; unfold N66
 intro b0 e0
 refine hK _ ⟨some (bk b0), 6, 6⟩ (hs.addOwn (Ext.new e0) ⟨rfl, Nat.le_refl _, rfl, bc arpH, upd_same, rfl, rfl⟩ ?_) (Ext.new e0)
 intro b hb
 simp only [Option.some.injEq] at hb
 have : b0 = b := congrArg Addr.block hb
 subst this; exact e0
end Go.Proofs.Ytkfccpabigikkaa

set_option linter.unusedVariables false
set_option maxRecDepth 100000
namespace Go.Proofs.Ytkfccpabigikkaa
open Go Go.Hw
noncomputable def B83 : Code := match Try.f83.body with | some c => c | none => .skip
def N83 (x0 x1 : Int) (h : Hp) (K : Bool → Hp → Prop) : Prop :=
 C93 x0 h fun b0 h0 =>
 bif b0 then
 C93 x1 h0 fun b1 h1 =>
 bif (!b1) then
 K true h1
 else
 K (decide (x0 < x1)) h1
 else
 K (decide (x0 < x1)) h0
theorem S83 {x0 x1 : Int} {h : Hp} {K : Bool → Hp → Prop} (hn : N83 x0 x1 h K) : C83 x0 x1 h K := by
 refine calls_of_D Try.func83 (c := B83) rfl (by kernel_rfl) ?_
 refine den_sound hE hm _ .leaf _ _ _ (annOk_leaf) ?_
 refine cast ?_ hn
 kernel_rfl
end Go.Proofs.Ytkfccpabigikkaa

set_option linter.unusedVariables false
set_option maxRecDepth 100000
namespace Go.Proofs.Ytkfccpabigikkaa
open Go Go.Hw
noncomputable def B93 : Code := match Try.f93.body with | some c => c | none => .skip
def N93 (x0 : Int) (h : Hp) (K : Bool → Hp → Prop) : Prop :=
 K (x0 != x0) h
theorem S93 {x0 : Int} {h : Hp} {K : Bool → Hp → Prop} (hn : N93 x0 h K) : C93 x0 h K := by
 refine calls_of_D Try.func93 (c := B93) rfl (by kernel_rfl) ?_
 refine den_sound hE hm _ .leaf _ _ _ (annOk_leaf) ?_
 refine cast ?_ hn
 kernel_rfl
end Go.Proofs.Ytkfccpabigikkaa

set_option linter.unusedVariables false
set_option maxRecDepth 100000
namespace Go.Proofs.Ytkfccpabigikkaa
open Go Go.Hw
noncomputable def B77 : Code := match Try.f77.body with | some c => c | none => .skip
def N77_l1_b (x0 : Sl) (x1 x2 x6 : Int) (Φ : Int → Hp → Prop) (x7 : Int) (h : Hp) (K2 : Hp → Prop) : Prop :=
 bif (decide (x7 > x1)) then
 idx x7 x0.n <|
 nn x0.p fun a0 =>
 xI .u32 (cell h (a0.add (x7.toNat * 1))) fun n0 =>
 idx (IntKind.wrap .i64 (x7 - 1)) x0.n <|
 nn x0.p fun a1 =>
 xI .u32 (cell h (a1.add ((IntKind.wrap .i64 (x7 - 1)).toNat * 1))) fun n1 =>
 C83 n0 n1 h fun b0 h0 =>
 bif b0 then
 idx (IntKind.wrap .i64 (x7 - 1)) x0.n <|
 nn x0.p fun a2 =>
 xI .u32 (cell h0 (a2.add ((IntKind.wrap .i64 (x7 - 1)).toNat * 1))) fun n2 =>
 idx x7 x0.n <|
 nn x0.p fun a3 =>
 xI .u32 (cell h0 (a3.add (x7.toNat * 1))) fun n3 =>
 idx x7 x0.n <|
 nn x0.p fun a4 =>
 st h0 (a4.add (x7.toNat * 1)) (.int .u32 n2) fun h1 =>
 idx (IntKind.wrap .i64 (x7 - 1)) x0.n <|
 nn x0.p fun a5 =>
 st h1 (a5.add ((IntKind.wrap .i64 (x7 - 1)).toNat * 1)) (.int .u32 n3) fun h2 =>
 Φ (IntKind.wrap .i64 (x7 - 1)) h2
 else
 K2 h0
 else
 K2 h
def N77_l1_B (x0 : Sl) (x1 x2 x6 : Int) (K2 : Hp → Prop) (s : Sg.T [(7, .c (.int .i64))]) (h : Hp) (Φ : Sg.T [(7, .c (.int .i64))] → Hp → Prop) : Prop :=
 N77_l1_b x0 x1 x2 x6 (fun x7 h => Φ x7 h) s h K2
def N77_l1 (x0 : Sl) (x1 x2 x6 x7 : Int) (h : Hp) (K2 : Hp → Prop) : Prop :=
 loopP (N77_l1_B x0 x1 x2 x6 K2) x7 h
noncomputable def N77_l1_t : Xf := loopT [(0, .c (.slice)), (1, .c (.int .i64)), (2, .c (.int .i64)), (6, .c (.int .i64))] [(7, .c (.int .i64))] (codeAt B77 [1, 0, 0, 1, 0, 0, 1, 0, 0]) fun F Q => N77_l1_B F.1 F.2.1 F.2.2.1 F.2.2.2 (fun h' => Q (.exit 2) (Sg.env [] ()) h')
theorem N77_l1_ok : Sound Try.prog Try.f77.ntmps N77_l1_t (codeAt B77 [1, 0, 0, 1, 0, 0, 1, 0]) := by
 refine loop_sound (fun e => match e with | .exit 2 => [] | _ => []) (by kernel_rfl) ?_
 intro F Q s h Φ hb
 refine den_sound hE hm _ (.two (.two (.ord [0, 1, 2, 3, 4, 5, 6, 7, 8, 9, 10, 11, 12, 13, 14]) .leaf) (.two (.one (.ord [0, 1, 2, 3, 4, 5, 6, 7, 8, 9, 10, 11, 12, 13, 14, 15, 16, 17])) .leaf)) _ _ _ (⟨⟨trivial, annOk_leaf⟩, ⟨trivial, annOk_leaf⟩⟩) ?_
 refine cast ?_ hb
 kernel_rfl
def N77_l0_b (x0 : Sl) (x1 x2 : Int) (Φ : Int → Hp → Prop) (x6 : Int) (h : Hp) (K0 : Hp → Prop) : Prop :=
 bif (decide (x6 < x2)) then
 N77_l1 x0 x1 x2 x6 x6 h
 (fun h0 =>
 Φ (IntKind.wrap .i64 (x6 + 1)) h0)
 else
 K0 h
def N77_l0_B (x0 : Sl) (x1 x2 : Int) (K0 : Hp → Prop) (s : Sg.T [(6, .c (.int .i64))]) (h : Hp) (Φ : Sg.T [(6, .c (.int .i64))] → Hp → Prop) : Prop :=
 N77_l0_b x0 x1 x2 (fun x6 h => Φ x6 h) s h K0
def N77_l0 (x0 : Sl) (x1 x2 x6 : Int) (h : Hp) (K0 : Hp → Prop) : Prop :=
 loopP (N77_l0_B x0 x1 x2 K0) x6 h
noncomputable def N77_l0_t : Xf := loopT [(0, .c (.slice)), (1, .c (.int .i64)), (2, .c (.int .i64))] [(6, .c (.int .i64))] (codeAt B77 [1, 0, 0]) fun F Q => N77_l0_B F.1 F.2.1 F.2.2 (fun h' => Q (.exit 0) (Sg.env [] ()) h')
theorem N77_l0_ok : Sound Try.prog Try.f77.ntmps N77_l0_t (codeAt B77 [1, 0]) := by
 refine loop_sound (fun e => match e with | .exit 0 => [] | _ => []) (by kernel_rfl) ?_
 intro F Q s h Φ hb
 refine den_sound hE hm _ (.two .leaf (.two (.one (.two .leaf (.one (.xf N77_l1_t)))) .leaf)) _ _ _ (⟨annOk_leaf, ⟨⟨annOk_leaf, N77_l1_ok⟩, annOk_leaf⟩⟩) ?_
 refine cast ?_ hb
 kernel_rfl
def N77 (x0 : Sl) (x1 x2 : Int) (h : Hp) (K : Hp → Prop) : Prop :=
 N77_l0 x0 x1 x2 (IntKind.wrap .i64 (x1 + 1)) h
 (fun h0 =>
 K h0)
theorem S77 {x0 : Sl} {x1 x2 : Int} {h : Hp} {K : Hp → Prop} (hn : N77 x0 x1 x2 h K) : C77 x0 x1 x2 h K := by
 refine calls_of_D Try.func77 (c := B77) rfl (by kernel_rfl) ?_
 refine den_sound hE hm _ (.two .leaf (.one (.xf N77_l0_t))) _ _ _ (⟨annOk_leaf, N77_l0_ok⟩) ?_
 refine cast ?_ hn
 kernel_rfl
end Go.Proofs.Ytkfccpabigikkaa

set_option linter.unusedVariables false
set_option maxRecDepth 100000
namespace Go.Proofs.Ytkfccpabigikkaa
open Go Go.Hw
noncomputable def B88 : Code := match Try.f88.body with | some c => c | none => .skip
def N88_j1 (x0 : Sl) (x2 x3 x8 x9 : Int) (x36 : Bool) (h : Hp) (Kn : Int → Hp → Prop) : Prop :=
 bif x36 then
 Kn (IntKind.wrap .i64 (x9 + 1)) h
 else
 Kn x9 h
noncomputable def N88_j1_t : Xf := pieceT [(0, .c (.slice)), (2, .c (.int .i64)), (3, .c (.int .i64)), (8, .c (.int .i64)), (9, .c (.int .i64)), (36, .c (.bool))] (codeAt B88 [1, 0, 0, 0, 1, 1, 0, 1]) fun x h Q => N88_j1 x.1 x.2.1 x.2.2.1 x.2.2.2.1 x.2.2.2.2.1 x.2.2.2.2.2 h (fun o0 h' => Q .normal (Sg.env [(9, .c (.int .i64))] o0) h')
theorem N88_j1_ok : Sound Try.prog Try.f88.ntmps N88_j1_t (codeAt B88 [1, 0, 0, 0, 1, 1, 0, 1]) := by
 refine piece_sound (fun e => match e with | .normal => [9] | _ => []) ?_
 intro x h Q hb
 refine den_sound hE hm _ .leaf _ _ _ (annOk_leaf) ?_
 refine cast ?_ hb
 kernel_rfl
def N88_j2 (x0 : Sl) (x2 x3 x8 x9 : Int) (h : Hp) (Kn : Int → Hp → Prop) (Kr : Hp → Prop) : Prop :=
 idx (IntKind.wrap .i64 (x3 + x8)) x0.n <|
 nn x0.p fun a0 =>
 xI .u32 (cell h (a0.add ((IntKind.wrap .i64 (x3 + x8)).toNat * 1))) fun n0 =>
 idx (IntKind.wrap .i64 (x3 + x9)) x0.n <|
 nn x0.p fun a1 =>
 xI .u32 (cell h (a1.add ((IntKind.wrap .i64 (x3 + x9)).toNat * 1))) fun n1 =>
 C83 n0 n1 h fun b0 h0 =>
 bif (!b0) then
 Kr h0
 else
 idx (IntKind.wrap .i64 (x3 + x9)) x0.n <|
 nn x0.p fun a2 =>
 xI .u32 (cell h0 (a2.add ((IntKind.wrap .i64 (x3 + x9)).toNat * 1))) fun n2 =>
 idx (IntKind.wrap .i64 (x3 + x8)) x0.n <|
 nn x0.p fun a3 =>
 xI .u32 (cell h0 (a3.add ((IntKind.wrap .i64 (x3 + x8)).toNat * 1))) fun n3 =>
 idx (IntKind.wrap .i64 (x3 + x8)) x0.n <|
 nn x0.p fun a4 =>
 st h0 (a4.add ((IntKind.wrap .i64 (x3 + x8)).toNat * 1)) (.int .u32 n2) fun h1 =>
 idx (IntKind.wrap .i64 (x3 + x9)) x0.n <|
 nn x0.p fun a5 =>
 st h1 (a5.add ((IntKind.wrap .i64 (x3 + x9)).toNat * 1)) (.int .u32 n3) fun h2 =>
 Kn x9 h2
noncomputable def N88_j2_t : Xf := pieceT [(0, .c (.slice)), (2, .c (.int .i64)), (3, .c (.int .i64)), (8, .c (.int .i64)), (9, .c (.int .i64))] (codeAt B88 [1, 0, 0, 0, 1, 1, 1]) fun x h Q => N88_j2 x.1 x.2.1 x.2.2.1 x.2.2.2.1 x.2.2.2.2 h (fun o0 h' => Q .normal (Sg.env [(8, .c (.int .i64))] o0) h') (fun h' => Q .ret (Sg.env [] ()) h')
theorem N88_j2_ok : Sound Try.prog Try.f88.ntmps N88_j2_t (codeAt B88 [1, 0, 0, 0, 1, 1, 1]) := by
 refine piece_sound (fun e => match e with | .normal => [8] | .ret => [] | _ => []) ?_
 intro x h Q hb
 refine den_sound hE hm _ (.two (.two (.ord [0, 1, 2, 3, 4, 5, 6, 7, 8, 9, 10, 11, 12, 13]) .leaf) (.two (.ord [0, 1, 2, 3, 4, 5, 6, 7, 8, 9, 10, 11, 12, 13, 14, 15, 16, 17, 18, 19, 20, 21, 22, 23]) .leaf)) _ _ _ (⟨⟨trivial, annOk_leaf⟩, ⟨trivial, annOk_leaf⟩⟩) ?_
 refine cast ?_ hb
 kernel_rfl
def N88_l0_b (x0 : Sl) (x2 x3 : Int) (Φ : Int → Hp → Prop) (x8 : Int) (h : Hp) (K0 Kr : Hp → Prop) : Prop :=
 bif (decide ((IntKind.wrap .i64 ((IntKind.wrap .i64 (2 * x8)) + 1)) ≥ x2)) then
 K0 h
 else
 bif (decide ((IntKind.wrap .i64 ((IntKind.wrap .i64 ((IntKind.wrap .i64 (2 * x8)) + 1)) + 1)) < x2)) then
 idx (IntKind.wrap .i64 (x3 + (IntKind.wrap .i64 ((IntKind.wrap .i64 (2 * x8)) + 1)))) x0.n <|
 nn x0.p fun a0 =>
 xI .u32 (cell h (a0.add ((IntKind.wrap .i64 (x3 + (IntKind.wrap .i64 ((IntKind.wrap .i64 (2 * x8)) + 1)))).toNat * 1))) fun n0 =>
 idx (IntKind.wrap .i64 ((IntKind.wrap .i64 (x3 + (IntKind.wrap .i64 ((IntKind.wrap .i64 (2 * x8)) + 1)))) + 1)) x0.n <|
 nn x0.p fun a1 =>
 xI .u32 (cell h (a1.add ((IntKind.wrap .i64 ((IntKind.wrap .i64 (x3 + (IntKind.wrap .i64 ((IntKind.wrap .i64 (2 * x8)) + 1)))) + 1)).toNat * 1))) fun n1 =>
 C83 n0 n1 h fun b0 h0 =>
 N88_j1 x0 x2 x3 x8 (IntKind.wrap .i64 ((IntKind.wrap .i64 (2 * x8)) + 1)) b0 h0
 (fun n2 h1 =>
 N88_j2 x0 x2 x3 x8 n2 h1
 (fun n3 h2 =>
 Φ n3 h2)
 (fun h3 =>
 Kr h3))
 else
 N88_j1 x0 x2 x3 x8 (IntKind.wrap .i64 ((IntKind.wrap .i64 (2 * x8)) + 1)) false h
 (fun n4 h4 =>
 N88_j2 x0 x2 x3 x8 n4 h4
 (fun n5 h5 =>
 Φ n5 h5)
 (fun h6 =>
 Kr h6))
def N88_l0_B (x0 : Sl) (x2 x3 : Int) (K0 Kr : Hp → Prop) (s : Sg.T [(8, .c (.int .i64))]) (h : Hp) (Φ : Sg.T [(8, .c (.int .i64))] → Hp → Prop) : Prop :=
 N88_l0_b x0 x2 x3 (fun x8 h => Φ x8 h) s h K0 Kr
def N88_l0 (x0 : Sl) (x2 x3 x8 : Int) (h : Hp) (K0 Kr : Hp → Prop) : Prop :=
 loopP (N88_l0_B x0 x2 x3 K0 Kr) x8 h
noncomputable def N88_l0_t : Xf := loopT [(0, .c (.slice)), (2, .c (.int .i64)), (3, .c (.int .i64))] [(8, .c (.int .i64))] (codeAt B88 [1, 0, 0]) fun F Q => N88_l0_B F.1 F.2.1 F.2.2 (fun h' => Q (.exit 0) (Sg.env [] ()) h') (fun h' => Q .ret (Sg.env [] ()) h')
theorem N88_l0_ok : Sound Try.prog Try.f88.ntmps N88_l0_t (codeAt B88 [1, 0]) := by
 refine loop_sound (fun e => match e with | .exit 0 => [] | .ret => [] | _ => []) (by kernel_rfl) ?_
 intro F Q s h Φ hb
 refine den_sound hE hm _ (.one (.two .leaf (.two .leaf (.two (.two (.ord [0, 1, 2, 3, 4, 5, 6, 7, 8, 9, 10, 11, 12, 13, 14, 15, 16, 17, 18, 19]) (.xf N88_j1_t)) (.xf N88_j2_t))))) _ _ _ (⟨annOk_leaf, ⟨annOk_leaf, ⟨⟨trivial, N88_j1_ok⟩, N88_j2_ok⟩⟩⟩) ?_
 refine cast ?_ hb
 kernel_rfl
def N88 (x0 : Sl) (x1 x2 x3 : Int) (h : Hp) (K : Hp → Prop) : Prop :=
 N88_l0 x0 x2 x3 x1 h
 (fun h0 =>
 K h0)
 (fun h1 =>
 K h1)
theorem S88 {x0 : Sl} {x1 x2 x3 : Int} {h : Hp} {K : Hp → Prop} (hn : N88 x0 x1 x2 x3 h K) : C88 x0 x1 x2 x3 h K := by
 refine calls_of_D Try.func88 (c := B88) rfl (by kernel_rfl) ?_
 refine den_sound hE hm _ (.two .leaf (.one (.xf N88_l0_t))) _ _ _ (⟨annOk_leaf, N88_l0_ok⟩) ?_
 refine cast ?_ hn
 kernel_rfl
end Go.Proofs.Ytkfccpabigikkaa

set_option linter.unusedVariables false
set_option maxRecDepth 100000
namespace Go.Proofs.Ytkfccpabigikkaa
open Go Go.Hw
noncomputable def B78 : Code := match Try.f78.body with | some c => c | none => .skip
def N78_l0_b (x0 : Sl) (x6 x7 x8 : Int) (Φ : Int → Hp → Prop) (x9 : Int) (h : Hp) (K0 : Hp → Prop) : Prop :=
 bif (decide (x9 ≥ 0)) then
 C88 x0 x9 x8 x6 h fun h0 =>
 Φ (IntKind.wrap .i64 (x9 - 1)) h0
 else
 K0 h
def N78_l0_B (x0 : Sl) (x6 x7 x8 : Int) (K0 : Hp → Prop) (s : Sg.T [(9, .c (.int .i64))]) (h : Hp) (Φ : Sg.T [(9, .c (.int .i64))] → Hp → Prop) : Prop :=
 N78_l0_b x0 x6 x7 x8 (fun x9 h => Φ x9 h) s h K0
def N78_l0 (x0 : Sl) (x6 x7 x8 x9 : Int) (h : Hp) (K0 : Hp → Prop) : Prop :=
 loopP (N78_l0_B x0 x6 x7 x8 K0) x9 h
noncomputable def N78_l0_t : Xf := loopT [(0, .c (.slice)), (6, .c (.int .i64)), (7, .c (.int .i64)), (8, .c (.int .i64))] [(9, .c (.int .i64))] (codeAt B78 [1, 1, 1, 0, 1, 0, 0]) fun F Q => N78_l0_B F.1 F.2.1 F.2.2.1 F.2.2.2 (fun h' => Q (.exit 0) (Sg.env [] ()) h')
theorem N78_l0_ok : Sound Try.prog Try.f78.ntmps N78_l0_t (codeAt B78 [1, 1, 1, 0, 1, 0]) := by
 refine loop_sound (fun e => match e with | .exit 0 => [] | _ => []) (by kernel_rfl) ?_
 intro F Q s h Φ hb
 refine den_sound hE hm _ .leaf _ _ _ (annOk_leaf) ?_
 refine cast ?_ hb
 kernel_rfl
def N78_l1_b (x0 : Sl) (x6 x7 : Int) (Φ : Int → Hp → Prop) (x10 : Int) (h : Hp) (K2 : Hp → Prop) : Prop :=
 bif (decide (x10 ≥ 0)) then
 idx (IntKind.wrap .i64 (x6 + x10)) x0.n <|
 nn x0.p fun a0 =>
 xI .u32 (cell h (a0.add ((IntKind.wrap .i64 (x6 + x10)).toNat * 1))) fun n0 =>
 idx x6 x0.n <|
 nn x0.p fun a1 =>
 xI .u32 (cell h (a1.add (x6.toNat * 1))) fun n1 =>
 idx x6 x0.n <|
 nn x0.p fun a2 =>
 st h (a2.add (x6.toNat * 1)) (.int .u32 n0) fun h0 =>
 idx (IntKind.wrap .i64 (x6 + x10)) x0.n <|
 nn x0.p fun a3 =>
 st h0 (a3.add ((IntKind.wrap .i64 (x6 + x10)).toNat * 1)) (.int .u32 n1) fun h1 =>
 C88 x0 x7 x10 x6 h1 fun h2 =>
 Φ (IntKind.wrap .i64 (x10 - 1)) h2
 else
 K2 h
def N78_l1_B (x0 : Sl) (x6 x7 : Int) (K2 : Hp → Prop) (s : Sg.T [(10, .c (.int .i64))]) (h : Hp) (Φ : Sg.T [(10, .c (.int .i64))] → Hp → Prop) : Prop :=
 N78_l1_b x0 x6 x7 (fun x10 h => Φ x10 h) s h K2
def N78_l1 (x0 : Sl) (x6 x7 x10 : Int) (h : Hp) (K2 : Hp → Prop) : Prop :=
 loopP (N78_l1_B x0 x6 x7 K2) x10 h
noncomputable def N78_l1_t : Xf := loopT [(0, .c (.slice)), (6, .c (.int .i64)), (7, .c (.int .i64))] [(10, .c (.int .i64))] (codeAt B78 [1, 1, 1, 1, 1, 0, 0]) fun F Q => N78_l1_B F.1 F.2.1 F.2.2 (fun h' => Q (.exit 2) (Sg.env [] ()) h')
theorem N78_l1_ok : Sound Try.prog Try.f78.ntmps N78_l1_t (codeAt B78 [1, 1, 1, 1, 1, 0]) := by
 refine loop_sound (fun e => match e with | .exit 2 => [] | _ => []) (by kernel_rfl) ?_
 intro F Q s h Φ hb
 refine den_sound hE hm _ (.two .leaf (.two (.one (.two (.ord [0, 1, 2, 3, 4, 5, 6, 7, 8, 9, 10, 11, 12, 13, 14, 15, 16, 17, 18, 19]) .leaf)) .leaf)) _ _ _ (⟨annOk_leaf, ⟨⟨trivial, annOk_leaf⟩, annOk_leaf⟩⟩) ?_
 refine cast ?_ hb
 kernel_rfl
def N78 (x0 : Sl) (x1 x2 : Int) (h : Hp) (K : Hp → Prop) : Prop :=
 N78_l0 x0 x1 0 (IntKind.wrap .i64 (x2 - x1)) (IntKind.wrap .i64 (Int.tdiv (IntKind.wrap .i64 ((IntKind.wrap .i64 (x2 - x1)) - 1)) 2)) h
 (fun h0 =>
 N78_l1 x0 x1 0 (IntKind.wrap .i64 ((IntKind.wrap .i64 (x2 - x1)) - 1)) h0
 (fun h1 =>
 K h1))
theorem S78 {x0 : Sl} {x1 x2 : Int} {h : Hp} {K : Hp → Prop} (hn : N78 x0 x1 x2 h K) : C78 x0 x1 x2 h K := by
 refine calls_of_D Try.func78 (c := B78) rfl (by kernel_rfl) ?_
 refine den_sound hE hm _ (.two .leaf (.two .leaf (.two .leaf (.two (.two .leaf (.one (.xf N78_l0_t))) (.two .leaf (.one (.xf N78_l1_t))))))) _ _ _ (⟨annOk_leaf, ⟨annOk_leaf, ⟨annOk_leaf, ⟨⟨annOk_leaf, N78_l0_ok⟩, ⟨annOk_leaf, N78_l1_ok⟩⟩⟩⟩⟩) ?_
 refine cast ?_ hn
 kernel_rfl
end Go.Proofs.Ytkfccpabigikkaa

/-
 The sort of a row of uint32, first part: rows, exchanges, the insertion sort, the heap sort, as the plain functions of the kit's sort (Derived.Sort.Defs) have them.
-/
set_option linter.unusedSimpArgs false
set_option linter.unusedVariables false
namespace Go.Proofs.Ytkfccpabigikkaa
open Go Go.Hw
def ur (d : Array Int) : List Value := d.toList.map fun n => .int .u32 n
abbrev UA (s : Sl) (d : Array Int) : Asn := Hw.own 39 1 s (ur d)
theorem ur_len (d : Array Int) : (ur d).length = d.size := by simp [ur]
theorem ur_get {d : Array Int} {i : Nat} (hi : i < d.size) : (ur d)[i]? = some (.int .u32 d[i]!) := by
 unfold ur
 rw [List.getElem?_map]
 simp [hi]
theorem ur_set (d : Array Int) (i : Nat) (v : Int) : (ur d).set i (.int .u32 v) = ur (d.setIfInBounds i v) := by
 unfold ur
 rw [Array.toList_setIfInBounds, List.map_set]
section
variable {L : List Asn} {s : Sl} {d : Array Int} {h : Hp}
theorem uaN (hs : Sat (L ++ [UA s d]) h) : s.n = d.size := by
 have := (hs.own 0 rfl).1; rw [ur_len] at this; omega
theorem rdU {x : Int} {i : Nat} {F : Int → Prop} (hs : Sat (L ++ [UA s d]) h) (hx : x = i) (hi : i < d.size) (hF : F d[i]!) : idx x s.n (nn s.p fun a => xI .u32 (cell h (a.add (x.toNat * 1))) F) := by
 have hn := uaN hs
 subst hx
 refine idx_of (by omega) (by omega) ?_
 rw [Int.toNat_natCast, Nat.mul_one]
 exact hs.oI 0 rfl (ur_get hi) hF
theorem stU {x v : Int} {i : Nat} {F : Hp → Prop} (hs : Sat (L ++ [UA s d]) h) (hx : x = i) (hi : i < d.size) (hF : ∀ h', Sat (L ++ [UA s (d.setIfInBounds i v)]) h' → F h') : idx x s.n (nn s.p fun a => st h (a.add (x.toNat * 1)) (.int .u32 v) F) := by
 have hn := uaN hs
 subst hx
 refine idx_of (by omega) (by omega) ?_
 rw [Int.toNat_natCast, Nat.mul_one]
 obtain ⟨b, hp, _⟩ := hs.cel 0 rfl (ur_get hi)
 rw [hp]
 simp only [nn_some']
 refine hs.stO 0 rfl (k := i) (by rw [ur_len]; exact hi) rfl hp ?_
 intro h1 hs1
 rw [ur_set] at hs1
 exact hF h1 hs1
theorem swU {x y : Int} {i j : Nat} {F : Hp → Prop} (hs : Sat (L ++ [UA s d]) h) (hx : x = i) (hy : y = j) (hi : i < d.size) (hj : j < d.size) (hF : ∀ h', Sat (L ++ [UA s (Sort.swp d i j)]) h' → F h') :
  idx y s.n (nn s.p fun a => xI .u32 (cell h (a.add (y.toNat * 1))) fun n2 => idx x s.n (nn s.p fun a => xI .u32 (cell h (a.add (x.toNat * 1))) fun n3 =>
   idx x s.n (nn s.p fun a => st h (a.add (x.toNat * 1)) (.int .u32 n2) fun h1 => idx y s.n (nn s.p fun a => st h1 (a.add (y.toNat * 1)) (.int .u32 n3) F)))) := by
 refine rdU hs hy hj ?_
 refine rdU hs hx hi ?_
 refine stU hs hx hi fun h1 hs1 => ?_
 exact stU hs1 hy (by simpa using hj) fun h2 hs2 => hF h2 hs2
end
theorem swp_size (d : Array Int) (i j : Nat) : (Sort.swp d i j).size = d.size := by simp [Sort.swp]
theorem c_less {x y : Int} {h : Hp} {K : Bool → Hp → Prop} (hK : K (Sort.ltInt x y) h) : C83 x y h K := by
 apply S83; unfold N83
 apply S93; unfold N93
 have : (x != x) = false := by simp
 simp only [this, cond_false]
 exact hK
theorem insInner_size (a : Nat) : ∀ (j : Nat) (d : Array Int), (Sort.insInner Sort.ltInt a j d).size = d.size
 | 0, d => rfl
 | j + 1, d => by
  rw [Sort.insInner]
  split
  ·rw [insInner_size a j, swp_size]
  ·rfl
theorem c_insInner {L : List Asn} {s : Sl} {a : Nat} {b i : Int} {j : Nat} {d : Array Int} {h : Hp} {K : Hp → Prop} (hs : Sat (L ++ [UA s d]) h) (hj : j < d.size) (hd : d.size ≤ 1099511627776)
  (hK : ∀ h', Sat (L ++ [UA s (Sort.insInner Sort.ltInt a j d)]) h' → K h') : N77_l1 s (a : Int) b i (j : Int) h K := by
 unfold N77_l1
 refine loopP_inv (fun (x : Int) hc => ∃ (k : Nat) (e : Array Int), x = k ∧ k ≤ j ∧ e.size = d.size ∧ Sort.insInner Sort.ltInt a k e = Sort.insInner Sort.ltInt a j d ∧ Sat (L ++ [UA s e]) hc) (fun x _ => x.toNat) ?_ ⟨j, d, rfl, Nat.le_refl _, rfl, rfl, hs⟩
 rintro x hc ⟨k, e, rfl, hk, he, hr, hs⟩
 unfold N77_l1_B N77_l1_b
 dsimp only
 by_cases hka : a < k
 ·have : decide ((k : Int) > (a : Int)) = true := decide_eq_true (by omega)
  rw [this, cond_true]
  obtain ⟨q, rfl⟩ : ∃ q, k = q + 1 := ⟨k - 1, by omega⟩
  have e1 : IntKind.wrap .i64 (((q + 1 : Nat) : Int) - 1) = (q : Int) := by rw [wi64i (by omega) (by omega)]; omega
  rw [e1]
  refine rdU hs rfl (by omega) ?_
  refine rdU hs rfl (by omega) ?_
  refine c_less ?_
  rw [Sort.insInner] at hr
  cases hl : Sort.ltInt e[q + 1]! e[q]! with
  | true =>
   rw [cond_true]
   rw [hl, if_pos (by simpa using hka)] at hr
   refine swU hs rfl rfl (by omega) (by omega) fun h1 hs1 => ?_
   exact ⟨⟨q, _, rfl, by omega, by rw [swp_size]; exact he, hr, hs1⟩, by simp only [Int.toNat_natCast]; omega⟩
  | false =>
   rw [cond_false]
   rw [hl, Bool.and_false, if_neg (by decide)] at hr
   refine hK hc ?_
   rw [← hr]; exact hs
 ·have : decide ((k : Int) > (a : Int)) = false := decide_eq_false (by omega)
  rw [this, cond_false]
  refine hK hc ?_
  rw [← hr]
  cases k with
  | zero => exact hs
  | succ q => rw [Sort.insInner, if_neg (by simp; omega)]; exact hs
theorem c_ins {L : List Asn} {s : Sl} {a b : Nat} {d : Array Int} {h : Hp} {K : Hp → Prop} (hs : Sat (L ++ [UA s d]) h) (hb : b ≤ d.size) (hab : a ≤ b) (hd : d.size ≤ 1099511627776)
  (hK : ∀ h', Sat (L ++ [UA s (Sort.insertionSort Sort.ltInt d a b)]) h' → K h') : C77 s (a : Int) (b : Int) h K := by
 apply S77; unfold N77 N77_l0
 have e0 : IntKind.wrap .i64 ((a : Int) + 1) = ((a + 1 : Nat) : Int) := by rw [wi64i (by omega) (by omega)]; omega
 rw [e0]
 refine loopP_inv (fun (x : Int) hc => ∃ (i : Nat) (e : Array Int), x = i ∧ i ≤ d.size + 1 ∧ e.size = d.size ∧ Sort.insOuter Sort.ltInt a b i e = Sort.insertionSort Sort.ltInt d a b ∧ Sat (L ++ [UA s e]) hc) (fun x _ => d.size + 1 - x.toNat) ?_ ⟨a + 1, d, rfl, by omega, rfl, rfl, hs⟩
 rintro x hc ⟨i, e, rfl, hi, he, hr, hs⟩
 unfold N77_l0_B N77_l0_b
 dsimp only
 rw [Sort.insOuter] at hr
 by_cases hib : i < b
 ·rw [if_pos hib] at hr
  have : decide ((i : Int) < (b : Int)) = true := decide_eq_true (by omega)
  rw [this, cond_true]
  refine c_insInner hs (by omega) (by omega) fun h1 hs1 => ?_
  have e1 : IntKind.wrap .i64 ((i : Int) + 1) = ((i + 1 : Nat) : Int) := by rw [wi64i (by omega) (by omega)]; omega
  rw [e1]
  exact ⟨⟨i + 1, _, rfl, by omega, by rw [insInner_size]; exact he, hr, hs1⟩, by simp only [Int.toNat_natCast]; omega⟩
 ·rw [if_neg hib] at hr
  have : decide ((i : Int) < (b : Int)) = false := decide_eq_false (by omega)
  rw [this, cond_false]
  refine hK hc ?_
  rw [← hr]; exact hs
end Go.Proofs.Ytkfccpabigikkaa

set_option linter.unusedVariables false
set_option maxRecDepth 100000
namespace Go.Proofs.Ytkfccpabigikkaa
open Go Go.Hw
noncomputable def B81 : Code := match Try.f81.body with | some c => c | none => .skip
def N81_l0_b (x0 : Sl) (Φ : Int → Int → Hp → Prop) (x6 x7 : Int) (h : Hp) (K0 : Hp → Prop) : Prop :=
 bif (decide (x6 < x7)) then
 idx x7 x0.n <|
 nn x0.p fun a0 =>
 xI .u32 (cell h (a0.add (x7.toNat * 1))) fun n0 =>
 idx x6 x0.n <|
 nn x0.p fun a1 =>
 xI .u32 (cell h (a1.add (x6.toNat * 1))) fun n1 =>
 idx x6 x0.n <|
 nn x0.p fun a2 =>
 st h (a2.add (x6.toNat * 1)) (.int .u32 n0) fun h0 =>
 idx x7 x0.n <|
 nn x0.p fun a3 =>
 st h0 (a3.add (x7.toNat * 1)) (.int .u32 n1) fun h1 =>
 Φ (IntKind.wrap .i64 (x6 + 1)) (IntKind.wrap .i64 (x7 - 1)) h1
 else
 K0 h
def N81_l0_B (x0 : Sl) (K0 : Hp → Prop) (s : Sg.T [(6, .c (.int .i64)), (7, .c (.int .i64))]) (h : Hp) (Φ : Sg.T [(6, .c (.int .i64)), (7, .c (.int .i64))] → Hp → Prop) : Prop :=
 N81_l0_b x0 (fun x6 x7 h => Φ (x6, x7) h) s.1 s.2 h K0
def N81_l0 (x0 : Sl) (x6 x7 : Int) (h : Hp) (K0 : Hp → Prop) : Prop :=
 loopP (N81_l0_B x0 K0) (x6, x7) h
noncomputable def N81_l0_t : Xf := loopT [(0, .c (.slice))] [(6, .c (.int .i64)), (7, .c (.int .i64))] (codeAt B81 [1, 1, 0, 0]) fun F Q => N81_l0_B F (fun h' => Q (.exit 0) (Sg.env [] ()) h')
theorem N81_l0_ok : Sound Try.prog Try.f81.ntmps N81_l0_t (codeAt B81 [1, 1, 0]) := by
 refine loop_sound (fun e => match e with | .exit 0 => [] | _ => []) (by kernel_rfl) ?_
 intro F Q s h Φ hb
 refine den_sound hE hm _ (.two .leaf (.one (.two (.ord [0, 1, 2, 3, 4, 5, 6, 7, 8, 9, 10, 11, 12, 13, 14, 15]) .leaf))) _ _ _ (⟨annOk_leaf, ⟨trivial, annOk_leaf⟩⟩) ?_
 refine cast ?_ hb
 kernel_rfl
def N81 (x0 : Sl) (x1 x2 : Int) (h : Hp) (K : Hp → Prop) : Prop :=
 N81_l0 x0 x1 (IntKind.wrap .i64 (x2 - 1)) h
 (fun h0 =>
 K h0)
theorem S81 {x0 : Sl} {x1 x2 : Int} {h : Hp} {K : Hp → Prop} (hn : N81 x0 x1 x2 h K) : C81 x0 x1 x2 h K := by
 refine calls_of_D Try.func81 (c := B81) rfl (by kernel_rfl) ?_
 refine den_sound hE hm _ (.two .leaf (.two .leaf (.one (.xf N81_l0_t)))) _ _ _ (⟨annOk_leaf, ⟨annOk_leaf, N81_l0_ok⟩⟩) ?_
 refine cast ?_ hn
 kernel_rfl
end Go.Proofs.Ytkfccpabigikkaa

set_option linter.unusedVariables false
set_option maxRecDepth 100000
namespace Go.Proofs.Ytkfccpabigikkaa
open Go Go.Hw
noncomputable def B85 : Code := match Try.f85.body with | some c => c | none => .skip
def N85_l0_b (x0 : Sl) (x1 x11 : Int) (Φ : Int → Hp → Prop) (x10 : Int) (h : Hp) (K0 : Int → Hp → Prop) : Prop :=
 bif (decide (x10 ≤ x11)) then
 idx x10 x0.n <|
 nn x0.p fun a0 =>
 xI .u32 (cell h (a0.add (x10.toNat * 1))) fun n0 =>
 idx x1 x0.n <|
 nn x0.p fun a1 =>
 xI .u32 (cell h (a1.add (x1.toNat * 1))) fun n1 =>
 C83 n0 n1 h fun b0 h0 =>
 bif b0 then
 Φ (IntKind.wrap .i64 (x10 + 1)) h0
 else
 K0 x10 h0
 else
 K0 x10 h
def N85_l0_B (x0 : Sl) (x1 x11 : Int) (K0 : Int → Hp → Prop) (s : Sg.T [(10, .c (.int .i64))]) (h : Hp) (Φ : Sg.T [(10, .c (.int .i64))] → Hp → Prop) : Prop :=
 N85_l0_b x0 x1 x11 (fun x10 h => Φ x10 h) s h K0
def N85_l0 (x0 : Sl) (x1 x11 x10 : Int) (h : Hp) (K0 : Int → Hp → Prop) : Prop :=
 loopP (N85_l0_B x0 x1 x11 K0) x10 h
noncomputable def N85_l0_t : Xf := loopT [(0, .c (.slice)), (1, .c (.int .i64)), (11, .c (.int .i64))] [(10, .c (.int .i64))] (codeAt B85 [1, 1, 1, 0, 0, 0]) fun F Q => N85_l0_B F.1 F.2.1 F.2.2 (fun o0 h' => Q (.exit 0) (Sg.env [(10, .c (.int .i64))] o0) h')
theorem N85_l0_ok : Sound Try.prog Try.f85.ntmps N85_l0_t (codeAt B85 [1, 1, 1, 0, 0]) := by
 refine loop_sound (fun e => match e with | .exit 0 => [10] | _ => []) (by kernel_rfl) ?_
 intro F Q s h Φ hb
 refine den_sound hE hm _ (.two (.two (.ord [0, 1, 2, 3, 4, 5, 6, 7, 8, 9, 10, 11, 12, 13]) .leaf) .leaf) _ _ _ (⟨⟨trivial, annOk_leaf⟩, annOk_leaf⟩) ?_
 refine cast ?_ hb
 kernel_rfl
def N85_l1_b (x0 : Sl) (x1 x10 : Int) (Φ : Int → Hp → Prop) (x11 : Int) (h : Hp) (K2 : Int → Hp → Prop) : Prop :=
 bif (decide (x10 ≤ x11)) then
 idx x11 x0.n <|
 nn x0.p fun a0 =>
 xI .u32 (cell h (a0.add (x11.toNat * 1))) fun n0 =>
 idx x1 x0.n <|
 nn x0.p fun a1 =>
 xI .u32 (cell h (a1.add (x1.toNat * 1))) fun n1 =>
 C83 n0 n1 h fun b0 h0 =>
 bif (!b0) then
 Φ (IntKind.wrap .i64 (x11 - 1)) h0
 else
 K2 x11 h0
 else
 K2 x11 h
def N85_l1_B (x0 : Sl) (x1 x10 : Int) (K2 : Int → Hp → Prop) (s : Sg.T [(11, .c (.int .i64))]) (h : Hp) (Φ : Sg.T [(11, .c (.int .i64))] → Hp → Prop) : Prop :=
 N85_l1_b x0 x1 x10 (fun x11 h => Φ x11 h) s h K2
def N85_l1 (x0 : Sl) (x1 x10 x11 : Int) (h : Hp) (K2 : Int → Hp → Prop) : Prop :=
 loopP (N85_l1_B x0 x1 x10 K2) x11 h
noncomputable def N85_l1_t : Xf := loopT [(0, .c (.slice)), (1, .c (.int .i64)), (10, .c (.int .i64))] [(11, .c (.int .i64))] (codeAt B85 [1, 1, 1, 1, 0, 0, 0]) fun F Q => N85_l1_B F.1 F.2.1 F.2.2 (fun o0 h' => Q (.exit 2) (Sg.env [(11, .c (.int .i64))] o0) h')
theorem N85_l1_ok : Sound Try.prog Try.f85.ntmps N85_l1_t (codeAt B85 [1, 1, 1, 1, 0, 0]) := by
 refine loop_sound (fun e => match e with | .exit 2 => [11] | _ => []) (by kernel_rfl) ?_
 intro F Q s h Φ hb
 refine den_sound hE hm _ (.two (.two (.ord [0, 1, 2, 3, 4, 5, 6, 7, 8, 9, 10, 11, 12, 13, 14]) .leaf) .leaf) _ _ _ (⟨⟨trivial, annOk_leaf⟩, annOk_leaf⟩) ?_
 refine cast ?_ hb
 kernel_rfl
def N85_l3_b (x0 : Sl) (x1 x11 : Int) (Φ : Int → Hp → Prop) (x10 : Int) (h : Hp) (K6 : Int → Hp → Prop) : Prop :=
 bif (decide (x10 ≤ x11)) then
 idx x10 x0.n <|
 nn x0.p fun a0 =>
 xI .u32 (cell h (a0.add (x10.toNat * 1))) fun n0 =>
 idx x1 x0.n <|
 nn x0.p fun a1 =>
 xI .u32 (cell h (a1.add (x1.toNat * 1))) fun n1 =>
 C83 n0 n1 h fun b0 h0 =>
 bif b0 then
 Φ (IntKind.wrap .i64 (x10 + 1)) h0
 else
 K6 x10 h0
 else
 K6 x10 h
def N85_l3_B (x0 : Sl) (x1 x11 : Int) (K6 : Int → Hp → Prop) (s : Sg.T [(10, .c (.int .i64))]) (h : Hp) (Φ : Sg.T [(10, .c (.int .i64))] → Hp → Prop) : Prop :=
 N85_l3_b x0 x1 x11 (fun x10 h => Φ x10 h) s h K6
def N85_l3 (x0 : Sl) (x1 x11 x10 : Int) (h : Hp) (K6 : Int → Hp → Prop) : Prop :=
 loopP (N85_l3_B x0 x1 x11 K6) x10 h
noncomputable def N85_l3_t : Xf := loopT [(0, .c (.slice)), (1, .c (.int .i64)), (11, .c (.int .i64))] [(10, .c (.int .i64))] (codeAt B85 [1, 1, 1, 1, 1, 1, 1, 1, 1, 0, 0, 0, 0, 0, 0, 0]) fun F Q => N85_l3_B F.1 F.2.1 F.2.2 (fun o0 h' => Q (.exit 6) (Sg.env [(10, .c (.int .i64))] o0) h')
theorem N85_l3_ok : Sound Try.prog Try.f85.ntmps N85_l3_t (codeAt B85 [1, 1, 1, 1, 1, 1, 1, 1, 1, 0, 0, 0, 0, 0, 0]) := by
 refine loop_sound (fun e => match e with | .exit 6 => [10] | _ => []) (by kernel_rfl) ?_
 intro F Q s h Φ hb
 refine den_sound hE hm _ (.two (.two (.ord [0, 1, 2, 3, 4, 5, 6, 7, 8, 9, 10, 11, 12, 13]) .leaf) .leaf) _ _ _ (⟨⟨trivial, annOk_leaf⟩, annOk_leaf⟩) ?_
 refine cast ?_ hb
 kernel_rfl
def N85_l4_b (x0 : Sl) (x1 x10 : Int) (Φ : Int → Hp → Prop) (x11 : Int) (h : Hp) (K8 : Int → Hp → Prop) : Prop :=
 bif (decide (x10 ≤ x11)) then
 idx x11 x0.n <|
 nn x0.p fun a0 =>
 xI .u32 (cell h (a0.add (x11.toNat * 1))) fun n0 =>
 idx x1 x0.n <|
 nn x0.p fun a1 =>
 xI .u32 (cell h (a1.add (x1.toNat * 1))) fun n1 =>
 C83 n0 n1 h fun b0 h0 =>
 bif (!b0) then
 Φ (IntKind.wrap .i64 (x11 - 1)) h0
 else
 K8 x11 h0
 else
 K8 x11 h
def N85_l4_B (x0 : Sl) (x1 x10 : Int) (K8 : Int → Hp → Prop) (s : Sg.T [(11, .c (.int .i64))]) (h : Hp) (Φ : Sg.T [(11, .c (.int .i64))] → Hp → Prop) : Prop :=
 N85_l4_b x0 x1 x10 (fun x11 h => Φ x11 h) s h K8
def N85_l4 (x0 : Sl) (x1 x10 x11 : Int) (h : Hp) (K8 : Int → Hp → Prop) : Prop :=
 loopP (N85_l4_B x0 x1 x10 K8) x11 h
noncomputable def N85_l4_t : Xf := loopT [(0, .c (.slice)), (1, .c (.int .i64)), (10, .c (.int .i64))] [(11, .c (.int .i64))] (codeAt B85 [1, 1, 1, 1, 1, 1, 1, 1, 1, 0, 0, 0, 0, 1, 0, 0, 0]) fun F Q => N85_l4_B F.1 F.2.1 F.2.2 (fun o0 h' => Q (.exit 8) (Sg.env [(11, .c (.int .i64))] o0) h')
theorem N85_l4_ok : Sound Try.prog Try.f85.ntmps N85_l4_t (codeAt B85 [1, 1, 1, 1, 1, 1, 1, 1, 1, 0, 0, 0, 0, 1, 0, 0]) := by
 refine loop_sound (fun e => match e with | .exit 8 => [11] | _ => []) (by kernel_rfl) ?_
 intro F Q s h Φ hb
 refine den_sound hE hm _ (.two (.two (.ord [0, 1, 2, 3, 4, 5, 6, 7, 8, 9, 10, 11, 12, 13, 14]) .leaf) .leaf) _ _ _ (⟨⟨trivial, annOk_leaf⟩, annOk_leaf⟩) ?_
 refine cast ?_ hb
 kernel_rfl
def N85_l2_b (x0 : Sl) (x1 : Int) (Φ : Int → Int → Hp → Prop) (x10 x11 : Int) (h : Hp) (K4 : Int → Hp → Prop) : Prop :=
 N85_l3 x0 x1 x11 x10 h
 (fun n0 h0 =>
 N85_l4 x0 x1 n0 x11 h0
 (fun n1 h1 =>
 bif (decide (n0 > n1)) then
 K4 n1 h1
 else
 idx n1 x0.n <|
 nn x0.p fun a0 =>
 xI .u32 (cell h1 (a0.add (n1.toNat * 1))) fun n2 =>
 idx n0 x0.n <|
 nn x0.p fun a1 =>
 xI .u32 (cell h1 (a1.add (n0.toNat * 1))) fun n3 =>
 idx n0 x0.n <|
 nn x0.p fun a2 =>
 st h1 (a2.add (n0.toNat * 1)) (.int .u32 n2) fun h2 =>
 idx n1 x0.n <|
 nn x0.p fun a3 =>
 st h2 (a3.add (n1.toNat * 1)) (.int .u32 n3) fun h3 =>
 Φ (IntKind.wrap .i64 (n0 + 1)) (IntKind.wrap .i64 (n1 - 1)) h3))
def N85_l2_B (x0 : Sl) (x1 : Int) (K4 : Int → Hp → Prop) (s : Sg.T [(10, .c (.int .i64)), (11, .c (.int .i64))]) (h : Hp) (Φ : Sg.T [(10, .c (.int .i64)), (11, .c (.int .i64))] → Hp → Prop) : Prop :=
 N85_l2_b x0 x1 (fun x10 x11 h => Φ (x10, x11) h) s.1 s.2 h K4
def N85_l2 (x0 : Sl) (x1 x10 x11 : Int) (h : Hp) (K4 : Int → Hp → Prop) : Prop :=
 loopP (N85_l2_B x0 x1 K4) (x10, x11) h
noncomputable def N85_l2_t : Xf := loopT [(0, .c (.slice)), (1, .c (.int .i64))] [(10, .c (.int .i64)), (11, .c (.int .i64))] (codeAt B85 [1, 1, 1, 1, 1, 1, 1, 1, 1, 0, 0, 0]) fun F Q => N85_l2_B F.1 F.2 (fun o0 h' => Q (.exit 4) (Sg.env [(11, .c (.int .i64))] o0) h')
theorem N85_l2_ok : Sound Try.prog Try.f85.ntmps N85_l2_t (codeAt B85 [1, 1, 1, 1, 1, 1, 1, 1, 1, 0, 0]) := by
 refine loop_sound (fun e => match e with | .exit 4 => [11] | _ => []) (by kernel_rfl) ?_
 intro F Q s h Φ hb
 refine den_sound hE hm _ (.one (.two (.one (.xf N85_l3_t)) (.two (.one (.xf N85_l4_t)) (.two .leaf (.two (.ord [0, 1, 2, 3, 4, 5, 6, 7, 8, 9, 10, 11, 12, 13, 14, 15]) .leaf))))) _ _ _ (⟨N85_l3_ok, ⟨N85_l4_ok, ⟨annOk_leaf, ⟨trivial, annOk_leaf⟩⟩⟩⟩) ?_
 refine cast ?_ hb
 kernel_rfl
def N85 (x0 : Sl) (x1 x2 x3 : Int) (h : Hp) (K : Int → Bool → Hp → Prop) : Prop :=
 idx x3 x0.n <|
 nn x0.p fun a0 =>
 xI .u32 (cell h (a0.add (x3.toNat * 1))) fun n0 =>
 idx x1 x0.n <|
 nn x0.p fun a1 =>
 xI .u32 (cell h (a1.add (x1.toNat * 1))) fun n1 =>
 idx x1 x0.n <|
 nn x0.p fun a2 =>
 st h (a2.add (x1.toNat * 1)) (.int .u32 n0) fun h0 =>
 idx x3 x0.n <|
 nn x0.p fun a3 =>
 st h0 (a3.add (x3.toNat * 1)) (.int .u32 n1) fun h1 =>
 N85_l0 x0 x1 (IntKind.wrap .i64 (x2 - 1)) (IntKind.wrap .i64 (x1 + 1)) h1
 (fun n2 h2 =>
 N85_l1 x0 x1 n2 (IntKind.wrap .i64 (x2 - 1)) h2
 (fun n3 h3 =>
 bif (decide (n2 > n3)) then
 idx x1 x0.n <|
 nn x0.p fun a4 =>
 xI .u32 (cell h3 (a4.add (x1.toNat * 1))) fun n4 =>
 idx n3 x0.n <|
 nn x0.p fun a5 =>
 xI .u32 (cell h3 (a5.add (n3.toNat * 1))) fun n5 =>
 idx n3 x0.n <|
 nn x0.p fun a6 =>
 st h3 (a6.add (n3.toNat * 1)) (.int .u32 n4) fun h4 =>
 idx x1 x0.n <|
 nn x0.p fun a7 =>
 st h4 (a7.add (x1.toNat * 1)) (.int .u32 n5) fun h5 =>
 K n3 true h5
 else
 idx n3 x0.n <|
 nn x0.p fun a8 =>
 xI .u32 (cell h3 (a8.add (n3.toNat * 1))) fun n6 =>
 idx n2 x0.n <|
 nn x0.p fun a9 =>
 xI .u32 (cell h3 (a9.add (n2.toNat * 1))) fun n7 =>
 idx n2 x0.n <|
 nn x0.p fun a10 =>
 st h3 (a10.add (n2.toNat * 1)) (.int .u32 n6) fun h6 =>
 idx n3 x0.n <|
 nn x0.p fun a11 =>
 st h6 (a11.add (n3.toNat * 1)) (.int .u32 n7) fun h7 =>
 N85_l2 x0 x1 (IntKind.wrap .i64 (n2 + 1)) (IntKind.wrap .i64 (n3 - 1)) h7
 (fun n8 h8 =>
 idx x1 x0.n <|
 nn x0.p fun a12 =>
 xI .u32 (cell h8 (a12.add (x1.toNat * 1))) fun n9 =>
 idx n8 x0.n <|
 nn x0.p fun a13 =>
 xI .u32 (cell h8 (a13.add (n8.toNat * 1))) fun n10 =>
 idx n8 x0.n <|
 nn x0.p fun a14 =>
 st h8 (a14.add (n8.toNat * 1)) (.int .u32 n9) fun h9 =>
 idx x1 x0.n <|
 nn x0.p fun a15 =>
 st h9 (a15.add (x1.toNat * 1)) (.int .u32 n10) fun h10 =>
 K n8 false h10)))
theorem S85 {x0 : Sl} {x1 x2 x3 : Int} {h : Hp} {K : Int → Bool → Hp → Prop} (hn : N85 x0 x1 x2 x3 h K) : C85 x0 x1 x2 x3 h K := by
 refine calls_of_D Try.func85 (c := B85) rfl (by kernel_rfl) ?_
 refine den_sound hE hm _ (.two .leaf (.two (.ord [0, 1, 2, 3, 4, 5, 6, 7, 8, 9, 10, 11, 12, 13, 14, 15]) (.two .leaf (.two (.one (.xf N85_l0_t)) (.two (.one (.xf N85_l1_t)) (.two (.two .leaf (.two (.two (.ord [0, 1, 2, 3, 4, 5, 6, 7, 8, 9, 10, 11, 12, 13, 14, 15]) .leaf) .leaf)) (.two (.ord [0, 1, 2, 3, 4, 5, 6, 7, 8, 9, 10, 11, 12, 13, 14, 15]) (.two .leaf (.two .leaf (.two (.one (.xf N85_l2_t)) (.two (.ord [0, 1, 2, 3, 4, 5, 6, 7, 8, 9, 10, 11, 12, 13, 14, 15]) .leaf))))))))))) _ _ _ (⟨annOk_leaf, ⟨trivial, ⟨annOk_leaf, ⟨N85_l0_ok, ⟨N85_l1_ok, ⟨⟨annOk_leaf, ⟨⟨trivial, annOk_leaf⟩, annOk_leaf⟩⟩, ⟨trivial, ⟨annOk_leaf, ⟨annOk_leaf, ⟨N85_l2_ok, ⟨trivial, annOk_leaf⟩⟩⟩⟩⟩⟩⟩⟩⟩⟩⟩) ?_
 refine cast ?_ hn
 kernel_rfl
end Go.Proofs.Ytkfccpabigikkaa

set_option linter.unusedVariables false
set_option maxRecDepth 100000
namespace Go.Proofs.Ytkfccpabigikkaa
open Go Go.Hw
noncomputable def B84 : Code := match Try.f84.body with | some c => c | none => .skip
def N84_l1_b (x0 : Sl) (x1 x10 : Int) (Φ : Int → Hp → Prop) (x9 : Int) (h : Hp) (K2 : Int → Hp → Prop) : Prop :=
 bif (decide (x9 ≤ x10)) then
 idx x1 x0.n <|
 nn x0.p fun a0 =>
 xI .u32 (cell h (a0.add (x1.toNat * 1))) fun n0 =>
 idx x9 x0.n <|
 nn x0.p fun a1 =>
 xI .u32 (cell h (a1.add (x9.toNat * 1))) fun n1 =>
 C83 n0 n1 h fun b0 h0 =>
 bif (!b0) then
 Φ (IntKind.wrap .i64 (x9 + 1)) h0
 else
 K2 x9 h0
 else
 K2 x9 h
def N84_l1_B (x0 : Sl) (x1 x10 : Int) (K2 : Int → Hp → Prop) (s : Sg.T [(9, .c (.int .i64))]) (h : Hp) (Φ : Sg.T [(9, .c (.int .i64))] → Hp → Prop) : Prop :=
 N84_l1_b x0 x1 x10 (fun x9 h => Φ x9 h) s h K2
def N84_l1 (x0 : Sl) (x1 x10 x9 : Int) (h : Hp) (K2 : Int → Hp → Prop) : Prop :=
 loopP (N84_l1_B x0 x1 x10 K2) x9 h
noncomputable def N84_l1_t : Xf := loopT [(0, .c (.slice)), (1, .c (.int .i64)), (10, .c (.int .i64))] [(9, .c (.int .i64))] (codeAt B84 [1, 1, 1, 0, 0, 0, 0, 0, 0, 0]) fun F Q => N84_l1_B F.1 F.2.1 F.2.2 (fun o0 h' => Q (.exit 2) (Sg.env [(9, .c (.int .i64))] o0) h')
theorem N84_l1_ok : Sound Try.prog Try.f84.ntmps N84_l1_t (codeAt B84 [1, 1, 1, 0, 0, 0, 0, 0, 0]) := by
 refine loop_sound (fun e => match e with | .exit 2 => [9] | _ => []) (by kernel_rfl) ?_
 intro F Q s h Φ hb
 refine den_sound hE hm _ (.two (.two (.ord [0, 1, 2, 3, 4, 5, 6, 7, 8, 9, 10, 11, 12, 13, 14]) .leaf) .leaf) _ _ _ (⟨⟨trivial, annOk_leaf⟩, annOk_leaf⟩) ?_
 refine cast ?_ hb
 kernel_rfl
def N84_l2_b (x0 : Sl) (x1 x9 : Int) (Φ : Int → Hp → Prop) (x10 : Int) (h : Hp) (K4 : Int → Hp → Prop) : Prop :=
 bif (decide (x9 ≤ x10)) then
 idx x1 x0.n <|
 nn x0.p fun a0 =>
 xI .u32 (cell h (a0.add (x1.toNat * 1))) fun n0 =>
 idx x10 x0.n <|
 nn x0.p fun a1 =>
 xI .u32 (cell h (a1.add (x10.toNat * 1))) fun n1 =>
 C83 n0 n1 h fun b0 h0 =>
 bif b0 then
 Φ (IntKind.wrap .i64 (x10 - 1)) h0
 else
 K4 x10 h0
 else
 K4 x10 h
def N84_l2_B (x0 : Sl) (x1 x9 : Int) (K4 : Int → Hp → Prop) (s : Sg.T [(10, .c (.int .i64))]) (h : Hp) (Φ : Sg.T [(10, .c (.int .i64))] → Hp → Prop) : Prop :=
 N84_l2_b x0 x1 x9 (fun x10 h => Φ x10 h) s h K4
def N84_l2 (x0 : Sl) (x1 x9 x10 : Int) (h : Hp) (K4 : Int → Hp → Prop) : Prop :=
 loopP (N84_l2_B x0 x1 x9 K4) x10 h
noncomputable def N84_l2_t : Xf := loopT [(0, .c (.slice)), (1, .c (.int .i64)), (9, .c (.int .i64))] [(10, .c (.int .i64))] (codeAt B84 [1, 1, 1, 0, 0, 0, 0, 1, 0, 0, 0]) fun F Q => N84_l2_B F.1 F.2.1 F.2.2 (fun o0 h' => Q (.exit 4) (Sg.env [(10, .c (.int .i64))] o0) h')
theorem N84_l2_ok : Sound Try.prog Try.f84.ntmps N84_l2_t (codeAt B84 [1, 1, 1, 0, 0, 0, 0, 1, 0, 0]) := by
 refine loop_sound (fun e => match e with | .exit 4 => [10] | _ => []) (by kernel_rfl) ?_
 intro F Q s h Φ hb
 refine den_sound hE hm _ (.two (.two (.ord [0, 1, 2, 3, 4, 5, 6, 7, 8, 9, 10, 11, 12, 13]) .leaf) .leaf) _ _ _ (⟨⟨trivial, annOk_leaf⟩, annOk_leaf⟩) ?_
 refine cast ?_ hb
 kernel_rfl
def N84_l0_b (x0 : Sl) (x1 : Int) (Φ : Int → Int → Hp → Prop) (x9 x10 : Int) (h : Hp) (K0 : Int → Hp → Prop) : Prop :=
 N84_l1 x0 x1 x10 x9 h
 (fun n0 h0 =>
 N84_l2 x0 x1 n0 x10 h0
 (fun n1 h1 =>
 bif (decide (n0 > n1)) then
 K0 n0 h1
 else
 idx n1 x0.n <|
 nn x0.p fun a0 =>
 xI .u32 (cell h1 (a0.add (n1.toNat * 1))) fun n2 =>
 idx n0 x0.n <|
 nn x0.p fun a1 =>
 xI .u32 (cell h1 (a1.add (n0.toNat * 1))) fun n3 =>
 idx n0 x0.n <|
 nn x0.p fun a2 =>
 st h1 (a2.add (n0.toNat * 1)) (.int .u32 n2) fun h2 =>
 idx n1 x0.n <|
 nn x0.p fun a3 =>
 st h2 (a3.add (n1.toNat * 1)) (.int .u32 n3) fun h3 =>
 Φ (IntKind.wrap .i64 (n0 + 1)) (IntKind.wrap .i64 (n1 - 1)) h3))
def N84_l0_B (x0 : Sl) (x1 : Int) (K0 : Int → Hp → Prop) (s : Sg.T [(9, .c (.int .i64)), (10, .c (.int .i64))]) (h : Hp) (Φ : Sg.T [(9, .c (.int .i64)), (10, .c (.int .i64))] → Hp → Prop) : Prop :=
 N84_l0_b x0 x1 (fun x9 x10 h => Φ (x9, x10) h) s.1 s.2 h K0
def N84_l0 (x0 : Sl) (x1 x9 x10 : Int) (h : Hp) (K0 : Int → Hp → Prop) : Prop :=
 loopP (N84_l0_B x0 x1 K0) (x9, x10) h
noncomputable def N84_l0_t : Xf := loopT [(0, .c (.slice)), (1, .c (.int .i64))] [(9, .c (.int .i64)), (10, .c (.int .i64))] (codeAt B84 [1, 1, 1, 0, 0, 0]) fun F Q => N84_l0_B F.1 F.2 (fun o0 h' => Q (.exit 0) (Sg.env [(9, .c (.int .i64))] o0) h')
theorem N84_l0_ok : Sound Try.prog Try.f84.ntmps N84_l0_t (codeAt B84 [1, 1, 1, 0, 0]) := by
 refine loop_sound (fun e => match e with | .exit 0 => [9] | _ => []) (by kernel_rfl) ?_
 intro F Q s h Φ hb
 refine den_sound hE hm _ (.one (.two (.one (.xf N84_l1_t)) (.two (.one (.xf N84_l2_t)) (.two .leaf (.two (.ord [0, 1, 2, 3, 4, 5, 6, 7, 8, 9, 10, 11, 12, 13, 14, 15]) .leaf))))) _ _ _ (⟨N84_l1_ok, ⟨N84_l2_ok, ⟨annOk_leaf, ⟨trivial, annOk_leaf⟩⟩⟩⟩) ?_
 refine cast ?_ hb
 kernel_rfl
def N84 (x0 : Sl) (x1 x2 x3 : Int) (h : Hp) (K : Int → Hp → Prop) : Prop :=
 idx x3 x0.n <|
 nn x0.p fun a0 =>
 xI .u32 (cell h (a0.add (x3.toNat * 1))) fun n0 =>
 idx x1 x0.n <|
 nn x0.p fun a1 =>
 xI .u32 (cell h (a1.add (x1.toNat * 1))) fun n1 =>
 idx x1 x0.n <|
 nn x0.p fun a2 =>
 st h (a2.add (x1.toNat * 1)) (.int .u32 n0) fun h0 =>
 idx x3 x0.n <|
 nn x0.p fun a3 =>
 st h0 (a3.add (x3.toNat * 1)) (.int .u32 n1) fun h1 =>
 N84_l0 x0 x1 (IntKind.wrap .i64 (x1 + 1)) (IntKind.wrap .i64 (x2 - 1)) h1
 (fun n2 h2 =>
 K n2 h2)
theorem S84 {x0 : Sl} {x1 x2 x3 : Int} {h : Hp} {K : Int → Hp → Prop} (hn : N84 x0 x1 x2 x3 h K) : C84 x0 x1 x2 x3 h K := by
 refine calls_of_D Try.func84 (c := B84) rfl (by kernel_rfl) ?_
 refine den_sound hE hm _ (.two .leaf (.two (.ord [0, 1, 2, 3, 4, 5, 6, 7, 8, 9, 10, 11, 12, 13, 14, 15]) (.two .leaf (.two (.one (.xf N84_l0_t)) .leaf)))) _ _ _ (⟨annOk_leaf, ⟨trivial, ⟨annOk_leaf, ⟨N84_l0_ok, annOk_leaf⟩⟩⟩⟩) ?_
 refine cast ?_ hn
 kernel_rfl
end Go.Proofs.Ytkfccpabigikkaa

/-
 The sort of a row of uint32, second part: the heap sort, the reversed range, the scans and the partitions.
-/
set_option linter.unusedSimpArgs false
set_option linter.unusedVariables false
namespace Go.Proofs.Ytkfccpabigikkaa
open Go Go.Hw
theorem siftDown_size : ∀ (n hi first root : Nat) (d : Array Int), hi - root ≤ n → (Sort.siftDown Sort.ltInt hi first root d).size = d.size := by
 intro n
 induction n with
 | zero =>
  intro hi first root d hn
  rw [Sort.siftDown, dif_pos (by omega)]
 | succ n ih =>
  intro hi first root d hn
  rw [Sort.siftDown]
  split
  ·rfl
  ·split
   ·split
    ·rfl
    ·split
     ·rw [ih _ _ _ _ (by omega), swp_size]
     ·rfl
   ·split
    ·rfl
    ·rw [ih _ _ _ _ (by omega), swp_size]
theorem wrn {n : Int} {k : Nat} (h : n = k) (hk : k ≤ 4611686018427387904) : IntKind.wrap .i64 n = (k : Int) := by subst h; exact wi64i (by omega) (by omega)
theorem c_sift {L : List Asn} {s : Sl} {hi first lo : Nat} {d : Array Int} {h : Hp} {K : Hp → Prop} (hs : Sat (L ++ [UA s d]) h) (hf : first + hi ≤ d.size) (hd : d.size ≤ 1099511627776) (hlo : lo ≤ 1099511627776)
  (hK : ∀ h', Sat (L ++ [UA s (Sort.siftDown Sort.ltInt hi first lo d)]) h' → K h') : C88 s (lo : Int) (hi : Int) (first : Int) h K := by
 apply S88; unfold N88 N88_l0
 refine loopP_inv (fun (x : Int) hc => ∃ (r : Nat) (e : Array Int), x = r ∧ r ≤ 1099511627776 ∧ e.size = d.size ∧ Sort.siftDown Sort.ltInt hi first r e = Sort.siftDown Sort.ltInt hi first lo d ∧ Sat (L ++ [UA s e]) hc) (fun x _ => hi - x.toNat) ?_ ⟨lo, d, rfl, hlo, rfl, rfl, hs⟩
 rintro x hc ⟨r, e, rfl, hrb, he, hr, hs⟩
 unfold N88_l0_B N88_l0_b
 dsimp only
 have w1 : IntKind.wrap .i64 (IntKind.wrap .i64 (2 * (r : Int)) + 1) = ((2 * r + 1 : Nat) : Int) := by
  rw [wrn (n := 2 * (r : Int)) (k := 2 * r) (by omega) (by omega), wrn (k := 2 * r + 1) (by omega) (by omega)]
 rw [w1, wrn (n := ((2 * r + 1 : Nat) : Int) + 1) (k := 2 * r + 2) (by omega) (by omega)]
 rw [Sort.siftDown] at hr
 by_cases h1 : 2 * r + 1 ≥ hi
 ·rw [dif_pos h1] at hr
  rw [show decide (((2 * r + 1 : Nat) : Int) ≥ (hi : Int)) = true from decide_eq_true (by omega), cond_true]
  refine hK hc ?_
  rw [← hr]; exact hs
 ·rw [dif_neg h1] at hr
  rw [show decide (((2 * r + 1 : Nat) : Int) ≥ (hi : Int)) = false from decide_eq_false (by omega), cond_false]
  have j2 : ∀ (c : Nat), r < c → c < hi → c ≤ 2 * r + 2 → (if (!Sort.ltInt e[first + r]! e[first + c]!) = true then e else Sort.siftDown Sort.ltInt hi first c (Sort.swp e (first + r) (first + c))) = Sort.siftDown Sort.ltInt hi first lo d →
    N88_j2 s (hi : Int) (first : Int) (r : Int) (c : Int) hc (fun n h2 => (∃ (r : Nat) (e : Array Int), n = r ∧ r ≤ 1099511627776 ∧ e.size = d.size ∧ Sort.siftDown Sort.ltInt hi first r e = Sort.siftDown Sort.ltInt hi first lo d ∧ Sat (L ++ [UA s e]) h2) ∧ hi - n.toNat < hi - ((r : Nat) : Int).toNat) K := by
   intro c hc1 hc2 hc3 hq
   unfold N88_j2
   rw [wrn (n := (first : Int) + (r : Int)) (k := first + r) (by omega) (by omega), wrn (n := (first : Int) + (c : Int)) (k := first + c) (by omega) (by omega)]
   refine rdU hs rfl (by omega) ?_
   refine rdU hs rfl (by omega) ?_
   refine c_less ?_
   cases hl : Sort.ltInt e[first + r]! e[first + c]! with
   | false =>
    rw [hl, Bool.not_false, if_pos rfl] at hq
    simp only [Bool.not_false, cond_true]
    refine hK hc ?_
    rw [← hq]; exact hs
   | true =>
    rw [hl, Bool.not_true, if_neg (by decide)] at hq
    simp only [Bool.not_true, cond_false]
    refine swU hs rfl rfl (by omega) (by omega) fun h3 hs3 => ?_
    exact ⟨⟨c, _, rfl, by omega, by rw [swp_size]; exact he, hq, hs3⟩, by simp only [Int.toNat_natCast]; omega⟩
  by_cases h2 : 2 * r + 2 < hi
  ·rw [show decide (((2 * r + 2 : Nat) : Int) < (hi : Int)) = true from decide_eq_true (by omega), cond_true]
   rw [wrn (n := (first : Int) + ((2 * r + 1 : Nat) : Int)) (k := first + (2 * r + 1)) (by omega) (by omega), wrn (n := ((first + (2 * r + 1) : Nat) : Int) + 1) (k := first + (2 * r + 1) + 1) (by omega) (by omega)]
   refine rdU hs rfl (by omega) ?_
   refine rdU hs rfl (by omega) ?_
   refine c_less ?_
   unfold N88_j1
   cases hl : Sort.ltInt e[first + (2 * r + 1)]! e[first + (2 * r + 1) + 1]! with
   | true =>
    rw [cond_true, wrn (n := ((2 * r + 1 : Nat) : Int) + 1) (k := 2 * r + 2) (by omega) (by omega)]
    rw [if_pos (by simp [hl]; omega), dif_pos h2] at hr
    exact j2 (2 * r + 2) (by omega) h2 (by omega) hr
   | false =>
    rw [cond_false]
    rw [if_neg (by simp [hl])] at hr
    exact j2 (2 * r + 1) (by omega) (by omega) (by omega) hr
  ·rw [show decide (((2 * r + 2 : Nat) : Int) < (hi : Int)) = false from decide_eq_false (by omega), cond_false]
   unfold N88_j1
   rw [cond_false]
   rw [if_neg (by simp; omega)] at hr
   exact j2 (2 * r + 1) (by omega) (by omega) (by omega) hr
theorem c_heap {L : List Asn} {s : Sl} {a b : Nat} {d : Array Int} {h : Hp} {K : Hp → Prop} (hs : Sat (L ++ [UA s d]) h) (hb : b ≤ d.size) (hab : a ≤ b) (hd : d.size ≤ 1099511627776)
  (hK : ∀ h', Sat (L ++ [UA s (Sort.heapSort Sort.ltInt d a b)]) h' → K h') : C78 s (a : Int) (b : Int) h K := by
 apply S78; unfold N78 N78_l0
 have w0 : IntKind.wrap .i64 ((b : Int) - (a : Int)) = ((b - a : Nat) : Int) := wrn (by omega) (by omega)
 have w1 : IntKind.wrap .i64 (((b - a : Nat) : Int) - 1) = ((b - a : Nat) : Int) - 1 := wi64i (by omega) (by omega)
 have w2 : IntKind.wrap .i64 (Int.tdiv (((b - a : Nat) : Int) - 1) 2) = (((b - a - 1) / 2 : Nat) : Int) := by
  have : Int.tdiv (((b - a : Nat) : Int) - 1) 2 = (((b - a - 1) / 2 : Nat) : Int) := by
   rcases Nat.eq_zero_or_pos (b - a) with h0 | h0
   ·rw [h0]; rfl
   ·rw [show ((b - a : Nat) : Int) - 1 = ((b - a - 1 : Nat) : Int) by omega]; rfl
  rw [this]; exact wrn rfl (by omega)
 rw [w0, w1, w2]
 unfold Sort.heapSort at hK
 refine loopP_inv (fun (x : Int) hc => ∃ (k : Nat) (e : Array Int), x = (k : Int) - 1 ∧ k ≤ d.size + 1 ∧ e.size = d.size ∧ Sort.heapBuild Sort.ltInt (b - a) a k e = Sort.heapBuild Sort.ltInt (b - a) a ((b - a - 1) / 2 + 1) d ∧ Sat (L ++ [UA s e]) hc) (fun x _ => (x + 1).toNat) ?_ ⟨(b - a - 1) / 2 + 1, d, by omega, by omega, rfl, rfl, hs⟩
 clear hs
 rintro x hc ⟨k, e, rfl, hk, he, hr, hs⟩
 unfold N78_l0_B N78_l0_b
 dsimp only
 cases k with
 | succ k =>
  rw [show decide (((k + 1 : Nat) : Int) - 1 ≥ 0) = true from decide_eq_true (by omega), cond_true]
  rw [Sort.heapBuild] at hr
  rw [show ((k + 1 : Nat) : Int) - 1 = (k : Int) by omega]
  refine c_sift hs (by omega) (by omega) (by omega) fun h1 hs1 => ?_
  rw [wi64i (x := (k : Int) - 1) (by omega) (by omega)]
  exact ⟨⟨k, _, rfl, by omega, by rw [siftDown_size _ _ _ _ _ (Nat.le_refl _)]; exact he, hr, hs1⟩, by omega⟩
 | zero =>
  rw [show decide (((0 : Nat) : Int) - 1 ≥ 0) = false from decide_eq_false (by omega), cond_false]
  have hr : e = Sort.heapBuild Sort.ltInt (b - a) a ((b - a - 1) / 2 + 1) d := hr
  rw [← hr] at hK
  unfold N78_l1
  refine loopP_inv (fun (x : Int) hc => ∃ (k : Nat) (e' : Array Int), x = (k : Int) - 1 ∧ k ≤ b - a ∧ e'.size = d.size ∧ Sort.heapPop Sort.ltInt a k e' = Sort.heapPop Sort.ltInt a (b - a) e ∧ Sat (L ++ [UA s e']) hc) (fun x _ => (x + 1).toNat) ?_ ⟨b - a, e, rfl, Nat.le_refl _, he, rfl, hs⟩
  clear hs
  rintro x hc ⟨k, e', rfl, hk, he', hr', hs⟩
  unfold N78_l1_B N78_l1_b
  dsimp only
  cases k with
  | succ k =>
   rw [show decide (((k + 1 : Nat) : Int) - 1 ≥ 0) = true from decide_eq_true (by omega), cond_true]
   rw [Sort.heapPop] at hr'
   rw [show ((k + 1 : Nat) : Int) - 1 = (k : Int) by omega, wrn (n := (a : Int) + (k : Int)) (k := a + k) (by omega) (by omega)]
   refine swU hs rfl rfl (by omega) (by omega) fun h1 hs1 => ?_
   refine c_sift (lo := 0) hs1 (by rw [swp_size]; omega) (by rw [swp_size]; omega) (by omega) fun h2 hs2 => ?_
   rw [wi64i (x := (k : Int) - 1) (by omega) (by omega)]
   exact ⟨⟨k, _, rfl, by omega, by rw [siftDown_size _ _ _ _ _ (Nat.le_refl _), swp_size]; exact he', hr', hs2⟩, by omega⟩
  | zero =>
   rw [show decide (((0 : Nat) : Int) - 1 ≥ 0) = false from decide_eq_false (by omega), cond_false]
   refine hK hc ?_
   rw [← hr']; exact hs
theorem c_rev {L : List Asn} {s : Sl} {a b : Nat} {d : Array Int} {h : Hp} {K : Hp → Prop} (hs : Sat (L ++ [UA s d]) h) (hb : b ≤ d.size) (hab : a < b) (hd : d.size ≤ 1099511627776)
  (hK : ∀ h', Sat (L ++ [UA s (Sort.reverseRange d a b)]) h' → K h') : C81 s (a : Int) (b : Int) h K := by
 apply S81; unfold N81 N81_l0
 rw [wrn (n := (b : Int) - 1) (k := b - 1) (by omega) (by omega)]
 unfold Sort.reverseRange at hK
 refine loopP_inv (fun (x : Int × Int) hc => ∃ (i j : Nat) (e : Array Int), x.1 = i ∧ x.2 = j ∧ i ≤ d.size ∧ j < d.size ∧ e.size = d.size ∧ Sort.reverseLoop i j e = Sort.reverseLoop a (b - 1) d ∧ Sat (L ++ [UA s e]) hc) (fun x _ => x.2.toNat - x.1.toNat) ?_ ⟨a, b - 1, d, rfl, rfl, by omega, by omega, rfl, rfl, hs⟩
 clear hs
 rintro ⟨x, y⟩ hc ⟨i, j, e, hx, hy, hi, hj, he, hr, hs⟩
 simp only at hx hy hs
 subst hx hy
 unfold N81_l0_B N81_l0_b
 dsimp only
 rw [Sort.reverseLoop] at hr
 by_cases hij : i < j
 ·rw [if_pos hij] at hr
  rw [show decide ((i : Int) < (j : Int)) = true from decide_eq_true (by omega), cond_true]
  refine swU hs rfl rfl (by omega) (by omega) fun h1 hs1 => ?_
  rw [wrn (n := (i : Int) + 1) (k := i + 1) (by omega) (by omega), wrn (n := (j : Int) - 1) (k := j - 1) (by omega) (by omega)]
  exact ⟨⟨i + 1, j - 1, _, rfl, rfl, by omega, by omega, by rw [swp_size]; exact he, hr, hs1⟩, by simp only [Int.toNat_natCast]; omega⟩
 ·rw [if_neg hij] at hr
  rw [show decide ((i : Int) < (j : Int)) = false from decide_eq_false (by omega), cond_false]
  refine hK hc ?_
  rw [← hr]; exact hs
end Go.Proofs.Ytkfccpabigikkaa

/-
 The sort of a row of uint32, third part: the partitions.
-/
set_option linter.unusedSimpArgs false
set_option linter.unusedVariables false
namespace Go.Proofs.Ytkfccpabigikkaa
open Go Go.Hw
theorem scanUp_ge (p : Int → Bool) (d : Array Int) (j : Nat) : ∀ (n i : Nat), j + 1 - i ≤ n → i ≤ Sort.scanUp p d j i := by
 intro n
 induction n with
 | zero => intro i hn; rw [Sort.scanUp, if_neg (by simp; omega)]; exact Nat.le_refl _
 | succ n ih =>
  intro i hn
  rw [Sort.scanUp]
  split
  ·exact Nat.le_trans (Nat.le_succ _) (ih (i + 1) (by rename_i h; simp at h; omega))
  ·exact Nat.le_refl _
theorem scanUp_le (p : Int → Bool) (d : Array Int) (j : Nat) : ∀ (n i : Nat), j + 1 - i ≤ n → Sort.scanUp p d j i ≤ max i (j + 1) := by
 intro n
 induction n with
 | zero => intro i hn; rw [Sort.scanUp, if_neg (by simp; omega)]; omega
 | succ n ih =>
  intro i hn
  rw [Sort.scanUp]
  split
  ·rename_i h; simp at h; have := ih (i + 1) (by omega); omega
  ·omega
theorem scanDown_le (p : Int → Bool) (d : Array Int) (i : Nat) : ∀ (j : Nat), Sort.scanDown p d i j ≤ j
 | 0 => Nat.le_refl _
 | j + 1 => by
  rw [Sort.scanDown]
  split
  ·exact Nat.le_trans (scanDown_le p d i j) (Nat.le_succ _)
  ·exact Nat.le_refl _
section
variable {L : List Asn} {s : Sl} {a i j : Nat} {d : Array Int} {h : Hp} {K : Int → Hp → Prop}
theorem part_up0 (hs : Sat (L ++ [UA s d]) h) (ha : a < d.size) (hj : j < d.size) (hi : i ≤ 2199023255552) (hd : d.size ≤ 1099511627776) (hK : K ((Sort.scanUp (fun x => Sort.ltInt x d[a]!) d j i : Nat) : Int) h) : N85_l0 s (a : Int) (j : Int) (i : Int) h K := by
 unfold N85_l0
 refine loopP_inv (fun (x : Int) hc => hc = h ∧ ∃ k : Nat, x = k ∧ k ≤ 2199023255552 ∧ Sort.scanUp (fun x => Sort.ltInt x d[a]!) d j k = Sort.scanUp (fun x => Sort.ltInt x d[a]!) d j i) (fun x _ => j + 1 - x.toNat) ?_ ⟨rfl, i, rfl, hi, rfl⟩
 rintro x hc ⟨rfl, k, rfl, hk, hr⟩
 unfold N85_l0_B N85_l0_b
 dsimp only
 rw [Sort.scanUp] at hr
 by_cases hkj : k ≤ j
 ·rw [show decide ((k : Int) ≤ (j : Int)) = true from decide_eq_true (by omega), cond_true]
  refine rdU hs rfl (by omega) ?_
  refine rdU hs rfl ha ?_
  refine c_less ?_
  cases hl : Sort.ltInt d[k]! d[a]! with
  | true =>
   rw [if_pos (by simp [hl, hkj])] at hr
   rw [cond_true, wrn (n := (k : Int) + 1) (k := k + 1) (by omega) (by omega)]
   exact ⟨⟨rfl, k + 1, rfl, by omega, hr⟩, by simp only [Int.toNat_natCast]; omega⟩
  | false =>
   rw [if_neg (by simp [hl])] at hr
   rw [cond_false, hr]; exact hK
 ·rw [show decide ((k : Int) ≤ (j : Int)) = false from decide_eq_false (by omega), cond_false]
  rw [if_neg (by simp [hkj])] at hr
  rw [hr]; exact hK
theorem part_up3 (hs : Sat (L ++ [UA s d]) h) (ha : a < d.size) (hj : j < d.size) (hi : i ≤ 2199023255552) (hd : d.size ≤ 1099511627776) (hK : K ((Sort.scanUp (fun x => Sort.ltInt x d[a]!) d j i : Nat) : Int) h) : N85_l3 s (a : Int) (j : Int) (i : Int) h K := by
 unfold N85_l3
 refine loopP_inv (fun (x : Int) hc => hc = h ∧ ∃ k : Nat, x = k ∧ k ≤ 2199023255552 ∧ Sort.scanUp (fun x => Sort.ltInt x d[a]!) d j k = Sort.scanUp (fun x => Sort.ltInt x d[a]!) d j i) (fun x _ => j + 1 - x.toNat) ?_ ⟨rfl, i, rfl, hi, rfl⟩
 rintro x hc ⟨rfl, k, rfl, hk, hr⟩
 unfold N85_l3_B N85_l3_b
 dsimp only
 rw [Sort.scanUp] at hr
 by_cases hkj : k ≤ j
 ·rw [show decide ((k : Int) ≤ (j : Int)) = true from decide_eq_true (by omega), cond_true]
  refine rdU hs rfl (by omega) ?_
  refine rdU hs rfl ha ?_
  refine c_less ?_
  cases hl : Sort.ltInt d[k]! d[a]! with
  | true =>
   rw [if_pos (by simp [hl, hkj])] at hr
   rw [cond_true, wrn (n := (k : Int) + 1) (k := k + 1) (by omega) (by omega)]
   exact ⟨⟨rfl, k + 1, rfl, by omega, hr⟩, by simp only [Int.toNat_natCast]; omega⟩
  | false =>
   rw [if_neg (by simp [hl])] at hr
   rw [cond_false, hr]; exact hK
 ·rw [show decide ((k : Int) ≤ (j : Int)) = false from decide_eq_false (by omega), cond_false]
  rw [if_neg (by simp [hkj])] at hr
  rw [hr]; exact hK
theorem part_dn1 (hs : Sat (L ++ [UA s d]) h) (ha : a < d.size) (hj : j < d.size) (hi : 1 ≤ i) (hd : d.size ≤ 1099511627776) (hK : K ((Sort.scanDown (fun x => !Sort.ltInt x d[a]!) d i j : Nat) : Int) h) : N85_l1 s (a : Int) (i : Int) (j : Int) h K := by
 unfold N85_l1
 refine loopP_inv (fun (x : Int) hc => hc = h ∧ ∃ k : Nat, x = k ∧ k ≤ j ∧ Sort.scanDown (fun x => !Sort.ltInt x d[a]!) d i k = Sort.scanDown (fun x => !Sort.ltInt x d[a]!) d i j) (fun x _ => x.toNat) ?_ ⟨rfl, j, rfl, Nat.le_refl _, rfl⟩
 rintro x hc ⟨rfl, k, rfl, hk, hr⟩
 unfold N85_l1_B N85_l1_b
 dsimp only
 by_cases hkj : i ≤ k
 ·obtain ⟨q, rfl⟩ : ∃ q, k = q + 1 := ⟨k - 1, by omega⟩
  rw [Sort.scanDown] at hr
  rw [show decide ((i : Int) ≤ ((q + 1 : Nat) : Int)) = true from decide_eq_true (by omega), cond_true]
  refine rdU hs rfl (by omega) ?_
  refine rdU hs rfl ha ?_
  refine c_less ?_
  cases hl : Sort.ltInt d[q + 1]! d[a]! with
  | false =>
   rw [if_pos (by simp [hl, hkj])] at hr
   rw [Bool.not_false, cond_true, wrn (n := ((q + 1 : Nat) : Int) - 1) (k := q) (by omega) (by omega)]
   exact ⟨⟨rfl, q, rfl, by omega, hr⟩, by simp only [Int.toNat_natCast]; omega⟩
  | true =>
   rw [if_neg (by simp [hl])] at hr
   rw [Bool.not_true, cond_false, hr]; exact hK
 ·rw [show decide ((i : Int) ≤ (k : Int)) = false from decide_eq_false (by omega), cond_false]
  cases k with
  | zero => rw [Sort.scanDown] at hr; rw [hr]; exact hK
  | succ q => rw [Sort.scanDown, if_neg (by simp; omega)] at hr; rw [hr]; exact hK
theorem part_dn4 (hs : Sat (L ++ [UA s d]) h) (ha : a < d.size) (hj : j < d.size) (hi : 1 ≤ i) (hd : d.size ≤ 1099511627776) (hK : K ((Sort.scanDown (fun x => !Sort.ltInt x d[a]!) d i j : Nat) : Int) h) : N85_l4 s (a : Int) (i : Int) (j : Int) h K := by
 unfold N85_l4
 refine loopP_inv (fun (x : Int) hc => hc = h ∧ ∃ k : Nat, x = k ∧ k ≤ j ∧ Sort.scanDown (fun x => !Sort.ltInt x d[a]!) d i k = Sort.scanDown (fun x => !Sort.ltInt x d[a]!) d i j) (fun x _ => x.toNat) ?_ ⟨rfl, j, rfl, Nat.le_refl _, rfl⟩
 rintro x hc ⟨rfl, k, rfl, hk, hr⟩
 unfold N85_l4_B N85_l4_b
 dsimp only
 by_cases hkj : i ≤ k
 ·obtain ⟨q, rfl⟩ : ∃ q, k = q + 1 := ⟨k - 1, by omega⟩
  rw [Sort.scanDown] at hr
  rw [show decide ((i : Int) ≤ ((q + 1 : Nat) : Int)) = true from decide_eq_true (by omega), cond_true]
  refine rdU hs rfl (by omega) ?_
  refine rdU hs rfl ha ?_
  refine c_less ?_
  cases hl : Sort.ltInt d[q + 1]! d[a]! with
  | false =>
   rw [if_pos (by simp [hl, hkj])] at hr
   rw [Bool.not_false, cond_true, wrn (n := ((q + 1 : Nat) : Int) - 1) (k := q) (by omega) (by omega)]
   exact ⟨⟨rfl, q, rfl, by omega, hr⟩, by simp only [Int.toNat_natCast]; omega⟩
  | true =>
   rw [if_neg (by simp [hl])] at hr
   rw [Bool.not_true, cond_false, hr]; exact hK
 ·rw [show decide ((i : Int) ≤ (k : Int)) = false from decide_eq_false (by omega), cond_false]
  cases k with
  | zero => rw [Sort.scanDown] at hr; rw [hr]; exact hK
  | succ q => rw [Sort.scanDown, if_neg (by simp; omega)] at hr; rw [hr]; exact hK
theorem pareq_up (hs : Sat (L ++ [UA s d]) h) (ha : a < d.size) (hj : j < d.size) (hi : i ≤ 2199023255552) (hd : d.size ≤ 1099511627776) (hK : K ((Sort.scanUp (fun x => !Sort.ltInt d[a]! x) d j i : Nat) : Int) h) : N84_l1 s (a : Int) (j : Int) (i : Int) h K := by
 unfold N84_l1
 refine loopP_inv (fun (x : Int) hc => hc = h ∧ ∃ k : Nat, x = k ∧ k ≤ 2199023255552 ∧ Sort.scanUp (fun x => !Sort.ltInt d[a]! x) d j k = Sort.scanUp (fun x => !Sort.ltInt d[a]! x) d j i) (fun x _ => j + 1 - x.toNat) ?_ ⟨rfl, i, rfl, hi, rfl⟩
 rintro x hc ⟨rfl, k, rfl, hk, hr⟩
 unfold N84_l1_B N84_l1_b
 dsimp only
 rw [Sort.scanUp] at hr
 by_cases hkj : k ≤ j
 ·rw [show decide ((k : Int) ≤ (j : Int)) = true from decide_eq_true (by omega), cond_true]
  refine rdU hs rfl ha ?_
  refine rdU hs rfl (by omega) ?_
  refine c_less ?_
  cases hl : Sort.ltInt d[a]! d[k]! with
  | false =>
   rw [if_pos (by simp [hl, hkj])] at hr
   rw [Bool.not_false, cond_true, wrn (n := (k : Int) + 1) (k := k + 1) (by omega) (by omega)]
   exact ⟨⟨rfl, k + 1, rfl, by omega, hr⟩, by simp only [Int.toNat_natCast]; omega⟩
  | true =>
   rw [if_neg (by simp [hl])] at hr
   rw [Bool.not_true, cond_false, hr]; exact hK
 ·rw [show decide ((k : Int) ≤ (j : Int)) = false from decide_eq_false (by omega), cond_false]
  rw [if_neg (by simp [hkj])] at hr
  rw [hr]; exact hK
theorem pareq_dn (hs : Sat (L ++ [UA s d]) h) (ha : a < d.size) (hj : j < d.size) (hi : 1 ≤ i) (hd : d.size ≤ 1099511627776) (hK : K ((Sort.scanDown (fun x => Sort.ltInt d[a]! x) d i j : Nat) : Int) h) : N84_l2 s (a : Int) (i : Int) (j : Int) h K := by
 unfold N84_l2
 refine loopP_inv (fun (x : Int) hc => hc = h ∧ ∃ k : Nat, x = k ∧ k ≤ j ∧ Sort.scanDown (fun x => Sort.ltInt d[a]! x) d i k = Sort.scanDown (fun x => Sort.ltInt d[a]! x) d i j) (fun x _ => x.toNat) ?_ ⟨rfl, j, rfl, Nat.le_refl _, rfl⟩
 rintro x hc ⟨rfl, k, rfl, hk, hr⟩
 unfold N84_l2_B N84_l2_b
 dsimp only
 by_cases hkj : i ≤ k
 ·obtain ⟨q, rfl⟩ : ∃ q, k = q + 1 := ⟨k - 1, by omega⟩
  rw [Sort.scanDown] at hr
  rw [show decide ((i : Int) ≤ ((q + 1 : Nat) : Int)) = true from decide_eq_true (by omega), cond_true]
  refine rdU hs rfl ha ?_
  refine rdU hs rfl (by omega) ?_
  refine c_less ?_
  cases hl : Sort.ltInt d[a]! d[q + 1]! with
  | true =>
   rw [if_pos (by simp [hl, hkj])] at hr
   rw [cond_true, wrn (n := ((q + 1 : Nat) : Int) - 1) (k := q) (by omega) (by omega)]
   exact ⟨⟨rfl, q, rfl, by omega, hr⟩, by simp only [Int.toNat_natCast]; omega⟩
  | false =>
   rw [if_neg (by simp [hl])] at hr
   rw [cond_false, hr]; exact hK
 ·rw [show decide ((i : Int) ≤ (k : Int)) = false from decide_eq_false (by omega), cond_false]
  cases k with
  | zero => rw [Sort.scanDown] at hr; rw [hr]; exact hK
  | succ q => rw [Sort.scanDown, if_neg (by simp; omega)] at hr; rw [hr]; exact hK
end
theorem c_part {L : List Asn} {s : Sl} {a b pv : Nat} {d : Array Int} {h : Hp} {K : Int → Bool → Hp → Prop} (hs : Sat (L ++ [UA s d]) h) (hb : b ≤ d.size) (ha : a ≤ pv) (hpv : pv < b) (hd : d.size ≤ 1099511627776)
  (hK : ∀ h', Sat (L ++ [UA s (Sort.partition Sort.ltInt d a b pv).2.2]) h' → K ((Sort.partition Sort.ltInt d a b pv).1 : Nat) (Sort.partition Sort.ltInt d a b pv).2.1 h') : C85 s (a : Int) (b : Int) (pv : Int) h K := by
 apply S85; unfold N85
 refine swU hs rfl rfl (by omega) (by omega) fun h1 hs1 => ?_
 unfold Sort.partition at hK
 have z1 := swp_size d a pv
 generalize Sort.swp d a pv = d1 at hs1 hK z1
 simp only at hK
 rw [wrn (n := (b : Int) - 1) (k := b - 1) (by omega) (by omega), wrn (n := (a : Int) + 1) (k := a + 1) (by omega) (by omega)]
 refine part_up0 hs1 (by omega) (by omega) (by omega) (by omega) ?_
 have u1 := scanUp_ge (fun x => Sort.ltInt x d1[a]!) d1 (b - 1) _ (a + 1) (Nat.le_refl _)
 have u2 := scanUp_le (fun x => Sort.ltInt x d1[a]!) d1 (b - 1) _ (a + 1) (Nat.le_refl _)
 generalize Sort.scanUp (fun x => Sort.ltInt x d1[a]!) d1 (b - 1) (a + 1) = i at hK u1 u2 ⊢
 refine part_dn1 hs1 (by omega) (by omega) (by omega) (by omega) ?_
 have v1 := scanDown_le (fun x => !Sort.ltInt x d1[a]!) d1 i (b - 1)
 generalize Sort.scanDown (fun x => !Sort.ltInt x d1[a]!) d1 i (b - 1) = j at hK v1 ⊢
 by_cases hij : i > j
 ·rw [if_pos hij] at hK
  rw [show decide ((i : Int) > (j : Int)) = true from decide_eq_true (by omega), cond_true]
  exact swU hs1 rfl rfl (by omega) (by omega) fun h2 hs2 => hK h2 hs2
 ·rw [if_neg hij] at hK
  rw [show decide ((i : Int) > (j : Int)) = false from decide_eq_false (by omega), cond_false]
  refine swU hs1 rfl rfl (by omega) (by omega) fun h2 hs2 => ?_
  have z2 := swp_size d1 i j
  generalize Sort.swp d1 i j = d2 at hs2 hK z2
  rw [wrn (n := (i : Int) + 1) (k := i + 1) (by omega) (by omega), wrn (n := (j : Int) - 1) (k := j - 1) (by omega) (by omega)]
  unfold N85_l2
  refine loopP_inv (fun (x : Int × Int) hc => ∃ (i' j' : Nat) (e : Array Int), x.1 = i' ∧ x.2 = j' ∧ 1 ≤ i' ∧ i' ≤ 1099511627777 ∧ j' < b ∧ e.size = d.size ∧ Sort.partLoop Sort.ltInt a i' j' e = Sort.partLoop Sort.ltInt a (i + 1) (j - 1) d2 ∧ Sat (L ++ [UA s e]) hc) (fun x _ => x.2.toNat + 1 - x.1.toNat) ?_
   ⟨i + 1, j - 1, d2, rfl, rfl, by omega, by omega, by omega, by omega, rfl, hs2⟩
  rintro ⟨x, y⟩ hc ⟨i', j', e, hx, hy, hi1, hi2, hj1, he, hr, hs3⟩
  simp only at hx hy hs3
  subst hx hy
  unfold N85_l2_B N85_l2_b
  dsimp only
  rw [Sort.partLoop] at hr
  refine part_up3 hs3 (by omega) (by omega) (by omega) (by omega) ?_
  have u1 := scanUp_ge (fun x => Sort.ltInt x e[a]!) e j' _ i' (Nat.le_refl _)
  have u2 := scanUp_le (fun x => Sort.ltInt x e[a]!) e j' _ i' (Nat.le_refl _)
  generalize Sort.scanUp (fun x => Sort.ltInt x e[a]!) e j' i' = i2 at hr u1 u2 ⊢
  refine part_dn4 hs3 (by omega) (by omega) (by omega) (by omega) ?_
  have v1 := scanDown_le (fun x => !Sort.ltInt x e[a]!) e i2 j'
  generalize Sort.scanDown (fun x => !Sort.ltInt x e[a]!) e i2 j' = j2 at hr v1 ⊢
  by_cases hij2 : i2 > j2
  ·rw [if_pos hij2] at hr
   rw [show decide ((i2 : Int) > (j2 : Int)) = true from decide_eq_true (by omega), cond_true]
   rw [← hr] at hK
   exact swU hs3 rfl rfl (by omega) (by omega) fun h4 hs4 => hK h4 hs4
  ·rw [if_neg hij2, dif_pos (by omega)] at hr
   rw [show decide ((i2 : Int) > (j2 : Int)) = false from decide_eq_false (by omega), cond_false]
   refine swU hs3 rfl rfl (by omega) (by omega) fun h4 hs4 => ?_
   rw [wrn (n := (i2 : Int) + 1) (k := i2 + 1) (by omega) (by omega), wrn (n := (j2 : Int) - 1) (k := j2 - 1) (by omega) (by omega)]
   exact ⟨⟨i2 + 1, j2 - 1, _, rfl, rfl, by omega, by omega, by omega, by rw [swp_size]; exact he, hr, hs4⟩, by simp only [Int.toNat_natCast]; omega⟩
theorem c_pareq {L : List Asn} {s : Sl} {a b pv : Nat} {d : Array Int} {h : Hp} {K : Int → Hp → Prop} (hs : Sat (L ++ [UA s d]) h) (hb : b ≤ d.size) (ha : a ≤ pv) (hpv : pv < b) (hd : d.size ≤ 1099511627776)
  (hK : ∀ h', Sat (L ++ [UA s (Sort.partitionEqual Sort.ltInt d a b pv).2]) h' → K ((Sort.partitionEqual Sort.ltInt d a b pv).1 : Nat) h') : C84 s (a : Int) (b : Int) (pv : Int) h K := by
 apply S84; unfold N84
 refine swU hs rfl rfl (by omega) (by omega) fun h1 hs1 => ?_
 unfold Sort.partitionEqual at hK
 have z1 := swp_size d a pv
 generalize Sort.swp d a pv = d1 at hs1 hK z1
 rw [wrn (n := (b : Int) - 1) (k := b - 1) (by omega) (by omega), wrn (n := (a : Int) + 1) (k := a + 1) (by omega) (by omega)]
 unfold N84_l0
 refine loopP_inv (fun (x : Int × Int) hc => ∃ (i' j' : Nat) (e : Array Int), x.1 = i' ∧ x.2 = j' ∧ 1 ≤ i' ∧ i' ≤ 1099511627777 ∧ j' < b ∧ e.size = d.size ∧ Sort.partEqLoop Sort.ltInt a i' j' e = Sort.partEqLoop Sort.ltInt a (a + 1) (b - 1) d1 ∧ Sat (L ++ [UA s e]) hc) (fun x _ => x.2.toNat + 1 - x.1.toNat) ?_
  ⟨a + 1, b - 1, d1, rfl, rfl, by omega, by omega, by omega, by omega, rfl, hs1⟩
 rintro ⟨x, y⟩ hc ⟨i', j', e, hx, hy, hi1, hi2, hj1, he, hr, hs3⟩
 simp only at hx hy hs3
 subst hx hy
 unfold N84_l0_B N84_l0_b
 dsimp only
 rw [Sort.partEqLoop] at hr
 refine pareq_up hs3 (by omega) (by omega) (by omega) (by omega) ?_
 have u1 := scanUp_ge (fun x => !Sort.ltInt e[a]! x) e j' _ i' (Nat.le_refl _)
 have u2 := scanUp_le (fun x => !Sort.ltInt e[a]! x) e j' _ i' (Nat.le_refl _)
 generalize Sort.scanUp (fun x => !Sort.ltInt e[a]! x) e j' i' = i2 at hr u1 u2 ⊢
 refine pareq_dn hs3 (by omega) (by omega) (by omega) (by omega) ?_
 have v1 := scanDown_le (fun x => Sort.ltInt e[a]! x) e i2 j'
 generalize Sort.scanDown (fun x => Sort.ltInt e[a]! x) e i2 j' = j2 at hr v1 ⊢
 by_cases hij2 : i2 > j2
 ·rw [if_pos hij2] at hr
  rw [show decide ((i2 : Int) > (j2 : Int)) = true from decide_eq_true (by omega), cond_true]
  rw [← hr] at hK
  exact hK hc hs3
 ·rw [if_neg hij2, dif_pos (by omega)] at hr
  rw [show decide ((i2 : Int) > (j2 : Int)) = false from decide_eq_false (by omega), cond_false]
  refine swU hs3 rfl rfl (by omega) (by omega) fun h4 hs4 => ?_
  rw [wrn (n := (i2 : Int) + 1) (k := i2 + 1) (by omega) (by omega), wrn (n := (j2 : Int) - 1) (k := j2 - 1) (by omega) (by omega)]
  exact ⟨⟨i2 + 1, j2 - 1, _, rfl, rfl, by omega, by omega, by omega, by rw [swp_size]; exact he, hr, hs4⟩, by simp only [Int.toNat_natCast]; omega⟩
end Go.Proofs.Ytkfccpabigikkaa

set_option linter.unusedVariables false
set_option maxRecDepth 100000
namespace Go.Proofs.Ytkfccpabigikkaa
open Go Go.Hw
noncomputable def B94 : Code := match Try.f94.body with | some c => c | none => .skip
def N94 (x0 : Sl) (x1 x2 : Int) (x3 : Option Addr) (h : Hp) (K : Int → Int → Hp → Prop) : Prop :=
 idx x2 x0.n <|
 nn x0.p fun a0 =>
 xI .u32 (cell h (a0.add (x2.toNat * 1))) fun n0 =>
 idx x1 x0.n <|
 nn x0.p fun a1 =>
 xI .u32 (cell h (a1.add (x1.toNat * 1))) fun n1 =>
 C83 n0 n1 h fun b0 h0 =>
 bif b0 then
 nn x3 fun a2 =>
 xI .i64 (cell h0 a2) fun n2 =>
 nn x3 fun a3 =>
 st h0 a3 (.int .i64 (IntKind.wrap .i64 (n2 + 1))) fun h1 =>
 K x2 x1 h1
 else
 K x1 x2 h0
theorem S94 {x0 : Sl} {x1 x2 : Int} {x3 : Option Addr} {h : Hp} {K : Int → Int → Hp → Prop} (hn : N94 x0 x1 x2 x3 h K) : C94 x0 x1 x2 x3 h K := by
 refine calls_of_D Try.func94 (c := B94) rfl (by kernel_rfl) ?_
 refine den_sound hE hm _ (.two .leaf (.two (.two (.ord [0, 1, 2, 3, 4, 5, 6, 7, 8]) .leaf) .leaf)) _ _ _ (⟨annOk_leaf, ⟨⟨trivial, annOk_leaf⟩, annOk_leaf⟩⟩) ?_
 refine cast ?_ hn
 kernel_rfl
end Go.Proofs.Ytkfccpabigikkaa

set_option linter.unusedVariables false
set_option maxRecDepth 100000
namespace Go.Proofs.Ytkfccpabigikkaa
open Go Go.Hw
noncomputable def B92 : Code := match Try.f92.body with | some c => c | none => .skip
def N92 (x0 : Sl) (x1 x2 x3 : Int) (x4 : Option Addr) (h : Hp) (K : Int → Hp → Prop) : Prop :=
 C94 x0 x1 x2 x4 h fun n0 n1 h0 =>
 C94 x0 n1 x3 x4 h0 fun n2 n3 h1 =>
 C94 x0 n0 n2 x4 h1 fun n4 n5 h2 =>
 K n5 h2
theorem S92 {x0 : Sl} {x1 x2 x3 : Int} {x4 : Option Addr} {h : Hp} {K : Int → Hp → Prop} (hn : N92 x0 x1 x2 x3 x4 h K) : C92 x0 x1 x2 x3 x4 h K := by
 refine calls_of_D Try.func92 (c := B92) rfl (by kernel_rfl) ?_
 refine den_sound hE hm _ .leaf _ _ _ (annOk_leaf) ?_
 refine cast ?_ hn
 kernel_rfl
end Go.Proofs.Ytkfccpabigikkaa

set_option linter.unusedVariables false
set_option maxRecDepth 100000
namespace Go.Proofs.Ytkfccpabigikkaa
open Go Go.Hw
noncomputable def B91 : Code := match Try.f91.body with | some c => c | none => .skip
def N91 (x0 : Sl) (x1 : Int) (x2 : Option Addr) (h : Hp) (K : Int → Hp → Prop) : Prop :=
 C92 x0 (IntKind.wrap .i64 (x1 - 1)) x1 (IntKind.wrap .i64 (x1 + 1)) x2 h fun n0 h0 =>
 K n0 h0
theorem S91 {x0 : Sl} {x1 : Int} {x2 : Option Addr} {h : Hp} {K : Int → Hp → Prop} (hn : N91 x0 x1 x2 h K) : C91 x0 x1 x2 h K := by
 refine calls_of_D Try.func91 (c := B91) rfl (by kernel_rfl) ?_
 refine den_sound hE hm _ .leaf _ _ _ (annOk_leaf) ?_
 refine cast ?_ hn
 kernel_rfl
end Go.Proofs.Ytkfccpabigikkaa

set_option linter.unusedVariables false
set_option maxRecDepth 100000
namespace Go.Proofs.Ytkfccpabigikkaa
open Go Go.Hw
noncomputable def B80 : Code := match Try.f80.body with | some c => c | none => .skip
def N80_j0 (x0 : Sl) (x9 : Option Addr) (x10 x11 x12 : Int) (h : Hp) (Kn : Int → Hp → Prop) : Prop :=
 C92 x0 x10 x11 x12 x9 h fun n0 h0 =>
 Kn n0 h0
noncomputable def N80_j0_t : Xf := pieceT [(0, .c (.slice)), (9, .c (.ptr)), (10, .c (.int .i64)), (11, .c (.int .i64)), (12, .c (.int .i64))] (codeAt B80 [1, 1, 1, 1, 1, 1, 0, 1, 0, 1]) fun x h Q => N80_j0 x.1 x.2.1 x.2.2.1 x.2.2.2.1 x.2.2.2.2 h (fun o0 h' => Q .normal (Sg.env [(11, .c (.int .i64))] o0) h')
theorem N80_j0_ok : Sound Try.prog Try.f80.ntmps N80_j0_t (codeAt B80 [1, 1, 1, 1, 1, 1, 0, 1, 0, 1]) := by
 refine piece_sound (fun e => match e with | .normal => [11] | _ => []) ?_
 intro x h Q hb
 refine den_sound hE hm _ .leaf _ _ _ (annOk_leaf) ?_
 refine cast ?_ hb
 kernel_rfl
def N80_j1 (x9 : Option Addr) (x11 : Int) (h : Hp) (Kr : Int → Int → Hp → Prop) : Prop :=
 nn x9 fun a0 =>
 xI .i64 (cell h a0) fun n0 =>
 bif (n0 == 0) then
 Kr x11 1 h
 else
 bif (n0 == 12) then
 Kr x11 2 h
 else
 Kr x11 0 h
noncomputable def N80_j1_t : Xf := pieceT [(9, .c (.ptr)), (11, .c (.int .i64))] (codeAt B80 [1, 1, 1, 1, 1, 1, 1]) fun x h Q => N80_j1 x.1 x.2 h (fun o0 o1 h' => Q .ret (Sg.env [(6, .c (.int .i64)), (7, .c (.int .i64))] (o0, o1)) h')
theorem N80_j1_ok : Sound Try.prog Try.f80.ntmps N80_j1_t (codeAt B80 [1, 1, 1, 1, 1, 1, 1]) := by
 refine piece_sound (fun e => match e with | .ret => [6, 7] | _ => []) ?_
 intro x h Q hb
 refine den_sound hE hm _ .leaf _ _ _ (annOk_leaf) ?_
 refine cast ?_ hb
 kernel_rfl
def N80 (x0 : Sl) (x1 x2 : Int) (h : Hp) (K : Int → Int → Hp → Prop) : Prop :=
 nw h (.cells ⟨[.int .i64 0]⟩ 3) fun b0 h0 =>
 bif (decide ((IntKind.wrap .i64 (x2 - x1)) ≥ 8)) then
 bif (decide ((IntKind.wrap .i64 (x2 - x1)) ≥ 50)) then
 C91 x0 (IntKind.wrap .i64 (x1 + (IntKind.wrap .i64 ((IntKind.wrap .i64 (Int.tdiv (IntKind.wrap .i64 (x2 - x1)) 4)) * 1)))) (some (bk b0)) h0 fun n0 h1 =>
 C91 x0 (IntKind.wrap .i64 (x1 + (IntKind.wrap .i64 ((IntKind.wrap .i64 (Int.tdiv (IntKind.wrap .i64 (x2 - x1)) 4)) * 2)))) (some (bk b0)) h1 fun n1 h2 =>
 C91 x0 (IntKind.wrap .i64 (x1 + (IntKind.wrap .i64 ((IntKind.wrap .i64 (Int.tdiv (IntKind.wrap .i64 (x2 - x1)) 4)) * 3)))) (some (bk b0)) h2 fun n2 h3 =>
 N80_j0 x0 (some (bk b0)) n0 n1 n2 h3
 (fun n3 h4 =>
 N80_j1 (some (bk b0)) n3 h4
 (fun n4 n5 h5 =>
 K n4 n5 h5))
 else
 N80_j0 x0 (some (bk b0)) (IntKind.wrap .i64 (x1 + (IntKind.wrap .i64 ((IntKind.wrap .i64 (Int.tdiv (IntKind.wrap .i64 (x2 - x1)) 4)) * 1)))) (IntKind.wrap .i64 (x1 + (IntKind.wrap .i64 ((IntKind.wrap .i64 (Int.tdiv (IntKind.wrap .i64 (x2 - x1)) 4)) * 2)))) (IntKind.wrap .i64 (x1 + (IntKind.wrap .i64 ((IntKind.wrap .i64 (Int.tdiv (IntKind.wrap .i64 (x2 - x1)) 4)) * 3)))) h0
 (fun n6 h6 =>
 N80_j1 (some (bk b0)) n6 h6
 (fun n7 n8 h7 =>
 K n7 n8 h7))
 else
 N80_j1 (some (bk b0)) (IntKind.wrap .i64 (x1 + (IntKind.wrap .i64 ((IntKind.wrap .i64 (Int.tdiv (IntKind.wrap .i64 (x2 - x1)) 4)) * 2)))) h0
 (fun n9 n10 h8 =>
 K n9 n10 h8)
theorem S80 {x0 : Sl} {x1 x2 : Int} {h : Hp} {K : Int → Int → Hp → Prop} (hn : N80 x0 x1 x2 h K) : C80 x0 x1 x2 h K := by
 refine calls_of_D Try.func80 (c := B80) rfl (by kernel_rfl) ?_
 refine den_sound hE hm _ (.two .leaf (.two .leaf (.two .leaf (.two .leaf (.two .leaf (.two .leaf (.two (.two .leaf (.two (.two .leaf (.xf N80_j0_t)) .leaf)) (.xf N80_j1_t)))))))) _ _ _ (⟨annOk_leaf, ⟨annOk_leaf, ⟨annOk_leaf, ⟨annOk_leaf, ⟨annOk_leaf, ⟨annOk_leaf, ⟨⟨annOk_leaf, ⟨⟨annOk_leaf, N80_j0_ok⟩, annOk_leaf⟩⟩, N80_j1_ok⟩⟩⟩⟩⟩⟩⟩) ?_
 refine cast ?_ hn
 kernel_rfl
end Go.Proofs.Ytkfccpabigikkaa

set_option linter.unusedVariables false
set_option maxRecDepth 100000
namespace Go.Proofs.Ytkfccpabigikkaa
open Go Go.Hw
noncomputable def B82 : Code := match Try.f82.body with | some c => c | none => .skip
def N82_l1_b (x0 : Sl) (x1 x2 x8 : Int) (Φ : Int → Hp → Prop) (x7 : Int) (h : Hp) (K2 : Int → Hp → Prop) : Prop :=
 bif (decide (x7 < x2)) then
 idx x7 x0.n <|
 nn x0.p fun a0 =>
 xI .u32 (cell h (a0.add (x7.toNat * 1))) fun n0 =>
 idx (IntKind.wrap .i64 (x7 - 1)) x0.n <|
 nn x0.p fun a1 =>
 xI .u32 (cell h (a1.add ((IntKind.wrap .i64 (x7 - 1)).toNat * 1))) fun n1 =>
 C83 n0 n1 h fun b0 h0 =>
 bif (!b0) then
 Φ (IntKind.wrap .i64 (x7 + 1)) h0
 else
 K2 x7 h0
 else
 K2 x7 h
def N82_l1_B (x0 : Sl) (x1 x2 x8 : Int) (K2 : Int → Hp → Prop) (s : Sg.T [(7, .c (.int .i64))]) (h : Hp) (Φ : Sg.T [(7, .c (.int .i64))] → Hp → Prop) : Prop :=
 N82_l1_b x0 x1 x2 x8 (fun x7 h => Φ x7 h) s h K2
def N82_l1 (x0 : Sl) (x1 x2 x8 x7 : Int) (h : Hp) (K2 : Int → Hp → Prop) : Prop :=
 loopP (N82_l1_B x0 x1 x2 x8 K2) x7 h
noncomputable def N82_l1_t : Xf := loopT [(0, .c (.slice)), (1, .c (.int .i64)), (2, .c (.int .i64)), (8, .c (.int .i64))] [(7, .c (.int .i64))] (codeAt B82 [1, 1, 0, 1, 0, 0, 1, 0, 0, 0, 0, 0]) fun F Q => N82_l1_B F.1 F.2.1 F.2.2.1 F.2.2.2 (fun o0 h' => Q (.exit 2) (Sg.env [(7, .c (.int .i64))] o0) h')
theorem N82_l1_ok : Sound Try.prog Try.f82.ntmps N82_l1_t (codeAt B82 [1, 1, 0, 1, 0, 0, 1, 0, 0, 0, 0]) := by
 refine loop_sound (fun e => match e with | .exit 2 => [7] | _ => []) (by kernel_rfl) ?_
 intro F Q s h Φ hb
 refine den_sound hE hm _ (.two (.two (.ord [0, 1, 2, 3, 4, 5, 6, 7, 8, 9, 10, 11, 12, 13, 14, 15]) .leaf) .leaf) _ _ _ (⟨⟨trivial, annOk_leaf⟩, annOk_leaf⟩) ?_
 refine cast ?_ hb
 kernel_rfl
def N82_l2_b (x0 : Sl) (x1 x2 x7 x8 : Int) (Φ : Int → Hp → Prop) (x9 : Int) (h : Hp) (K4 : Hp → Prop) : Prop :=
 bif (decide (x9 ≥ 1)) then
 idx x9 x0.n <|
 nn x0.p fun a0 =>
 xI .u32 (cell h (a0.add (x9.toNat * 1))) fun n0 =>
 idx (IntKind.wrap .i64 (x9 - 1)) x0.n <|
 nn x0.p fun a1 =>
 xI .u32 (cell h (a1.add ((IntKind.wrap .i64 (x9 - 1)).toNat * 1))) fun n1 =>
 C83 n0 n1 h fun b0 h0 =>
 bif (!b0) then
 K4 h0
 else
 idx (IntKind.wrap .i64 (x9 - 1)) x0.n <|
 nn x0.p fun a2 =>
 xI .u32 (cell h0 (a2.add ((IntKind.wrap .i64 (x9 - 1)).toNat * 1))) fun n2 =>
 idx x9 x0.n <|
 nn x0.p fun a3 =>
 xI .u32 (cell h0 (a3.add (x9.toNat * 1))) fun n3 =>
 idx x9 x0.n <|
 nn x0.p fun a4 =>
 st h0 (a4.add (x9.toNat * 1)) (.int .u32 n2) fun h1 =>
 idx (IntKind.wrap .i64 (x9 - 1)) x0.n <|
 nn x0.p fun a5 =>
 st h1 (a5.add ((IntKind.wrap .i64 (x9 - 1)).toNat * 1)) (.int .u32 n3) fun h2 =>
 Φ (IntKind.wrap .i64 (x9 - 1)) h2
 else
 K4 h
def N82_l2_B (x0 : Sl) (x1 x2 x7 x8 : Int) (K4 : Hp → Prop) (s : Sg.T [(9, .c (.int .i64))]) (h : Hp) (Φ : Sg.T [(9, .c (.int .i64))] → Hp → Prop) : Prop :=
 N82_l2_b x0 x1 x2 x7 x8 (fun x9 h => Φ x9 h) s h K4
def N82_l2 (x0 : Sl) (x1 x2 x7 x8 x9 : Int) (h : Hp) (K4 : Hp → Prop) : Prop :=
 loopP (N82_l2_B x0 x1 x2 x7 x8 K4) x9 h
noncomputable def N82_l2_t : Xf := loopT [(0, .c (.slice)), (1, .c (.int .i64)), (2, .c (.int .i64)), (7, .c (.int .i64)), (8, .c (.int .i64))] [(9, .c (.int .i64))] (codeAt B82 [1, 1, 0, 1, 0, 0, 1, 0, 0, 1, 1, 1, 1, 0, 1, 0, 1, 0, 0]) fun F Q => N82_l2_B F.1 F.2.1 F.2.2.1 F.2.2.2.1 F.2.2.2.2 (fun h' => Q (.exit 4) (Sg.env [] ()) h')
theorem N82_l2_ok : Sound Try.prog Try.f82.ntmps N82_l2_t (codeAt B82 [1, 1, 0, 1, 0, 0, 1, 0, 0, 1, 1, 1, 1, 0, 1, 0, 1, 0]) := by
 refine loop_sound (fun e => match e with | .exit 4 => [] | _ => []) (by kernel_rfl) ?_
 intro F Q s h Φ hb
 refine den_sound hE hm _ (.two .leaf (.two (.one (.two (.two (.ord [0, 1, 2, 3, 4, 5, 6, 7, 8, 9, 10]) .leaf) (.ord [0, 1, 2, 3, 4, 5, 6, 7, 8, 9, 10, 11, 12, 13, 14, 15, 16, 17]))) .leaf)) _ _ _ (⟨annOk_leaf, ⟨⟨⟨trivial, annOk_leaf⟩, trivial⟩, annOk_leaf⟩⟩) ?_
 refine cast ?_ hb
 kernel_rfl
def N82_l4_b (x0 : Sl) (x1 x2 x7 x8 : Int) (Φ : Int → Hp → Prop) (x10 : Int) (h : Hp) (K6 : Hp → Prop) : Prop :=
 bif (decide (x10 < x2)) then
 idx x10 x0.n <|
 nn x0.p fun a0 =>
 xI .u32 (cell h (a0.add (x10.toNat * 1))) fun n0 =>
 idx (IntKind.wrap .i64 (x10 - 1)) x0.n <|
 nn x0.p fun a1 =>
 xI .u32 (cell h (a1.add ((IntKind.wrap .i64 (x10 - 1)).toNat * 1))) fun n1 =>
 C83 n0 n1 h fun b0 h0 =>
 bif (!b0) then
 K6 h0
 else
 idx (IntKind.wrap .i64 (x10 - 1)) x0.n <|
 nn x0.p fun a2 =>
 xI .u32 (cell h0 (a2.add ((IntKind.wrap .i64 (x10 - 1)).toNat * 1))) fun n2 =>
 idx x10 x0.n <|
 nn x0.p fun a3 =>
 xI .u32 (cell h0 (a3.add (x10.toNat * 1))) fun n3 =>
 idx x10 x0.n <|
 nn x0.p fun a4 =>
 st h0 (a4.add (x10.toNat * 1)) (.int .u32 n2) fun h1 =>
 idx (IntKind.wrap .i64 (x10 - 1)) x0.n <|
 nn x0.p fun a5 =>
 st h1 (a5.add ((IntKind.wrap .i64 (x10 - 1)).toNat * 1)) (.int .u32 n3) fun h2 =>
 Φ (IntKind.wrap .i64 (x10 + 1)) h2
 else
 K6 h
def N82_l4_B (x0 : Sl) (x1 x2 x7 x8 : Int) (K6 : Hp → Prop) (s : Sg.T [(10, .c (.int .i64))]) (h : Hp) (Φ : Sg.T [(10, .c (.int .i64))] → Hp → Prop) : Prop :=
 N82_l4_b x0 x1 x2 x7 x8 (fun x10 h => Φ x10 h) s h K6
def N82_l4 (x0 : Sl) (x1 x2 x7 x8 x10 : Int) (h : Hp) (K6 : Hp → Prop) : Prop :=
 loopP (N82_l4_B x0 x1 x2 x7 x8 K6) x10 h
noncomputable def N82_l4_t : Xf := loopT [(0, .c (.slice)), (1, .c (.int .i64)), (2, .c (.int .i64)), (7, .c (.int .i64)), (8, .c (.int .i64))] [(10, .c (.int .i64))] (codeAt B82 [1, 1, 0, 1, 0, 0, 1, 0, 0, 1, 1, 1, 1, 1, 1, 0, 1, 0, 0]) fun F Q => N82_l4_B F.1 F.2.1 F.2.2.1 F.2.2.2.1 F.2.2.2.2 (fun h' => Q (.exit 6) (Sg.env [] ()) h')
theorem N82_l4_ok : Sound Try.prog Try.f82.ntmps N82_l4_t (codeAt B82 [1, 1, 0, 1, 0, 0, 1, 0, 0, 1, 1, 1, 1, 1, 1, 0, 1, 0]) := by
 refine loop_sound (fun e => match e with | .exit 6 => [] | _ => []) (by kernel_rfl) ?_
 intro F Q s h Φ hb
 refine den_sound hE hm _ (.two .leaf (.two (.one (.two (.two (.ord [0, 1, 2, 3, 4, 5, 6, 7, 8, 9, 10]) .leaf) (.ord [0, 1, 2, 3, 4, 5, 6, 7, 8, 9, 10, 11, 12, 13, 14, 15, 16, 17]))) .leaf)) _ _ _ (⟨annOk_leaf, ⟨⟨⟨trivial, annOk_leaf⟩, trivial⟩, annOk_leaf⟩⟩) ?_
 refine cast ?_ hb
 kernel_rfl
def N82_j3 (x0 : Sl) (x1 x2 x7 x8 : Int) (h : Hp) (Kn : Hp → Prop) : Prop :=
 bif (decide ((IntKind.wrap .i64 (x2 - x7)) ≥ 2)) then
 N82_l4 x0 x1 x2 x7 x8 (IntKind.wrap .i64 (x7 + 1)) h
 (fun h0 =>
 Kn h0)
 else
 Kn h
noncomputable def N82_j3_t : Xf := pieceT [(0, .c (.slice)), (1, .c (.int .i64)), (2, .c (.int .i64)), (7, .c (.int .i64)), (8, .c (.int .i64))] (codeAt B82 [1, 1, 0, 1, 0, 0, 1, 0, 0, 1, 1, 1, 1, 1]) fun x h Q => N82_j3 x.1 x.2.1 x.2.2.1 x.2.2.2.1 x.2.2.2.2 h (fun h' => Q .normal (Sg.env [] ()) h')
theorem N82_j3_ok : Sound Try.prog Try.f82.ntmps N82_j3_t (codeAt B82 [1, 1, 0, 1, 0, 0, 1, 0, 0, 1, 1, 1, 1, 1]) := by
 refine piece_sound (fun e => match e with | .normal => [] | _ => []) ?_
 intro x h Q hb
 refine den_sound hE hm _ (.two .leaf (.two (.two .leaf (.one (.xf N82_l4_t))) .leaf)) _ _ _ (⟨annOk_leaf, ⟨⟨annOk_leaf, N82_l4_ok⟩, annOk_leaf⟩⟩) ?_
 refine cast ?_ hb
 kernel_rfl
def N82_l0_b (x0 : Sl) (x1 x2 : Int) (Φ : Int → Int → Hp → Prop) (x7 x8 : Int) (h : Hp) (K0 : Hp → Prop) (Kr : Bool → Hp → Prop) : Prop :=
 bif (decide (x8 < 5)) then
 N82_l1 x0 x1 x2 x8 x7 h
 (fun n0 h0 =>
 bif (n0 == x2) then
 Kr true h0
 else
 bif (decide ((IntKind.wrap .i64 (x2 - x1)) < 50)) then
 Kr false h0
 else
 idx (IntKind.wrap .i64 (n0 - 1)) x0.n <|
 nn x0.p fun a0 =>
 xI .u32 (cell h0 (a0.add ((IntKind.wrap .i64 (n0 - 1)).toNat * 1))) fun n1 =>
 idx n0 x0.n <|
 nn x0.p fun a1 =>
 xI .u32 (cell h0 (a1.add (n0.toNat * 1))) fun n2 =>
 idx n0 x0.n <|
 nn x0.p fun a2 =>
 st h0 (a2.add (n0.toNat * 1)) (.int .u32 n1) fun h1 =>
 idx (IntKind.wrap .i64 (n0 - 1)) x0.n <|
 nn x0.p fun a3 =>
 st h1 (a3.add ((IntKind.wrap .i64 (n0 - 1)).toNat * 1)) (.int .u32 n2) fun h2 =>
 bif (decide ((IntKind.wrap .i64 (n0 - x1)) ≥ 2)) then
 N82_l2 x0 x1 x2 n0 x8 (IntKind.wrap .i64 (n0 - 1)) h2
 (fun h3 =>
 N82_j3 x0 x1 x2 n0 x8 h3
 (fun h4 =>
 Φ n0 (IntKind.wrap .i64 (x8 + 1)) h4))
 else
 N82_j3 x0 x1 x2 n0 x8 h2
 (fun h5 =>
 Φ n0 (IntKind.wrap .i64 (x8 + 1)) h5))
 else
 K0 h
def N82_l0_B (x0 : Sl) (x1 x2 : Int) (K0 : Hp → Prop) (Kr : Bool → Hp → Prop) (s : Sg.T [(7, .c (.int .i64)), (8, .c (.int .i64))]) (h : Hp) (Φ : Sg.T [(7, .c (.int .i64)), (8, .c (.int .i64))] → Hp → Prop) : Prop :=
 N82_l0_b x0 x1 x2 (fun x7 x8 h => Φ (x7, x8) h) s.1 s.2 h K0 Kr
def N82_l0 (x0 : Sl) (x1 x2 x7 x8 : Int) (h : Hp) (K0 : Hp → Prop) (Kr : Bool → Hp → Prop) : Prop :=
 loopP (N82_l0_B x0 x1 x2 K0 Kr) (x7, x8) h
noncomputable def N82_l0_t : Xf := loopT [(0, .c (.slice)), (1, .c (.int .i64)), (2, .c (.int .i64))] [(7, .c (.int .i64)), (8, .c (.int .i64))] (codeAt B82 [1, 1, 0, 1, 0, 0]) fun F Q => N82_l0_B F.1 F.2.1 F.2.2 (fun h' => Q (.exit 0) (Sg.env [] ()) h') (fun o0 h' => Q .ret (Sg.env [(6, .c (.bool))] o0) h')
theorem N82_l0_ok : Sound Try.prog Try.f82.ntmps N82_l0_t (codeAt B82 [1, 1, 0, 1, 0]) := by
 refine loop_sound (fun e => match e with | .exit 0 => [] | .ret => [6] | _ => []) (by kernel_rfl) ?_
 intro F Q s h Φ hb
 refine den_sound hE hm _ (.two .leaf (.two (.one (.two (.one (.xf N82_l1_t)) (.two .leaf (.two .leaf (.two (.ord [0, 1, 2, 3, 4, 5, 6, 7, 8, 9, 10, 11, 12, 13, 14, 15, 16, 17]) (.two (.two .leaf (.two (.two .leaf (.one (.xf N82_l2_t))) .leaf)) (.xf N82_j3_t))))))) .leaf)) _ _ _ (⟨annOk_leaf, ⟨⟨N82_l1_ok, ⟨annOk_leaf, ⟨annOk_leaf, ⟨trivial, ⟨⟨annOk_leaf, ⟨⟨annOk_leaf, N82_l2_ok⟩, annOk_leaf⟩⟩, N82_j3_ok⟩⟩⟩⟩⟩, annOk_leaf⟩⟩) ?_
 refine cast ?_ hb
 kernel_rfl
def N82 (x0 : Sl) (x1 x2 : Int) (h : Hp) (K : Bool → Hp → Prop) : Prop :=
 N82_l0 x0 x1 x2 (IntKind.wrap .i64 (x1 + 1)) 0 h
 (fun h0 =>
 K false h0)
 (fun b0 h1 =>
 K b0 h1)
theorem S82 {x0 : Sl} {x1 x2 : Int} {h : Hp} {K : Bool → Hp → Prop} (hn : N82 x0 x1 x2 h K) : C82 x0 x1 x2 h K := by
 refine calls_of_D Try.func82 (c := B82) rfl (by kernel_rfl) ?_
 refine den_sound hE hm _ (.two .leaf (.two .leaf (.two (.two .leaf (.one (.xf N82_l0_t))) .leaf))) _ _ _ (⟨annOk_leaf, ⟨annOk_leaf, ⟨⟨annOk_leaf, N82_l0_ok⟩, annOk_leaf⟩⟩⟩) ?_
 refine cast ?_ hn
 kernel_rfl
end Go.Proofs.Ytkfccpabigikkaa
