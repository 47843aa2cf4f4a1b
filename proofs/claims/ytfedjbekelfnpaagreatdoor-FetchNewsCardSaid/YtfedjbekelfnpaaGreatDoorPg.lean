/- Texts of a walk over heaps, printed by program and by hand: lemmas for the law that is proved in this claim. No condition. -/
import Derived.Test.YtfedjbekelfnpaaGreatDoorProg
import Derived.Test.YtfedjbekelfnpaaGreatDoorPc
import Derived.Lib.SplitLaws
import Derived.Lib.IndexBytes
import Derived.Lib.IndexLaws
import Derived.Lib.ItoaNum
import Derived.Lib.ParseIntB
import Derived.Lib.Join
import Derived.Laws.Strings
set_option linter.unusedVariables false
set_option maxRecDepth 100000
namespace Go.Proofs.YtfedjbekelfnpaaGreatDoor
open Go Go.Hw

/-- the functions that have a body -/
def E : Nat → Bool := fun f => Nat.blt 2 f && Nat.blt f 140
theorem hE : EnterOk Tryz.prog E := by
  have all : ∀ f ∈ List.range' 3 137, (!E f || match Tryz.prog.funcs[f]? with | some fn => !fn.body.isNone && !(fn.name == "runtime.NumGoroutine") | none => false) = true := by
    rw [← List.all_eq_true]
    kernel_rfl
  intro f h
  have hm : f ∈ List.range' 3 137 := by
    simp only [E, Bool.and_eq_true, Bool.or_eq_true, Nat.blt_eq] at h
    simp only [List.mem_range'_1]; omega
  have := all f hm
  rw [h] at this
  simp only [Bool.not_true, Bool.false_or] at this
  split at this
  · rename_i fn hf
    simp only [Bool.and_eq_true, Bool.not_eq_true'] at this
    exact ⟨fn, hf, this.1, this.2⟩
  · cases this
theorem hm : Tryz.prog.follows .mixedOrders = true := by kernel_rfl
/-- gosem.cut.init -/
def C2  (h : Hp) (K : Hp → Prop) : Prop :=
  HCalls Tryz.prog 2 ⟨[]⟩ h fun _ h' => K h'

/-- slipway/slipwaylaw21.FetchNames -/
def C3  (h : Hp) (K : Bool → Hp → Prop) : Prop :=
  HCalls Tryz.prog 3 ⟨[]⟩ h fun v h' => VT.on (.c (.bool)) (some v) fun r => K r h'

/-- slipway/slipwaylaw21.FetchNews -/
def C4 (x0_0 : Int) (x0_1 : ByteArray) (x0_2 : Int) (x0_3 : Int) (x1 : Int) (x2_0 : Int) (x2_1 : Int) (x2_2 : Int) (x2_3 : Int) (x2_4 : Int) (x2_5 : Int) (x2_6 : Int) (x2_7 : Int) (x2_8 : Int) (x2_9 : Int) (x2_10 : Int) (x2_11 : Int) (x2_12 : Int) (x2_13 : Int) (x2_14 : Int) (x2_15 : Int) (x2_16 : Int) (x2_17 : Int) (x2_18 : Int) (x2_19 : Int) (x2_20 : Int) (x2_21 : Int) (x2_22 : Int) (x2_23 : Int) (x2_24 : Int) (x2_25 : Int) (x2_26 : Int) (x2_27 : Int) (x2_28 : Int) (x2_29 : Int) (x2_30 : Int) (x2_31 : Int) (h : Hp) (K : Bool → Hp → Prop) : Prop :=
  HCalls Tryz.prog 4 ⟨[.agg ⟨[.int .u32 x0_0, .string x0_1, .int .i64 x0_2, .int .i64 x0_3]⟩, .int .i64 x1, .agg ⟨[.int .u8 x2_0, .int .u8 x2_1, .int .u8 x2_2, .int .u8 x2_3, .int .u8 x2_4, .int .u8 x2_5, .int .u8 x2_6, .int .u8 x2_7, .int .u8 x2_8, .int .u8 x2_9, .int .u8 x2_10, .int .u8 x2_11, .int .u8 x2_12, .int .u8 x2_13, .int .u8 x2_14, .int .u8 x2_15, .int .u8 x2_16, .int .u8 x2_17, .int .u8 x2_18, .int .u8 x2_19, .int .u8 x2_20, .int .u8 x2_21, .int .u8 x2_22, .int .u8 x2_23, .int .u8 x2_24, .int .u8 x2_25, .int .u8 x2_26, .int .u8 x2_27, .int .u8 x2_28, .int .u8 x2_29, .int .u8 x2_30, .int .u8 x2_31]⟩]⟩ h fun v h' => VT.on (.c (.bool)) (some v) fun r => K r h'

/-- slipway/slipwaylaw21.FetchKeeps -/
def C5 (x0_0 : Int) (x0_1 : ByteArray) (x0_2 : Int) (x0_3 : Int) (x0_4 : Int) (x0_5 : Int) (x0_6 : Int) (x0_7 : Int) (x0_8 : Int) (x0_9 : Int) (x0_10 : Int) (x0_11 : Int) (x0_12 : Int) (x0_13 : Int) (x0_14 : Int) (x0_15 : Int) (x0_16 : Int) (x0_17 : Int) (x0_18 : Int) (x0_19 : Int) (x0_20 : Int) (x0_21 : Int) (x0_22 : Int) (x0_23 : Int) (x0_24 : Int) (x0_25 : Int) (x0_26 : Int) (x0_27 : Int) (x0_28 : Int) (x0_29 : Int) (x0_30 : Int) (x0_31 : Int) (x0_32 : Int) (x0_33 : Int) (x0_34 : Int) (x0_35 : Int) (x0_36 : Int) (x0_37 : Sl) (x1_0 : Sl) (x1_1 : Int) (x1_2 : Int) (x1_3 : Int) (x2 : Sl) (h : Hp) (K : Bool → Hp → Prop) : Prop :=
  HCalls Tryz.prog 5 ⟨[.agg ⟨[.int .u32 x0_0, .string x0_1, .int .i64 x0_2, .int .i64 x0_3, .int .i64 x0_4, .int .u8 x0_5, .int .u8 x0_6, .int .u8 x0_7, .int .u8 x0_8, .int .u8 x0_9, .int .u8 x0_10, .int .u8 x0_11, .int .u8 x0_12, .int .u8 x0_13, .int .u8 x0_14, .int .u8 x0_15, .int .u8 x0_16, .int .u8 x0_17, .int .u8 x0_18, .int .u8 x0_19, .int .u8 x0_20, .int .u8 x0_21, .int .u8 x0_22, .int .u8 x0_23, .int .u8 x0_24, .int .u8 x0_25, .int .u8 x0_26, .int .u8 x0_27, .int .u8 x0_28, .int .u8 x0_29, .int .u8 x0_30, .int .u8 x0_31, .int .u8 x0_32, .int .u8 x0_33, .int .u8 x0_34, .int .u8 x0_35, .int .u8 x0_36, .slice x0_37.p x0_37.n x0_37.c]⟩, .agg ⟨[.slice x1_0.p x1_0.n x1_0.c, .int .i64 x1_1, .int .i64 x1_2, .int .i64 x1_3]⟩, .slice x2.p x2.n x2.c]⟩ h fun v h' => VT.on (.c (.bool)) (some v) fun r => K r h'

/-- slipway/slipwaylaw21.FetchQuiet -/
def C6 (x0_0 : Int) (x0_1 : ByteArray) (x0_2 : Int) (x0_3 : Int) (x0_4 : Int) (x0_5 : Int) (x0_6 : Int) (x0_7 : Int) (x0_8 : Int) (x0_9 : Int) (x0_10 : Int) (x0_11 : Int) (x0_12 : Int) (x0_13 : Int) (x0_14 : Int) (x0_15 : Int) (x0_16 : Int) (x0_17 : Int) (x0_18 : Int) (x0_19 : Int) (x0_20 : Int) (x0_21 : Int) (x0_22 : Int) (x0_23 : Int) (x0_24 : Int) (x0_25 : Int) (x0_26 : Int) (x0_27 : Int) (x0_28 : Int) (x0_29 : Int) (x0_30 : Int) (x0_31 : Int) (x0_32 : Int) (x0_33 : Int) (x0_34 : Int) (x0_35 : Int) (x0_36 : Int) (x0_37 : Sl) (x1 : Sl) (x2 : Int) (h : Hp) (K : Bool → Hp → Prop) : Prop :=
  HCalls Tryz.prog 6 ⟨[.agg ⟨[.int .u32 x0_0, .string x0_1, .int .i64 x0_2, .int .i64 x0_3, .int .i64 x0_4, .int .u8 x0_5, .int .u8 x0_6, .int .u8 x0_7, .int .u8 x0_8, .int .u8 x0_9, .int .u8 x0_10, .int .u8 x0_11, .int .u8 x0_12, .int .u8 x0_13, .int .u8 x0_14, .int .u8 x0_15, .int .u8 x0_16, .int .u8 x0_17, .int .u8 x0_18, .int .u8 x0_19, .int .u8 x0_20, .int .u8 x0_21, .int .u8 x0_22, .int .u8 x0_23, .int .u8 x0_24, .int .u8 x0_25, .int .u8 x0_26, .int .u8 x0_27, .int .u8 x0_28, .int .u8 x0_29, .int .u8 x0_30, .int .u8 x0_31, .int .u8 x0_32, .int .u8 x0_33, .int .u8 x0_34, .int .u8 x0_35, .int .u8 x0_36, .slice x0_37.p x0_37.n x0_37.c]⟩, .slice x1.p x1.n x1.c, .int .i64 x2]⟩ h fun v h' => VT.on (.c (.bool)) (some v) fun r => K r h'

/-- slipway/slipwaylaw21.FetchPlays -/
def C7 (x0_0 : Int) (x0_1 : ByteArray) (x0_2 : Int) (x0_3 : Int) (x0_4 : Int) (x0_5 : Int) (x0_6 : Int) (x0_7 : Int) (x0_8 : Int) (x0_9 : Int) (x0_10 : Int) (x0_11 : Int) (x0_12 : Int) (x0_13 : Int) (x0_14 : Int) (x0_15 : Int) (x0_16 : Int) (x0_17 : Int) (x0_18 : Int) (x0_19 : Int) (x0_20 : Int) (x0_21 : Int) (x0_22 : Int) (x0_23 : Int) (x0_24 : Int) (x0_25 : Int) (x0_26 : Int) (x0_27 : Int) (x0_28 : Int) (x0_29 : Int) (x0_30 : Int) (x0_31 : Int) (x0_32 : Int) (x0_33 : Int) (x0_34 : Int) (x0_35 : Int) (x0_36 : Int) (x0_37 : Sl) (x1 : Sl) (h : Hp) (K : Bool → Hp → Prop) : Prop :=
  HCalls Tryz.prog 7 ⟨[.agg ⟨[.int .u32 x0_0, .string x0_1, .int .i64 x0_2, .int .i64 x0_3, .int .i64 x0_4, .int .u8 x0_5, .int .u8 x0_6, .int .u8 x0_7, .int .u8 x0_8, .int .u8 x0_9, .int .u8 x0_10, .int .u8 x0_11, .int .u8 x0_12, .int .u8 x0_13, .int .u8 x0_14, .int .u8 x0_15, .int .u8 x0_16, .int .u8 x0_17, .int .u8 x0_18, .int .u8 x0_19, .int .u8 x0_20, .int .u8 x0_21, .int .u8 x0_22, .int .u8 x0_23, .int .u8 x0_24, .int .u8 x0_25, .int .u8 x0_26, .int .u8 x0_27, .int .u8 x0_28, .int .u8 x0_29, .int .u8 x0_30, .int .u8 x0_31, .int .u8 x0_32, .int .u8 x0_33, .int .u8 x0_34, .int .u8 x0_35, .int .u8 x0_36, .slice x0_37.p x0_37.n x0_37.c]⟩, .slice x1.p x1.n x1.c]⟩ h fun v h' => VT.on (.c (.bool)) (some v) fun r => K r h'

/-- slipway/slipwaylaw21.awake -/
def C8  (h : Hp) (K : Bool → Hp → Prop) : Prop :=
  HCalls Tryz.prog 8 ⟨[]⟩ h fun v h' => VT.on (.c (.bool)) (some v) fun r => K r h'

/-- slipway/hold.New -/
def C9 (x0 : Int) (x1_0 : Int) (x1_1 : Int) (x1_2 : Int) (x1_3 : Int) (x1_4 : Int) (x1_5 : Int) (x1_6 : Int) (x1_7 : Int) (x1_8 : Int) (x1_9 : Int) (x1_10 : Int) (x1_11 : Int) (x1_12 : Int) (x1_13 : Int) (x1_14 : Int) (x1_15 : Int) (x1_16 : Int) (x1_17 : Int) (x1_18 : Int) (x1_19 : Int) (x1_20 : Int) (x1_21 : Int) (x1_22 : Int) (x1_23 : Int) (x1_24 : Int) (x1_25 : Int) (x1_26 : Int) (x1_27 : Int) (x1_28 : Int) (x1_29 : Int) (x1_30 : Int) (x1_31 : Int) (h : Hp) (K : Option Addr → Hp → Prop) : Prop :=
  HCalls Tryz.prog 9 ⟨[.int .i64 x0, .agg ⟨[.int .u8 x1_0, .int .u8 x1_1, .int .u8 x1_2, .int .u8 x1_3, .int .u8 x1_4, .int .u8 x1_5, .int .u8 x1_6, .int .u8 x1_7, .int .u8 x1_8, .int .u8 x1_9, .int .u8 x1_10, .int .u8 x1_11, .int .u8 x1_12, .int .u8 x1_13, .int .u8 x1_14, .int .u8 x1_15, .int .u8 x1_16, .int .u8 x1_17, .int .u8 x1_18, .int .u8 x1_19, .int .u8 x1_20, .int .u8 x1_21, .int .u8 x1_22, .int .u8 x1_23, .int .u8 x1_24, .int .u8 x1_25, .int .u8 x1_26, .int .u8 x1_27, .int .u8 x1_28, .int .u8 x1_29, .int .u8 x1_30, .int .u8 x1_31]⟩]⟩ h fun v h' => VT.on (.c (.ptr)) (some v) fun r => K r h'

/-- slipway/slipwayref19.New -/
def C10 (x0 : Int) (x1_0 : Int) (x1_1 : Int) (x1_2 : Int) (x1_3 : Int) (x1_4 : Int) (x1_5 : Int) (x1_6 : Int) (x1_7 : Int) (x1_8 : Int) (x1_9 : Int) (x1_10 : Int) (x1_11 : Int) (x1_12 : Int) (x1_13 : Int) (x1_14 : Int) (x1_15 : Int) (x1_16 : Int) (x1_17 : Int) (x1_18 : Int) (x1_19 : Int) (x1_20 : Int) (x1_21 : Int) (x1_22 : Int) (x1_23 : Int) (x1_24 : Int) (x1_25 : Int) (x1_26 : Int) (x1_27 : Int) (x1_28 : Int) (x1_29 : Int) (x1_30 : Int) (x1_31 : Int) (h : Hp) (K : Option Addr → Hp → Prop) : Prop :=
  HCalls Tryz.prog 10 ⟨[.int .i64 x0, .agg ⟨[.int .u8 x1_0, .int .u8 x1_1, .int .u8 x1_2, .int .u8 x1_3, .int .u8 x1_4, .int .u8 x1_5, .int .u8 x1_6, .int .u8 x1_7, .int .u8 x1_8, .int .u8 x1_9, .int .u8 x1_10, .int .u8 x1_11, .int .u8 x1_12, .int .u8 x1_13, .int .u8 x1_14, .int .u8 x1_15, .int .u8 x1_16, .int .u8 x1_17, .int .u8 x1_18, .int .u8 x1_19, .int .u8 x1_20, .int .u8 x1_21, .int .u8 x1_22, .int .u8 x1_23, .int .u8 x1_24, .int .u8 x1_25, .int .u8 x1_26, .int .u8 x1_27, .int .u8 x1_28, .int .u8 x1_29, .int .u8 x1_30, .int .u8 x1_31]⟩]⟩ h fun v h' => VT.on (.c (.ptr)) (some v) fun r => K r h'

/-- slipway/fetch.New -/
def C11 (x0_0 : Int) (x0_1 : ByteArray) (x0_2 : Int) (x0_3 : Int) (x1 : Option Addr) (h : Hp) (K : Option Addr → Hp → Prop) : Prop :=
  HCalls Tryz.prog 11 ⟨[.agg ⟨[.int .u32 x0_0, .string x0_1, .int .i64 x0_2, .int .i64 x0_3]⟩, .pointer x1]⟩ h fun v h' => VT.on (.c (.ptr)) (some v) fun r => K r h'

/-- slipway/slipwayref21.New -/
def C12 (x0_0 : Int) (x0_1 : ByteArray) (x0_2 : Int) (x0_3 : Int) (x1 : Option Addr) (h : Hp) (K : Option Addr → Hp → Prop) : Prop :=
  HCalls Tryz.prog 12 ⟨[.agg ⟨[.int .u32 x0_0, .string x0_1, .int .i64 x0_2, .int .i64 x0_3]⟩, .pointer x1]⟩ h fun v h' => VT.on (.c (.ptr)) (some v) fun r => K r h'

/-- slipway/dice.New -/
def C13 (x0 : Sl) (h : Hp) (K : Option Addr → Hp → Prop) : Prop :=
  HCalls Tryz.prog 13 ⟨[.slice x0.p x0.n x0.c]⟩ h fun v h' => VT.on (.c (.ptr)) (some v) fun r => K r h'

/-- slipway/slipwayref21.Asked -/
def C14 (x0_0 : Int) (x0_1 : ByteArray) (x0_2 : Int) (x0_3 : Int) (h : Hp) (K : Sl → Hp → Prop) : Prop :=
  HCalls Tryz.prog 14 ⟨[.agg ⟨[.int .u32 x0_0, .string x0_1, .int .i64 x0_2, .int .i64 x0_3]⟩]⟩ h fun v h' => VT.on (.c (.slice)) (some v) fun r => K r h'

/-- (*slipway/fetch.Fetch).Start -/
def C15 (x0 : Option Addr) (x1 : Int) (x2 : Option Addr) (h : Hp) (K : Sl → Hp → Prop) : Prop :=
  HCalls Tryz.prog 15 ⟨[.pointer x0, .int .i64 x1, .pointer x2]⟩ h fun v h' => VT.on (.c (.slice)) (some v) fun r => K r h'

/-- (*slipway/slipwaylaw21.world).act -/
def C16 (x0 : Option Addr) (x1_0 : Int) (x1_1 : Int) (x1_2 : Int) (x1_3 : Int) (x1_4 : Int) (x1_5 : Sl) (h : Hp) (K : Bool → Hp → Prop) : Prop :=
  HCalls Tryz.prog 16 ⟨[.pointer x0, .agg ⟨[.int .i64 x1_0, .int .i64 x1_1, .int .i64 x1_2, .int .i64 x1_3, .int .u32 x1_4, .slice x1_5.p x1_5.n x1_5.c]⟩]⟩ h fun v h' => VT.on (.c (.bool)) (some v) fun r => K r h'

/-- (*slipway/hold.Hold).Bytes -/
def C17 (x0 : Option Addr) (h : Hp) (K : Sl → Hp → Prop) : Prop :=
  HCalls Tryz.prog 17 ⟨[.pointer x0]⟩ h fun v h' => VT.on (.c (.slice)) (some v) fun r => K r h'

/-- slipway/slipwaylaw21.begin -/
def C18 (x0_0 : Int) (x0_1 : ByteArray) (x0_2 : Int) (x0_3 : Int) (x0_4 : Int) (x0_5 : Int) (x0_6 : Int) (x0_7 : Int) (x0_8 : Int) (x0_9 : Int) (x0_10 : Int) (x0_11 : Int) (x0_12 : Int) (x0_13 : Int) (x0_14 : Int) (x0_15 : Int) (x0_16 : Int) (x0_17 : Int) (x0_18 : Int) (x0_19 : Int) (x0_20 : Int) (x0_21 : Int) (x0_22 : Int) (x0_23 : Int) (x0_24 : Int) (x0_25 : Int) (x0_26 : Int) (x0_27 : Int) (x0_28 : Int) (x0_29 : Int) (x0_30 : Int) (x0_31 : Int) (x0_32 : Int) (x0_33 : Int) (x0_34 : Int) (x0_35 : Int) (x0_36 : Int) (x0_37 : Sl) (h : Hp) (K : Option Addr → Bool → Hp → Prop) : Prop :=
  HCalls Tryz.prog 18 ⟨[.agg ⟨[.int .u32 x0_0, .string x0_1, .int .i64 x0_2, .int .i64 x0_3, .int .i64 x0_4, .int .u8 x0_5, .int .u8 x0_6, .int .u8 x0_7, .int .u8 x0_8, .int .u8 x0_9, .int .u8 x0_10, .int .u8 x0_11, .int .u8 x0_12, .int .u8 x0_13, .int .u8 x0_14, .int .u8 x0_15, .int .u8 x0_16, .int .u8 x0_17, .int .u8 x0_18, .int .u8 x0_19, .int .u8 x0_20, .int .u8 x0_21, .int .u8 x0_22, .int .u8 x0_23, .int .u8 x0_24, .int .u8 x0_25, .int .u8 x0_26, .int .u8 x0_27, .int .u8 x0_28, .int .u8 x0_29, .int .u8 x0_30, .int .u8 x0_31, .int .u8 x0_32, .int .u8 x0_33, .int .u8 x0_34, .int .u8 x0_35, .int .u8 x0_36, .slice x0_37.p x0_37.n x0_37.c]⟩]⟩ h fun v h' => tupOn [.c (.ptr), .c (.bool)] v fun r => K r.1 r.2 h'

/-- (*slipway/slipwaylaw21.pair).play -/
def C19 (x0 : Option Addr) (x1_0 : Int) (x1_1 : Int) (x1_2 : Int) (x1_3 : Int) (x1_4 : Sl) (h : Hp) (K : Bool → Hp → Prop) : Prop :=
  HCalls Tryz.prog 19 ⟨[.pointer x0, .agg ⟨[.int .i64 x1_0, .int .i64 x1_1, .int .i64 x1_2, .int .u32 x1_3, .slice x1_4.p x1_4.n x1_4.c]⟩]⟩ h fun v h' => VT.on (.c (.bool)) (some v) fun r => K r h'

/-- (*slipway/fetch.Fetch).Next -/
def C20 (x0 : Option Addr) (h : Hp) (K : Int → Bool → Hp → Prop) : Prop :=
  HCalls Tryz.prog 20 ⟨[.pointer x0]⟩ h fun v h' => tupOn [.c (.int .i64), .c (.bool)] v fun r => K r.1 r.2 h'

/-- (*slipway/fetch.Fetch).State -/
def C21 (x0 : Option Addr) (h : Hp) (K : Int → Int → Int → Int → Int → Int → Int → Int → Hp → Prop) : Prop :=
  HCalls Tryz.prog 21 ⟨[.pointer x0]⟩ h fun v h' => VT.on (.agg [.int .i64, .int .i64, .int .i64, .int .i64, .int .i64, .int .i64, .int .i64, .int .i64]) (some v) fun r => K r.1 r.2.1 r.2.2.1 r.2.2.2.1 r.2.2.2.2.1 r.2.2.2.2.2.1 r.2.2.2.2.2.2.1 r.2.2.2.2.2.2.2 h'

/-- (*slipway/dice.Dice).Left -/
def C22 (x0 : Option Addr) (h : Hp) (K : Int → Hp → Prop) : Prop :=
  HCalls Tryz.prog 22 ⟨[.pointer x0]⟩ h fun v h' => VT.on (.c (.int .i64)) (some v) fun r => K r h'

/-- (*slipway/fetch.Fetch).Tick -/
def C23 (x0 : Option Addr) (x1 : Int) (x2 : Option Addr) (h : Hp) (K : Sl → Hp → Prop) : Prop :=
  HCalls Tryz.prog 23 ⟨[.pointer x0, .int .i64 x1, .pointer x2]⟩ h fun v h' => VT.on (.c (.slice)) (some v) fun r => K r h'

/-- (*slipway/slipwaylaw21.pair).alike -/
def C24 (x0 : Option Addr) (h : Hp) (K : Bool → Hp → Prop) : Prop :=
  HCalls Tryz.prog 24 ⟨[.pointer x0]⟩ h fun v h' => VT.on (.c (.bool)) (some v) fun r => K r h'

/-- (*slipway/slipwaylaw21.pair).owned -/
def C25 (x0 : Option Addr) (h : Hp) (K : Bool → Hp → Prop) : Prop :=
  HCalls Tryz.prog 25 ⟨[.pointer x0]⟩ h fun v h' => VT.on (.c (.bool)) (some v) fun r => K r h'

/-- (*slipway/slipwayref19.Hold).Bytes -/
def C26 (x0 : Option Addr) (h : Hp) (K : Sl → Hp → Prop) : Prop :=
  HCalls Tryz.prog 26 ⟨[.pointer x0]⟩ h fun v h' => VT.on (.c (.slice)) (some v) fun r => K r h'

/-- slipway/slipwayref17.Encode -/
def C27 (x0_0 : Int) (x0_1 : ByteArray) (x0_2 : ByteArray) (x0_3 : Sl) (x0_4 : Int) (x0_5 : Sl) (x0_6 : Int) (x0_7 : ByteArray) (h : Hp) (K : Sl → Int → Hp → Prop) : Prop :=
  HCalls Tryz.prog 27 ⟨[.agg ⟨[.int .i64 x0_0, .string x0_1, .string x0_2, .slice x0_3.p x0_3.n x0_3.c, .int .i64 x0_4, .slice x0_5.p x0_5.n x0_5.c, .int .i64 x0_6, .string x0_7]⟩]⟩ h fun v h' => tupOn [.c (.slice), .c (.int .i64)] v fun r => K r.1 r.2 h'

/-- (*slipway/fetch.Fetch).On -/
def C28 (x0 : Option Addr) (x1 : Int) (x2 : Int) (x3 : Sl) (x4 : Int) (x5 : Option Addr) (h : Hp) (K : Sl → Hp → Prop) : Prop :=
  HCalls Tryz.prog 28 ⟨[.pointer x0, .int .u32 x1, .int .i64 x2, .slice x3.p x3.n x3.c, .int .i64 x4, .pointer x5]⟩ h fun v h' => VT.on (.c (.slice)) (some v) fun r => K r h'

/-- slipway/digest.New -/
def C29  (h : Hp) (K : Option Addr → Hp → Prop) : Prop :=
  HCalls Tryz.prog 29 ⟨[]⟩ h fun v h' => VT.on (.c (.ptr)) (some v) fun r => K r h'

/-- strings.Contains -/
def C30 (x0 : ByteArray) (x1 : ByteArray) (h : Hp) (K : Bool → Hp → Prop) : Prop :=
  HCalls Tryz.prog 30 ⟨[.string x0, .string x1]⟩ h fun v h' => VT.on (.c (.bool)) (some v) fun r => K r h'

/-- slipway/octet.IsHost -/
def C31 (x0 : Int) (h : Hp) (K : Bool → Hp → Prop) : Prop :=
  HCalls Tryz.prog 31 ⟨[.int .u32 x0]⟩ h fun v h' => VT.on (.c (.bool)) (some v) fun r => K r h'

/-- slipway/slipwayref01.IsHost -/
def C32 (x0 : Int) (h : Hp) (K : Bool → Hp → Prop) : Prop :=
  HCalls Tryz.prog 32 ⟨[.int .u32 x0]⟩ h fun v h' => VT.on (.c (.bool)) (some v) fun r => K r h'

/-- slices.Clone[[]uint32,uint32] -/
def C33 (x0 : Sl) (h : Hp) (K : Sl → Hp → Prop) : Prop :=
  HCalls Tryz.prog 33 ⟨[.slice x0.p x0.n x0.c]⟩ h fun v h' => VT.on (.c (.slice)) (some v) fun r => K r h'

/-- (*slipway/fetch.Fetch).call -/
def C34 (x0 : Option Addr) (x1 : Int) (x2 : Option Addr) (x3 : Value) (h : Hp) (K : Sl → Hp → Prop) : Prop :=
  HCalls Tryz.prog 34 ⟨[.pointer x0, .int .i64 x1, .pointer x2, x3]⟩ h fun v h' => VT.on (.c (.slice)) (some v) fun r => K r h'

/-- (*slipway/hold.Hold).Reset -/
def C36 (x0 : Option Addr) (h : Hp) (K : Int → Hp → Prop) : Prop :=
  HCalls Tryz.prog 36 ⟨[.pointer x0]⟩ h fun v h' => VT.on (.c (.int .i64)) (some v) fun r => K r h'

/-- (*slipway/fetch.Fetch).end -/
def C37 (x0 : Option Addr) (x1 : Int) (x2 : Int) (h : Hp) (K : Hp → Prop) : Prop :=
  HCalls Tryz.prog 37 ⟨[.pointer x0, .int .i64 x1, .int .i64 x2]⟩ h fun _ h' => K h'

/-- (*slipway/fetch.Fetch).ask -/
def C38 (x0 : Option Addr) (h : Hp) (K : Hp → Prop) : Prop :=
  HCalls Tryz.prog 38 ⟨[.pointer x0]⟩ h fun _ h' => K h'

/-- (*slipway/fetch.Fetch).wait -/
def C39 (x0 : Option Addr) (x1 : Int) (h : Hp) (K : Hp → Prop) : Prop :=
  HCalls Tryz.prog 39 ⟨[.pointer x0, .int .i64 x1]⟩ h fun _ h' => K h'

/-- (*slipway/slipwaylaw21.world).data -/
def C40 (x0 : Option Addr) (x1 : Int) (x2 : Int) (h : Hp) (K : Bool → Hp → Prop) : Prop :=
  HCalls Tryz.prog 40 ⟨[.pointer x0, .int .i64 x1, .int .i64 x2]⟩ h fun v h' => VT.on (.c (.bool)) (some v) fun r => K r h'

/-- slipway/slipwayref17.Agree -/
def C41 (x0 : Sl) (x1 : Int) (x2 : Int) (x3 : Int) (h : Hp) (K : Int → Int → Sl → Hp → Prop) : Prop :=
  HCalls Tryz.prog 41 ⟨[.slice x0.p x0.n x0.c, .int .i64 x1, .int .i64 x2, .int .i64 x3]⟩ h fun v h' => tupOn [.c (.int .i64), .c (.int .i64), .c (.slice)] v fun r => K r.1 r.2.1 r.2.2 h'

/-- (*slipway/slipwaylaw21.world).on -/
def C42 (x0 : Option Addr) (x1 : Int) (x2_0 : Int) (x2_1 : ByteArray) (x2_2 : ByteArray) (x2_3 : Sl) (x2_4 : Int) (x2_5 : Sl) (x2_6 : Int) (x2_7 : ByteArray) (x3 : Int) (h : Hp) (K : Bool → Hp → Prop) : Prop :=
  HCalls Tryz.prog 42 ⟨[.pointer x0, .int .i64 x1, .agg ⟨[.int .i64 x2_0, .string x2_1, .string x2_2, .slice x2_3.p x2_3.n x2_3.c, .int .i64 x2_4, .slice x2_5.p x2_5.n x2_5.c, .int .i64 x2_6, .string x2_7]⟩, .int .i64 x3]⟩ h fun v h' => VT.on (.c (.bool)) (some v) fun r => K r h'

/-- (*slipway/slipwaylaw21.world).good -/
def C43 (x0 : Option Addr) (x1 : Sl) (x2 : Int) (h : Hp) (K : Bool → Hp → Prop) : Prop :=
  HCalls Tryz.prog 43 ⟨[.pointer x0, .slice x1.p x1.n x1.c, .int .i64 x2]⟩ h fun v h' => VT.on (.c (.bool)) (some v) fun r => K r h'

/-- bytes.Clone -/
def C44 (x0 : Sl) (h : Hp) (K : Sl → Hp → Prop) : Prop :=
  HCalls Tryz.prog 44 ⟨[.slice x0.p x0.n x0.c]⟩ h fun v h' => VT.on (.c (.slice)) (some v) fun r => K r h'

/-- slipway/slipwayref06.New -/
def C45 (x0 : Sl) (h : Hp) (K : Option Addr → Hp → Prop) : Prop :=
  HCalls Tryz.prog 45 ⟨[.slice x0.p x0.n x0.c]⟩ h fun v h' => VT.on (.c (.ptr)) (some v) fun r => K r h'

/-- (*slipway/slipwayref21.Fetch).Start -/
def C46 (x0 : Option Addr) (x1 : Int) (x2 : Option Addr) (h : Hp) (K : Sl → Hp → Prop) : Prop :=
  HCalls Tryz.prog 46 ⟨[.pointer x0, .int .i64 x1, .pointer x2]⟩ h fun v h' => VT.on (.c (.slice)) (some v) fun r => K r h'

/-- (*slipway/slipwayref21.Fetch).Tick -/
def C47 (x0 : Option Addr) (x1 : Int) (x2 : Option Addr) (h : Hp) (K : Sl → Hp → Prop) : Prop :=
  HCalls Tryz.prog 47 ⟨[.pointer x0, .int .i64 x1, .pointer x2]⟩ h fun v h' => VT.on (.c (.slice)) (some v) fun r => K r h'

/-- slipway/slipwayref01.Lent -/
def C48 (x0 : Sl) (h : Hp) (K : Sl → Hp → Prop) : Prop :=
  HCalls Tryz.prog 48 ⟨[.slice x0.p x0.n x0.c]⟩ h fun v h' => VT.on (.c (.slice)) (some v) fun r => K r h'

/-- (*slipway/slipwayref21.Fetch).On -/
def C49 (x0 : Option Addr) (x1 : Int) (x2 : Int) (x3 : Sl) (x4 : Int) (x5 : Option Addr) (h : Hp) (K : Sl → Hp → Prop) : Prop :=
  HCalls Tryz.prog 49 ⟨[.pointer x0, .int .u32 x1, .int .i64 x2, .slice x3.p x3.n x3.c, .int .i64 x4, .pointer x5]⟩ h fun v h' => VT.on (.c (.slice)) (some v) fun r => K r h'

/-- slipway/slipwayref01.AsLent -/
def C50 (x0 : Sl) (x1 : Sl) (h : Hp) (K : Bool → Hp → Prop) : Prop :=
  HCalls Tryz.prog 50 ⟨[.slice x0.p x0.n x0.c, .slice x1.p x1.n x1.c]⟩ h fun v h' => VT.on (.c (.bool)) (some v) fun r => K r h'

/-- (*slipway/hold.Hold).Seal -/
def C51 (x0 : Option Addr) (h : Hp) (K : Bool → Int → Hp → Prop) : Prop :=
  HCalls Tryz.prog 51 ⟨[.pointer x0]⟩ h fun v h' => tupOn [.c (.bool), .c (.int .i64)] v fun r => K r.1 r.2 h'

/-- (*slipway/slipwayref19.Hold).Seal -/
def C52 (x0 : Option Addr) (h : Hp) (K : Bool → Int → Hp → Prop) : Prop :=
  HCalls Tryz.prog 52 ⟨[.pointer x0]⟩ h fun v h' => tupOn [.c (.bool), .c (.int .i64)] v fun r => K r.1 r.2 h'

/-- (*slipway/hold.Hold).Add -/
def C53 (x0 : Option Addr) (x1 : Sl) (h : Hp) (K : Int → Hp → Prop) : Prop :=
  HCalls Tryz.prog 53 ⟨[.pointer x0, .slice x1.p x1.n x1.c]⟩ h fun v h' => VT.on (.c (.int .i64)) (some v) fun r => K r h'

/-- (*slipway/slipwayref19.Hold).Add -/
def C54 (x0 : Option Addr) (x1 : Sl) (h : Hp) (K : Int → Hp → Prop) : Prop :=
  HCalls Tryz.prog 54 ⟨[.pointer x0, .slice x1.p x1.n x1.c]⟩ h fun v h' => VT.on (.c (.int .i64)) (some v) fun r => K r h'

/-- slipway/slipwayref21.SameActs -/
def C55 (x0 : Sl) (x1 : Sl) (h : Hp) (K : Bool → Hp → Prop) : Prop :=
  HCalls Tryz.prog 55 ⟨[.slice x0.p x0.n x0.c, .slice x1.p x1.n x1.c]⟩ h fun v h' => VT.on (.c (.bool)) (some v) fun r => K r h'

/-- (*slipway/slipwayref21.Fetch).Next -/
def C57 (x0 : Option Addr) (h : Hp) (K : Int → Bool → Hp → Prop) : Prop :=
  HCalls Tryz.prog 57 ⟨[.pointer x0]⟩ h fun v h' => tupOn [.c (.int .i64), .c (.bool)] v fun r => K r.1 r.2 h'

/-- (*slipway/slipwayref21.Fetch).State -/
def C58 (x0 : Option Addr) (h : Hp) (K : Int → Int → Int → Int → Int → Int → Int → Int → Hp → Prop) : Prop :=
  HCalls Tryz.prog 58 ⟨[.pointer x0]⟩ h fun v h' => VT.on (.agg [.int .i64, .int .i64, .int .i64, .int .i64, .int .i64, .int .i64, .int .i64, .int .i64]) (some v) fun r => K r.1 r.2.1 r.2.2.1 r.2.2.2.1 r.2.2.2.2.1 r.2.2.2.2.2.1 r.2.2.2.2.2.2.1 r.2.2.2.2.2.2.2 h'

/-- (*slipway/slipwayref06.Dice).Left -/
def C59 (x0 : Option Addr) (h : Hp) (K : Int → Hp → Prop) : Prop :=
  HCalls Tryz.prog 59 ⟨[.pointer x0]⟩ h fun v h' => VT.on (.c (.int .i64)) (some v) fun r => K r h'

/-- (*slipway/hold.Hold).Len -/
def C60 (x0 : Option Addr) (h : Hp) (K : Int → Hp → Prop) : Prop :=
  HCalls Tryz.prog 60 ⟨[.pointer x0]⟩ h fun v h' => VT.on (.c (.int .i64)) (some v) fun r => K r h'

/-- (*slipway/slipwayref19.Hold).Len -/
def C61 (x0 : Option Addr) (h : Hp) (K : Int → Hp → Prop) : Prop :=
  HCalls Tryz.prog 61 ⟨[.pointer x0]⟩ h fun v h' => VT.on (.c (.int .i64)) (some v) fun r => K r h'

/-- (*slipway/slipwayref01.Book).Take -/
def C62 (x0 : Option Addr) (x1 : Sl) (h : Hp) (K : Hp → Prop) : Prop :=
  HCalls Tryz.prog 62 ⟨[.pointer x0, .slice x1.p x1.n x1.c]⟩ h fun _ h' => K h'

/-- (*slipway/slipwayref01.Book).Owned -/
def C63 (x0 : Option Addr) (h : Hp) (K : Bool → Hp → Prop) : Prop :=
  HCalls Tryz.prog 63 ⟨[.pointer x0]⟩ h fun v h' => VT.on (.c (.bool)) (some v) fun r => K r h'

/-- slipway/slipwayref17.may -/
def C64 (x0_0 : Int) (x0_1 : ByteArray) (x0_2 : ByteArray) (x0_3 : Sl) (x0_4 : Int) (x0_5 : Sl) (x0_6 : Int) (x0_7 : ByteArray) (h : Hp) (K : Int → Hp → Prop) : Prop :=
  HCalls Tryz.prog 64 ⟨[.agg ⟨[.int .i64 x0_0, .string x0_1, .string x0_2, .slice x0_3.p x0_3.n x0_3.c, .int .i64 x0_4, .slice x0_5.p x0_5.n x0_5.c, .int .i64 x0_6, .string x0_7]⟩]⟩ h fun v h' => VT.on (.c (.int .i64)) (some v) fun r => K r h'

/-- slipway/slipwayref17.word -/
def C65 (x0 : Sl) (x1 : Int) (h : Hp) (K : Sl → Hp → Prop) : Prop :=
  HCalls Tryz.prog 65 ⟨[.slice x0.p x0.n x0.c, .int .i64 x1]⟩ h fun v h' => VT.on (.c (.slice)) (some v) fun r => K r h'

/-- slipway/slipwayref17.text -/
def C66 (x0 : Sl) (x1 : ByteArray) (h : Hp) (K : Sl → Hp → Prop) : Prop :=
  HCalls Tryz.prog 66 ⟨[.slice x0.p x0.n x0.c, .string x1]⟩ h fun v h' => VT.on (.c (.slice)) (some v) fun r => K r h'

/-- slipway/slipwayref17.add -/
def C67 (x0 : Sl) (x1 : Sl) (h : Hp) (K : Sl → Hp → Prop) : Prop :=
  HCalls Tryz.prog 67 ⟨[.slice x0.p x0.n x0.c, .slice x1.p x1.n x1.c]⟩ h fun v h' => VT.on (.c (.slice)) (some v) fun r => K r h'

/-- slipway/slipwayref01.Decimal -/
def C68 (x0 : Int) (h : Hp) (K : ByteArray → Hp → Prop) : Prop :=
  HCalls Tryz.prog 68 ⟨[.int .i64 x0]⟩ h fun v h' => VT.on (.c (.str)) (some v) fun r => K r h'

/-- slipway/tftp.Decode -/
def C70 (x0 : Sl) (h : Hp) (K : Int → ByteArray → ByteArray → Sl → Int → Sl → Int → ByteArray → Int → Hp → Prop) : Prop :=
  HCalls Tryz.prog 70 ⟨[.slice x0.p x0.n x0.c]⟩ h fun v h' => tupOn [.agg [.int .i64, .str, .str, .slice, .int .i64, .slice, .int .i64, .str], .c (.int .i64)] v fun r => K r.1.1 r.1.2.1 r.1.2.2.1 r.1.2.2.2.1 r.1.2.2.2.2.1 r.1.2.2.2.2.2.1 r.1.2.2.2.2.2.2.1 r.1.2.2.2.2.2.2.2 r.2 h'

/-- (*slipway/fetch.Fetch).send -/
def C71 (x0 : Option Addr) (x1 : Int) (x2_0 : Int) (x2_1 : ByteArray) (x2_2 : ByteArray) (x2_3 : Sl) (x2_4 : Int) (x2_5 : Sl) (x2_6 : Int) (x2_7 : ByteArray) (h : Hp) (K : Hp → Prop) : Prop :=
  HCalls Tryz.prog 71 ⟨[.pointer x0, .int .i64 x1, .agg ⟨[.int .i64 x2_0, .string x2_1, .string x2_2, .slice x2_3.p x2_3.n x2_3.c, .int .i64 x2_4, .slice x2_5.p x2_5.n x2_5.c, .int .i64 x2_6, .string x2_7]⟩]⟩ h fun _ h' => K h'

/-- (*slipway/fetch.Fetch).agree -/
def C72 (x0 : Option Addr) (x1 : Int) (x2_0 : Int) (x2_1 : ByteArray) (x2_2 : ByteArray) (x2_3 : Sl) (x2_4 : Int) (x2_5 : Sl) (x2_6 : Int) (x2_7 : ByteArray) (h : Hp) (K : Hp → Prop) : Prop :=
  HCalls Tryz.prog 72 ⟨[.pointer x0, .int .i64 x1, .agg ⟨[.int .i64 x2_0, .string x2_1, .string x2_2, .slice x2_3.p x2_3.n x2_3.c, .int .i64 x2_4, .slice x2_5.p x2_5.n x2_5.c, .int .i64 x2_6, .string x2_7]⟩]⟩ h fun _ h' => K h'

/-- (*slipway/fetch.Fetch).data -/
def C73 (x0 : Option Addr) (x1 : Int) (x2_0 : Int) (x2_1 : ByteArray) (x2_2 : ByteArray) (x2_3 : Sl) (x2_4 : Int) (x2_5 : Sl) (x2_6 : Int) (x2_7 : ByteArray) (h : Hp) (K : Hp → Prop) : Prop :=
  HCalls Tryz.prog 73 ⟨[.pointer x0, .int .i64 x1, .agg ⟨[.int .i64 x2_0, .string x2_1, .string x2_2, .slice x2_3.p x2_3.n x2_3.c, .int .i64 x2_4, .slice x2_5.p x2_5.n x2_5.c, .int .i64 x2_6, .string x2_7]⟩]⟩ h fun _ h' => K h'

/-- (*slipway/fetch.Fetch).refused -/
def C74 (x0 : Option Addr) (x1 : Int) (x2_0 : Int) (x2_1 : ByteArray) (x2_2 : ByteArray) (x2_3 : Sl) (x2_4 : Int) (x2_5 : Sl) (x2_6 : Int) (x2_7 : ByteArray) (h : Hp) (K : Hp → Prop) : Prop :=
  HCalls Tryz.prog 74 ⟨[.pointer x0, .int .i64 x1, .agg ⟨[.int .i64 x2_0, .string x2_1, .string x2_2, .slice x2_3.p x2_3.n x2_3.c, .int .i64 x2_4, .slice x2_5.p x2_5.n x2_5.c, .int .i64 x2_6, .string x2_7]⟩]⟩ h fun _ h' => K h'

/-- strings.Index -/
def C75 (x0 : ByteArray) (x1 : ByteArray) (h : Hp) (K : Int → Hp → Prop) : Prop :=
  HCalls Tryz.prog 75 ⟨[.string x0, .string x1]⟩ h fun v h' => VT.on (.c (.int .i64)) (some v) fun r => K r h'

/-- (*slipway/hold.Hold).open -/
def C76 (x0 : Option Addr) (h : Hp) (K : Value → Hp → Prop) : Prop :=
  HCalls Tryz.prog 76 ⟨[.pointer x0]⟩ h fun v h' => VT.on (.c (.any)) (some v) fun r => K r h'

/-- slipway/hold.number -/
def C77 (x0 : Value) (h : Hp) (K : Int → Hp → Prop) : Prop :=
  HCalls Tryz.prog 77 ⟨[x0]⟩ h fun v h' => VT.on (.c (.int .i64)) (some v) fun r => K r h'

/-- (*slipway/fetch.Fetch).asked -/
def C78 (x0 : Option Addr) (h : Hp) (K : Sl → Hp → Prop) : Prop :=
  HCalls Tryz.prog 78 ⟨[.pointer x0]⟩ h fun v h' => VT.on (.c (.slice)) (some v) fun r => K r h'

/-- (*slipway/dice.Dice).Backoff -/
def C79 (x0 : Option Addr) (x1 : Int) (x2 : Int) (x3 : Int) (h : Hp) (K : Int → Hp → Prop) : Prop :=
  HCalls Tryz.prog 79 ⟨[.pointer x0, .int .i64 x1, .int .i64 x2, .int .i64 x3]⟩ h fun v h' => VT.on (.c (.int .i64)) (some v) fun r => K r h'

/-- (*slipway/slipwaylaw21.world).blockOf -/
def C80 (x0 : Option Addr) (x1 : Int) (h : Hp) (K : Sl → Bool → Hp → Prop) : Prop :=
  HCalls Tryz.prog 80 ⟨[.pointer x0, .int .i64 x1]⟩ h fun v h' => tupOn [.c (.slice), .c (.bool)] v fun r => K r.1 r.2 h'

/-- slipway/slipwayref17.twice -/
def C81 (x0 : Sl) (x1 : Int) (h : Hp) (K : Bool → Hp → Prop) : Prop :=
  HCalls Tryz.prog 81 ⟨[.slice x0.p x0.n x0.c, .int .i64 x1]⟩ h fun v h' => VT.on (.c (.bool)) (some v) fun r => K r h'

/-- slipway/slipwayref17.within -/
def C82 (x0 : Int) (x1 : Int) (x2 : Int) (h : Hp) (K : Int → Hp → Prop) : Prop :=
  HCalls Tryz.prog 82 ⟨[.int .i64 x0, .int .i64 x1, .int .i64 x2]⟩ h fun v h' => VT.on (.c (.int .i64)) (some v) fun r => K r h'

/-- (*slipway/slipwayref06.Dice).Add -/
def C83 (x0 : Option Addr) (x1 : Sl) (h : Hp) (K : Hp → Prop) : Prop :=
  HCalls Tryz.prog 83 ⟨[.pointer x0, .slice x1.p x1.n x1.c]⟩ h fun _ h' => K h'

/-- (*slipway/slipwayref21.Fetch).on -/
def C84 (x0 : Option Addr) (x1 : Int) (h : Hp) (K : Hp → Prop) : Prop :=
  HCalls Tryz.prog 84 ⟨[.pointer x0, .int .i64 x1]⟩ h fun _ h' => K h'

/-- (*slipway/slipwayref19.Hold).Reset -/
def C85 (x0 : Option Addr) (h : Hp) (K : Int → Hp → Prop) : Prop :=
  HCalls Tryz.prog 85 ⟨[.pointer x0]⟩ h fun v h' => VT.on (.c (.int .i64)) (some v) fun r => K r h'

/-- (*slipway/slipwayref21.Fetch).fails -/
def C86 (x0 : Option Addr) (x1 : Int) (h : Hp) (K : Hp → Prop) : Prop :=
  HCalls Tryz.prog 86 ⟨[.pointer x0, .int .i64 x1]⟩ h fun _ h' => K h'

/-- (*slipway/slipwayref21.Fetch).told -/
def C87 (x0 : Option Addr) (h : Hp) (K : Sl → Hp → Prop) : Prop :=
  HCalls Tryz.prog 87 ⟨[.pointer x0]⟩ h fun v h' => VT.on (.c (.slice)) (some v) fun r => K r h'

/-- (*slipway/slipwayref21.Fetch).read -/
def C88 (x0 : Option Addr) (h : Hp) (K : Hp → Prop) : Prop :=
  HCalls Tryz.prog 88 ⟨[.pointer x0]⟩ h fun _ h' => K h'

/-- (*slipway/slipwayref21.Fetch).waits -/
def C89 (x0 : Option Addr) (x1 : Int) (x2 : Option Addr) (h : Hp) (K : Hp → Prop) : Prop :=
  HCalls Tryz.prog 89 ⟨[.pointer x0, .int .i64 x1, .pointer x2]⟩ h fun _ h' => K h'

/-- (*slipway/slipwayref21.Fetch).ack -/
def C90 (x0 : Option Addr) (h : Hp) (K : Hp → Prop) : Prop :=
  HCalls Tryz.prog 90 ⟨[.pointer x0]⟩ h fun _ h' => K h'

/-- slipway/slipwayref17.Decode -/
def C91 (x0 : Sl) (h : Hp) (K : Int → ByteArray → ByteArray → Sl → Int → Sl → Int → ByteArray → Int → Hp → Prop) : Prop :=
  HCalls Tryz.prog 91 ⟨[.slice x0.p x0.n x0.c]⟩ h fun v h' => tupOn [.agg [.int .i64, .str, .str, .slice, .int .i64, .slice, .int .i64, .str], .c (.int .i64)] v fun r => K r.1.1 r.1.2.1 r.1.2.2.1 r.1.2.2.2.1 r.1.2.2.2.2.1 r.1.2.2.2.2.2.1 r.1.2.2.2.2.2.2.1 r.1.2.2.2.2.2.2.2 r.2 h'

/-- (*slipway/slipwayref21.Fetch).asking -/
def C92 (x0 : Option Addr) (x1 : Int) (x2_0 : Int) (x2_1 : ByteArray) (x2_2 : ByteArray) (x2_3 : Sl) (x2_4 : Int) (x2_5 : Sl) (x2_6 : Int) (x2_7 : ByteArray) (x3 : Option Addr) (h : Hp) (K : Hp → Prop) : Prop :=
  HCalls Tryz.prog 92 ⟨[.pointer x0, .int .i64 x1, .agg ⟨[.int .i64 x2_0, .string x2_1, .string x2_2, .slice x2_3.p x2_3.n x2_3.c, .int .i64 x2_4, .slice x2_5.p x2_5.n x2_5.c, .int .i64 x2_6, .string x2_7]⟩, .pointer x3]⟩ h fun _ h' => K h'

/-- (*slipway/slipwayref21.Fetch).running -/
def C93 (x0 : Option Addr) (x1 : Int) (x2_0 : Int) (x2_1 : ByteArray) (x2_2 : ByteArray) (x2_3 : Sl) (x2_4 : Int) (x2_5 : Sl) (x2_6 : Int) (x2_7 : ByteArray) (x3 : Option Addr) (h : Hp) (K : Hp → Prop) : Prop :=
  HCalls Tryz.prog 93 ⟨[.pointer x0, .int .i64 x1, .agg ⟨[.int .i64 x2_0, .string x2_1, .string x2_2, .slice x2_3.p x2_3.n x2_3.c, .int .i64 x2_4, .slice x2_5.p x2_5.n x2_5.c, .int .i64 x2_6, .string x2_7]⟩, .pointer x3]⟩ h fun _ h' => K h'

/-- (*slipway/digest.Hash).Sum -/
def C94 (x0 : Option Addr) (h : Hp) (K : Int → Int → Int → Int → Int → Int → Int → Int → Int → Int → Int → Int → Int → Int → Int → Int → Int → Int → Int → Int → Int → Int → Int → Int → Int → Int → Int → Int → Int → Int → Int → Int → Hp → Prop) : Prop :=
  HCalls Tryz.prog 94 ⟨[.pointer x0]⟩ h fun v h' => VT.on (.agg [.int .u8, .int .u8, .int .u8, .int .u8, .int .u8, .int .u8, .int .u8, .int .u8, .int .u8, .int .u8, .int .u8, .int .u8, .int .u8, .int .u8, .int .u8, .int .u8, .int .u8, .int .u8, .int .u8, .int .u8, .int .u8, .int .u8, .int .u8, .int .u8, .int .u8, .int .u8, .int .u8, .int .u8, .int .u8, .int .u8, .int .u8, .int .u8]) (some v) fun r => K r.1 r.2.1 r.2.2.1 r.2.2.2.1 r.2.2.2.2.1 r.2.2.2.2.2.1 r.2.2.2.2.2.2.1 r.2.2.2.2.2.2.2.1 r.2.2.2.2.2.2.2.2.1 r.2.2.2.2.2.2.2.2.2.1 r.2.2.2.2.2.2.2.2.2.2.1 r.2.2.2.2.2.2.2.2.2.2.2.1 r.2.2.2.2.2.2.2.2.2.2.2.2.1 r.2.2.2.2.2.2.2.2.2.2.2.2.2.1 r.2.2.2.2.2.2.2.2.2.2.2.2.2.2.1 r.2.2.2.2.2.2.2.2.2.2.2.2.2.2.2.1 r.2.2.2.2.2.2.2.2.2.2.2.2.2.2.2.2.1 r.2.2.2.2.2.2.2.2.2.2.2.2.2.2.2.2.2.1 r.2.2.2.2.2.2.2.2.2.2.2.2.2.2.2.2.2.2.1 r.2.2.2.2.2.2.2.2.2.2.2.2.2.2.2.2.2.2.2.1 r.2.2.2.2.2.2.2.2.2.2.2.2.2.2.2.2.2.2.2.2.1 r.2.2.2.2.2.2.2.2.2.2.2.2.2.2.2.2.2.2.2.2.2.1 r.2.2.2.2.2.2.2.2.2.2.2.2.2.2.2.2.2.2.2.2.2.2.1 r.2.2.2.2.2.2.2.2.2.2.2.2.2.2.2.2.2.2.2.2.2.2.2.1 r.2.2.2.2.2.2.2.2.2.2.2.2.2.2.2.2.2.2.2.2.2.2.2.2.1 r.2.2.2.2.2.2.2.2.2.2.2.2.2.2.2.2.2.2.2.2.2.2.2.2.2.1 r.2.2.2.2.2.2.2.2.2.2.2.2.2.2.2.2.2.2.2.2.2.2.2.2.2.2.1 r.2.2.2.2.2.2.2.2.2.2.2.2.2.2.2.2.2.2.2.2.2.2.2.2.2.2.2.1 r.2.2.2.2.2.2.2.2.2.2.2.2.2.2.2.2.2.2.2.2.2.2.2.2.2.2.2.2.1 r.2.2.2.2.2.2.2.2.2.2.2.2.2.2.2.2.2.2.2.2.2.2.2.2.2.2.2.2.2.1 r.2.2.2.2.2.2.2.2.2.2.2.2.2.2.2.2.2.2.2.2.2.2.2.2.2.2.2.2.2.2.1 r.2.2.2.2.2.2.2.2.2.2.2.2.2.2.2.2.2.2.2.2.2.2.2.2.2.2.2.2.2.2.2 h'

/-- slipway/slipwayref02.Sum -/
def C95 (x0 : Sl) (h : Hp) (K : Int → Int → Int → Int → Int → Int → Int → Int → Int → Int → Int → Int → Int → Int → Int → Int → Int → Int → Int → Int → Int → Int → Int → Int → Int → Int → Int → Int → Int → Int → Int → Int → Hp → Prop) : Prop :=
  HCalls Tryz.prog 95 ⟨[.slice x0.p x0.n x0.c]⟩ h fun v h' => VT.on (.agg [.int .u8, .int .u8, .int .u8, .int .u8, .int .u8, .int .u8, .int .u8, .int .u8, .int .u8, .int .u8, .int .u8, .int .u8, .int .u8, .int .u8, .int .u8, .int .u8, .int .u8, .int .u8, .int .u8, .int .u8, .int .u8, .int .u8, .int .u8, .int .u8, .int .u8, .int .u8, .int .u8, .int .u8, .int .u8, .int .u8, .int .u8, .int .u8]) (some v) fun r => K r.1 r.2.1 r.2.2.1 r.2.2.2.1 r.2.2.2.2.1 r.2.2.2.2.2.1 r.2.2.2.2.2.2.1 r.2.2.2.2.2.2.2.1 r.2.2.2.2.2.2.2.2.1 r.2.2.2.2.2.2.2.2.2.1 r.2.2.2.2.2.2.2.2.2.2.1 r.2.2.2.2.2.2.2.2.2.2.2.1 r.2.2.2.2.2.2.2.2.2.2.2.2.1 r.2.2.2.2.2.2.2.2.2.2.2.2.2.1 r.2.2.2.2.2.2.2.2.2.2.2.2.2.2.1 r.2.2.2.2.2.2.2.2.2.2.2.2.2.2.2.1 r.2.2.2.2.2.2.2.2.2.2.2.2.2.2.2.2.1 r.2.2.2.2.2.2.2.2.2.2.2.2.2.2.2.2.2.1 r.2.2.2.2.2.2.2.2.2.2.2.2.2.2.2.2.2.2.1 r.2.2.2.2.2.2.2.2.2.2.2.2.2.2.2.2.2.2.2.1 r.2.2.2.2.2.2.2.2.2.2.2.2.2.2.2.2.2.2.2.2.1 r.2.2.2.2.2.2.2.2.2.2.2.2.2.2.2.2.2.2.2.2.2.1 r.2.2.2.2.2.2.2.2.2.2.2.2.2.2.2.2.2.2.2.2.2.2.1 r.2.2.2.2.2.2.2.2.2.2.2.2.2.2.2.2.2.2.2.2.2.2.2.1 r.2.2.2.2.2.2.2.2.2.2.2.2.2.2.2.2.2.2.2.2.2.2.2.2.1 r.2.2.2.2.2.2.2.2.2.2.2.2.2.2.2.2.2.2.2.2.2.2.2.2.2.1 r.2.2.2.2.2.2.2.2.2.2.2.2.2.2.2.2.2.2.2.2.2.2.2.2.2.2.1 r.2.2.2.2.2.2.2.2.2.2.2.2.2.2.2.2.2.2.2.2.2.2.2.2.2.2.2.1 r.2.2.2.2.2.2.2.2.2.2.2.2.2.2.2.2.2.2.2.2.2.2.2.2.2.2.2.2.1 r.2.2.2.2.2.2.2.2.2.2.2.2.2.2.2.2.2.2.2.2.2.2.2.2.2.2.2.2.2.1 r.2.2.2.2.2.2.2.2.2.2.2.2.2.2.2.2.2.2.2.2.2.2.2.2.2.2.2.2.2.2.1 r.2.2.2.2.2.2.2.2.2.2.2.2.2.2.2.2.2.2.2.2.2.2.2.2.2.2.2.2.2.2.2 h'

/-- (*slipway/hold.Hold).add -/
def C96 (x0 : Option Addr) (x1 : Sl) (h : Hp) (K : Value → Hp → Prop) : Prop :=
  HCalls Tryz.prog 96 ⟨[.pointer x0, .slice x1.p x1.n x1.c]⟩ h fun v h' => VT.on (.c (.any)) (some v) fun r => K r h'

/-- slipway/slipwayref01.mark -/
def C97 (x0 : Int) (x1 : Int) (h : Hp) (K : Int → Hp → Prop) : Prop :=
  HCalls Tryz.prog 97 ⟨[.int .i64 x0, .int .i64 x1]⟩ h fun v h' => VT.on (.c (.int .u8)) (some v) fun r => K r h'

/-- slipway/slipwayref17.hasZero -/
def C98 (x0 : ByteArray) (h : Hp) (K : Bool → Hp → Prop) : Prop :=
  HCalls Tryz.prog 98 ⟨[.string x0]⟩ h fun v h' => VT.on (.c (.bool)) (some v) fun r => K r h'

/-- slipway/slipwayref17.choices -/
def C99 (x0 : Sl) (h : Hp) (K : Bool → Hp → Prop) : Prop :=
  HCalls Tryz.prog 99 ⟨[.slice x0.p x0.n x0.c]⟩ h fun v h' => VT.on (.c (.bool)) (some v) fun r => K r h'

/-- slipway/slipwayref01.Put -/
def C100 (x0 : Int) (x1 : Int) (h : Hp) (K : Sl → Hp → Prop) : Prop :=
  HCalls Tryz.prog 100 ⟨[.int .u64 x0, .int .i64 x1]⟩ h fun v h' => VT.on (.c (.slice)) (some v) fun r => K r h'

/-- (*slipway/tftp.reader).number -/
def C101 (x0 : Option Addr) (h : Hp) (K : Int → Int → Hp → Prop) : Prop :=
  HCalls Tryz.prog 101 ⟨[.pointer x0]⟩ h fun v h' => tupOn [.c (.int .i64), .c (.int .i64)] v fun r => K r.1 r.2 h'

/-- (*slipway/tftp.reader).fields -/
def C102 (x0 : Option Addr) (x1 : Option Addr) (h : Hp) (K : Int → Hp → Prop) : Prop :=
  HCalls Tryz.prog 102 ⟨[.pointer x0, .pointer x1]⟩ h fun v h' => VT.on (.c (.int .i64)) (some v) fun r => K r h'

/-- slipway/tftp.Encode -/
def C103 (x0_0 : Int) (x0_1 : ByteArray) (x0_2 : ByteArray) (x0_3 : Sl) (x0_4 : Int) (x0_5 : Sl) (x0_6 : Int) (x0_7 : ByteArray) (h : Hp) (K : Sl → Int → Hp → Prop) : Prop :=
  HCalls Tryz.prog 103 ⟨[.agg ⟨[.int .i64 x0_0, .string x0_1, .string x0_2, .slice x0_3.p x0_3.n x0_3.c, .int .i64 x0_4, .slice x0_5.p x0_5.n x0_5.c, .int .i64 x0_6, .string x0_7]⟩]⟩ h fun v h' => tupOn [.c (.slice), .c (.int .i64)] v fun r => K r.1 r.2 h'

/-- slipway/tftp.Accept -/
def C104 (x0 : Sl) (x1 : Sl) (x2 : Int) (h : Hp) (K : Int → Int → Int → Hp → Prop) : Prop :=
  HCalls Tryz.prog 104 ⟨[.slice x0.p x0.n x0.c, .slice x1.p x1.n x1.c, .int .i64 x2]⟩ h fun v h' => tupOn [.c (.int .i64), .c (.int .i64), .c (.int .i64)] v fun r => K r.1 r.2.1 r.2.2 h'

/-- (*slipway/hold.Hold).Most -/
def C105 (x0 : Option Addr) (h : Hp) (K : Int → Hp → Prop) : Prop :=
  HCalls Tryz.prog 105 ⟨[.pointer x0]⟩ h fun v h' => VT.on (.c (.int .i64)) (some v) fun r => K r h'

/-- (*slipway/fetch.Fetch).run -/
def C106 (x0 : Option Addr) (x1 : Int) (x2 : Int) (x3 : Int) (h : Hp) (K : Hp → Prop) : Prop :=
  HCalls Tryz.prog 106 ⟨[.pointer x0, .int .i64 x1, .int .i64 x2, .int .i64 x3]⟩ h fun _ h' => K h'

/-- (*slipway/fetch.Fetch).refuse -/
def C107 (x0 : Option Addr) (x1 : Int) (x2 : Int) (h : Hp) (K : Hp → Prop) : Prop :=
  HCalls Tryz.prog 107 ⟨[.pointer x0, .int .i64 x1, .int .i64 x2]⟩ h fun _ h' => K h'

/-- (*slipway/fetch.Fetch).comes -/
def C108 (x0 : Option Addr) (x1 : Sl) (h : Hp) (K : Hp → Prop) : Prop :=
  HCalls Tryz.prog 108 ⟨[.pointer x0, .slice x1.p x1.n x1.c]⟩ h fun _ h' => K h'

/-- internal/stringslite.Index -/
def C109 (x0 : ByteArray) (x1 : ByteArray) (h : Hp) (K : Int → Hp → Prop) : Prop :=
  HCalls Tryz.prog 109 ⟨[.string x0, .string x1]⟩ h fun v h' => VT.on (.c (.int .i64)) (some v) fun r => K r h'

/-- errors.Is -/
def C110 (x0 : Value) (x1 : Value) (h : Hp) (K : Bool → Hp → Prop) : Prop :=
  HCalls Tryz.prog 110 ⟨[x0, x1]⟩ h fun v h' => VT.on (.c (.bool)) (some v) fun r => K r h'

/-- (*slipway/dice.Dice).made -/
def C111 (x0 : Option Addr) (x1 : Value) (h : Hp) (K : Int → Hp → Prop) : Prop :=
  HCalls Tryz.prog 111 ⟨[.pointer x0, x1]⟩ h fun v h' => VT.on (.c (.int .i64)) (some v) fun r => K r h'

/-- (*slipway/slipwayref21.Fetch).ends -/
def C113 (x0 : Option Addr) (x1 : Int) (x2 : Int) (h : Hp) (K : Hp → Prop) : Prop :=
  HCalls Tryz.prog 113 ⟨[.pointer x0, .int .i64 x1, .int .i64 x2]⟩ h fun _ h' => K h'

/-- (*slipway/slipwayref21.Fetch).send -/
def C114 (x0 : Option Addr) (x1 : Int) (x2_0 : Int) (x2_1 : ByteArray) (x2_2 : ByteArray) (x2_3 : Sl) (x2_4 : Int) (x2_5 : Sl) (x2_6 : Int) (x2_7 : ByteArray) (h : Hp) (K : Hp → Prop) : Prop :=
  HCalls Tryz.prog 114 ⟨[.pointer x0, .int .i64 x1, .agg ⟨[.int .i64 x2_0, .string x2_1, .string x2_2, .slice x2_3.p x2_3.n x2_3.c, .int .i64 x2_4, .slice x2_5.p x2_5.n x2_5.c, .int .i64 x2_6, .string x2_7]⟩]⟩ h fun _ h' => K h'

/-- (*slipway/slipwayref06.Dice).Backoff -/
def C115 (x0 : Option Addr) (x1 : Int) (x2 : Int) (x3 : Int) (h : Hp) (K : Int → Hp → Prop) : Prop :=
  HCalls Tryz.prog 115 ⟨[.pointer x0, .int .i64 x1, .int .i64 x2, .int .i64 x3]⟩ h fun v h' => VT.on (.c (.int .i64)) (some v) fun r => K r h'

/-- slipway/slipwayref17.decodeRead -/
def C116 (x0 : Sl) (h : Hp) (K : Int → ByteArray → ByteArray → Sl → Int → Sl → Int → ByteArray → Int → Hp → Prop) : Prop :=
  HCalls Tryz.prog 116 ⟨[.slice x0.p x0.n x0.c]⟩ h fun v h' => tupOn [.agg [.int .i64, .str, .str, .slice, .int .i64, .slice, .int .i64, .str], .c (.int .i64)] v fun r => K r.1.1 r.1.2.1 r.1.2.2.1 r.1.2.2.2.1 r.1.2.2.2.2.1 r.1.2.2.2.2.2.1 r.1.2.2.2.2.2.2.1 r.1.2.2.2.2.2.2.2 r.2 h'

/-- slipway/slipwayref17.read -/
def C117 (x0 : Sl) (h : Hp) (K : Sl → Int → Hp → Prop) : Prop :=
  HCalls Tryz.prog 117 ⟨[.slice x0.p x0.n x0.c]⟩ h fun v h' => tupOn [.c (.slice), .c (.int .i64)] v fun r => K r.1 r.2 h'

/-- slipway/slipwayref17.cut -/
def C118 (x0 : Sl) (h : Hp) (K : ByteArray → Sl → Bool → Hp → Prop) : Prop :=
  HCalls Tryz.prog 118 ⟨[.slice x0.p x0.n x0.c]⟩ h fun v h' => tupOn [.c (.str), .c (.slice), .c (.bool)] v fun r => K r.1 r.2.1 r.2.2 h'

/-- slipway/slipwayref17.Accept -/
def C119 (x0 : Sl) (x1 : Sl) (x2 : Int) (h : Hp) (K : Int → Int → Int → Hp → Prop) : Prop :=
  HCalls Tryz.prog 119 ⟨[.slice x0.p x0.n x0.c, .slice x1.p x1.n x1.c, .int .i64 x2]⟩ h fun v h' => tupOn [.c (.int .i64), .c (.int .i64), .c (.int .i64)] v fun r => K r.1 r.2.1 r.2.2 h'

/-- (*slipway/slipwayref19.Hold).Most -/
def C120 (x0 : Option Addr) (h : Hp) (K : Int → Hp → Prop) : Prop :=
  HCalls Tryz.prog 120 ⟨[.pointer x0]⟩ h fun v h' => VT.on (.c (.int .i64)) (some v) fun r => K r h'

/-- (*slipway/slipwayref21.Fetch).wrong -/
def C121 (x0 : Option Addr) (x1 : Int) (x2 : Int) (h : Hp) (K : Hp → Prop) : Prop :=
  HCalls Tryz.prog 121 ⟨[.pointer x0, .int .i64 x1, .int .i64 x2]⟩ h fun _ h' => K h'

/-- (*slipway/slipwayref21.Fetch).comes -/
def C122 (x0 : Option Addr) (x1 : Sl) (x2 : Option Addr) (h : Hp) (K : Hp → Prop) : Prop :=
  HCalls Tryz.prog 122 ⟨[.pointer x0, .slice x1.p x1.n x1.c, .pointer x2]⟩ h fun _ h' => K h'

/-- (*slipway/digest.Hash).Write -/
def C123 (x0 : Option Addr) (x1 : Sl) (h : Hp) (K : Hp → Prop) : Prop :=
  HCalls Tryz.prog 123 ⟨[.pointer x0, .slice x1.p x1.n x1.c]⟩ h fun _ h' => K h'

/-- slipway/slipwayref02.New -/
def C124  (h : Hp) (K : Option Addr → Hp → Prop) : Prop :=
  HCalls Tryz.prog 124 ⟨[]⟩ h fun v h' => VT.on (.c (.ptr)) (some v) fun r => K r h'

/-- (*slipway/slipwayref02.Hash).Write -/
def C125 (x0 : Option Addr) (x1 : Sl) (h : Hp) (K : Hp → Prop) : Prop :=
  HCalls Tryz.prog 125 ⟨[.pointer x0, .slice x1.p x1.n x1.c]⟩ h fun _ h' => K h'

/-- (*slipway/slipwayref02.Hash).Sum -/
def C126 (x0 : Option Addr) (h : Hp) (K : Int → Int → Int → Int → Int → Int → Int → Int → Int → Int → Int → Int → Int → Int → Int → Int → Int → Int → Int → Int → Int → Int → Int → Int → Int → Int → Int → Int → Int → Int → Int → Int → Hp → Prop) : Prop :=
  HCalls Tryz.prog 126 ⟨[.pointer x0]⟩ h fun v h' => VT.on (.agg [.int .u8, .int .u8, .int .u8, .int .u8, .int .u8, .int .u8, .int .u8, .int .u8, .int .u8, .int .u8, .int .u8, .int .u8, .int .u8, .int .u8, .int .u8, .int .u8, .int .u8, .int .u8, .int .u8, .int .u8, .int .u8, .int .u8, .int .u8, .int .u8, .int .u8, .int .u8, .int .u8, .int .u8, .int .u8, .int .u8, .int .u8, .int .u8]) (some v) fun r => K r.1 r.2.1 r.2.2.1 r.2.2.2.1 r.2.2.2.2.1 r.2.2.2.2.2.1 r.2.2.2.2.2.2.1 r.2.2.2.2.2.2.2.1 r.2.2.2.2.2.2.2.2.1 r.2.2.2.2.2.2.2.2.2.1 r.2.2.2.2.2.2.2.2.2.2.1 r.2.2.2.2.2.2.2.2.2.2.2.1 r.2.2.2.2.2.2.2.2.2.2.2.2.1 r.2.2.2.2.2.2.2.2.2.2.2.2.2.1 r.2.2.2.2.2.2.2.2.2.2.2.2.2.2.1 r.2.2.2.2.2.2.2.2.2.2.2.2.2.2.2.1 r.2.2.2.2.2.2.2.2.2.2.2.2.2.2.2.2.1 r.2.2.2.2.2.2.2.2.2.2.2.2.2.2.2.2.2.1 r.2.2.2.2.2.2.2.2.2.2.2.2.2.2.2.2.2.2.1 r.2.2.2.2.2.2.2.2.2.2.2.2.2.2.2.2.2.2.2.1 r.2.2.2.2.2.2.2.2.2.2.2.2.2.2.2.2.2.2.2.2.1 r.2.2.2.2.2.2.2.2.2.2.2.2.2.2.2.2.2.2.2.2.2.1 r.2.2.2.2.2.2.2.2.2.2.2.2.2.2.2.2.2.2.2.2.2.2.1 r.2.2.2.2.2.2.2.2.2.2.2.2.2.2.2.2.2.2.2.2.2.2.2.1 r.2.2.2.2.2.2.2.2.2.2.2.2.2.2.2.2.2.2.2.2.2.2.2.2.1 r.2.2.2.2.2.2.2.2.2.2.2.2.2.2.2.2.2.2.2.2.2.2.2.2.2.1 r.2.2.2.2.2.2.2.2.2.2.2.2.2.2.2.2.2.2.2.2.2.2.2.2.2.2.1 r.2.2.2.2.2.2.2.2.2.2.2.2.2.2.2.2.2.2.2.2.2.2.2.2.2.2.2.1 r.2.2.2.2.2.2.2.2.2.2.2.2.2.2.2.2.2.2.2.2.2.2.2.2.2.2.2.2.1 r.2.2.2.2.2.2.2.2.2.2.2.2.2.2.2.2.2.2.2.2.2.2.2.2.2.2.2.2.2.1 r.2.2.2.2.2.2.2.2.2.2.2.2.2.2.2.2.2.2.2.2.2.2.2.2.2.2.2.2.2.2.1 r.2.2.2.2.2.2.2.2.2.2.2.2.2.2.2.2.2.2.2.2.2.2.2.2.2.2.2.2.2.2.2 h'

/-- slipway/slipwayref17.known -/
def C127 (x0 : ByteArray) (h : Hp) (K : Bool → Hp → Prop) : Prop :=
  HCalls Tryz.prog 127 ⟨[.string x0]⟩ h fun v h' => VT.on (.c (.bool)) (some v) fun r => K r h'

/-- slipway/octet.Get -/
def C128 (x0 : Sl) (x1 : Int) (x2 : Int) (h : Hp) (K : Int → Int → Hp → Prop) : Prop :=
  HCalls Tryz.prog 128 ⟨[.slice x0.p x0.n x0.c, .int .i64 x1, .int .i64 x2]⟩ h fun v h' => tupOn [.c (.int .u64), .c (.int .i64)] v fun r => K r.1 r.2 h'

/-- (*slipway/tftp.reader).file -/
def C129 (x0 : Option Addr) (h : Hp) (K : ByteArray → Int → Hp → Prop) : Prop :=
  HCalls Tryz.prog 129 ⟨[.pointer x0]⟩ h fun v h' => tupOn [.c (.str), .c (.int .i64)] v fun r => K r.1 r.2 h'

/-- (*slipway/tftp.reader).choices -/
def C130 (x0 : Option Addr) (h : Hp) (K : Sl → Int → Hp → Prop) : Prop :=
  HCalls Tryz.prog 130 ⟨[.pointer x0]⟩ h fun v h' => tupOn [.c (.slice), .c (.int .i64)] v fun r => K r.1 r.2 h'

/-- (*slipway/tftp.reader).text -/
def C131 (x0 : Option Addr) (h : Hp) (K : ByteArray → Int → Hp → Prop) : Prop :=
  HCalls Tryz.prog 131 ⟨[.pointer x0]⟩ h fun v h' => tupOn [.c (.str), .c (.int .i64)] v fun r => K r.1 r.2 h'

/-- slipway/tftp.check -/
def C132 (x0_0 : Int) (x0_1 : ByteArray) (x0_2 : ByteArray) (x0_3 : Sl) (x0_4 : Int) (x0_5 : Sl) (x0_6 : Int) (x0_7 : ByteArray) (h : Hp) (K : Int → Hp → Prop) : Prop :=
  HCalls Tryz.prog 132 ⟨[.agg ⟨[.int .i64 x0_0, .string x0_1, .string x0_2, .slice x0_3.p x0_3.n x0_3.c, .int .i64 x0_4, .slice x0_5.p x0_5.n x0_5.c, .int .i64 x0_6, .string x0_7]⟩]⟩ h fun v h' => VT.on (.c (.int .i64)) (some v) fun r => K r h'

/-- slipway/tftp.number -/
def C133 (x0 : Sl) (x1 : Int) (h : Hp) (K : Sl → Hp → Prop) : Prop :=
  HCalls Tryz.prog 133 ⟨[.slice x0.p x0.n x0.c, .int .i64 x1]⟩ h fun v h' => VT.on (.c (.slice)) (some v) fun r => K r h'

/-- slipway/tftp.text -/
def C134 (x0 : Sl) (x1 : ByteArray) (h : Hp) (K : Sl → Hp → Prop) : Prop :=
  HCalls Tryz.prog 134 ⟨[.slice x0.p x0.n x0.c, .string x1]⟩ h fun v h' => VT.on (.c (.slice)) (some v) fun r => K r h'

/-- strconv.Itoa -/
def C135 (x0 : Int) (h : Hp) (K : ByteArray → Hp → Prop) : Prop :=
  HCalls Tryz.prog 135 ⟨[.int .i64 x0]⟩ h fun v h' => VT.on (.c (.str)) (some v) fun r => K r h'

/-- slipway/tftp.Want -/
def C136 (x0 : Sl) (x1 : ByteArray) (h : Hp) (K : Int → Bool → Hp → Prop) : Prop :=
  HCalls Tryz.prog 136 ⟨[.slice x0.p x0.n x0.c, .string x1]⟩ h fun v h' => tupOn [.c (.int .i64), .c (.bool)] v fun r => K r.1 r.2 h'

/-- slipway/tftp.known -/
def C137 (x0 : ByteArray) (h : Hp) (K : Bool → Hp → Prop) : Prop :=
  HCalls Tryz.prog 137 ⟨[.string x0]⟩ h fun v h' => VT.on (.c (.bool)) (some v) fun r => K r h'

/-- slipway/tftp.first -/
def C138 (x0 : Sl) (x1 : Int) (h : Hp) (K : Bool → Hp → Prop) : Prop :=
  HCalls Tryz.prog 138 ⟨[.slice x0.p x0.n x0.c, .int .i64 x1]⟩ h fun v h' => VT.on (.c (.bool)) (some v) fun r => K r h'

/-- internal/stringslite.IndexByte -/
def C139 (x0 : ByteArray) (x1 : Int) (h : Hp) (K : Int → Hp → Prop) : Prop :=
  HCalls Tryz.prog 139 ⟨[.string x0, .int .u8 x1]⟩ h fun v h' => VT.on (.c (.int .i64)) (some v) fun r => K r h'

/-- internal/bytealg.Cutover -/
def C141 (x0 : Int) (h : Hp) (K : Int → Hp → Prop) : Prop :=
  HCalls Tryz.prog 141 ⟨[.int .i64 x0]⟩ h fun v h' => VT.on (.c (.int .i64)) (some v) fun r => K r h'

/-- internal/bytealg.IndexRabinKarp[string] -/
def C142 (x0 : ByteArray) (x1 : ByteArray) (h : Hp) (K : Int → Hp → Prop) : Prop :=
  HCalls Tryz.prog 142 ⟨[.string x0, .string x1]⟩ h fun v h' => VT.on (.c (.int .i64)) (some v) fun r => K r h'

/-- errors.is -/
def C144 (x0 : Value) (x1 : Value) (x2 : Bool) (h : Hp) (K : Bool → Hp → Prop) : Prop :=
  HCalls Tryz.prog 144 ⟨[x0, x1, .bool x2]⟩ h fun v h' => VT.on (.c (.bool)) (some v) fun r => K r h'

/-- (*slipway/dice.Dice).Next -/
def C145 (x0 : Option Addr) (h : Hp) (K : Int → Hp → Prop) : Prop :=
  HCalls Tryz.prog 145 ⟨[.pointer x0]⟩ h fun v h' => VT.on (.c (.int .u32)) (some v) fun r => K r h'

/-- slipway/slipwayref06.Doubled -/
def C146 (x0 : Int) (x1 : Int) (x2 : Int) (h : Hp) (K : Int → Hp → Prop) : Prop :=
  HCalls Tryz.prog 146 ⟨[.int .i64 x0, .int .i64 x1, .int .i64 x2]⟩ h fun v h' => VT.on (.c (.int .i64)) (some v) fun r => K r h'

/-- (*slipway/slipwayref06.Dice).Next -/
def C147 (x0 : Option Addr) (h : Hp) (K : Int → Hp → Prop) : Prop :=
  HCalls Tryz.prog 147 ⟨[.pointer x0]⟩ h fun v h' => VT.on (.c (.int .u32)) (some v) fun r => K r h'

/-- slipway/slipwayref17.small -/
def C148 (x0 : ByteArray) (h : Hp) (K : ByteArray → Hp → Prop) : Prop :=
  HCalls Tryz.prog 148 ⟨[.string x0]⟩ h fun v h' => VT.on (.c (.str)) (some v) fun r => K r h'

/-- slipway/slipwayref17.value -/
def C149 (x0 : ByteArray) (h : Hp) (K : Int → Bool → Hp → Prop) : Prop :=
  HCalls Tryz.prog 149 ⟨[.string x0]⟩ h fun v h' => tupOn [.c (.int .i64), .c (.bool)] v fun r => K r.1 r.2 h'

/-- slipway/slipwayref17.Want -/
def C150 (x0 : Sl) (x1 : ByteArray) (h : Hp) (K : Int → Bool → Hp → Prop) : Prop :=
  HCalls Tryz.prog 150 ⟨[.slice x0.p x0.n x0.c, .string x1]⟩ h fun v h' => tupOn [.c (.int .i64), .c (.bool)] v fun r => K r.1 r.2 h'

/-- (*slipway/digest.Hash).round -/
def C151 (x0 : Option Addr) (h : Hp) (K : Hp → Prop) : Prop :=
  HCalls Tryz.prog 151 ⟨[.pointer x0]⟩ h fun _ h' => K h'

/-- slipway/slipwayref02.gone -/
def C152 (x0 : Sl) (x1 : Sl) (h : Hp) (K : Sl → Hp → Prop) : Prop :=
  HCalls Tryz.prog 152 ⟨[.slice x0.p x0.n x0.c, .slice x1.p x1.n x1.c]⟩ h fun v h' => VT.on (.c (.slice)) (some v) fun r => K r h'

/-- slipway/tftp.isFile -/
def C153 (x0 : ByteArray) (h : Hp) (K : Bool → Hp → Prop) : Prop :=
  HCalls Tryz.prog 153 ⟨[.string x0]⟩ h fun v h' => VT.on (.c (.bool)) (some v) fun r => K r h'

/-- slipway/tftp.lower -/
def C154 (x0 : ByteArray) (h : Hp) (K : ByteArray → Hp → Prop) : Prop :=
  HCalls Tryz.prog 154 ⟨[.string x0]⟩ h fun v h' => VT.on (.c (.str)) (some v) fun r => K r h'

/-- slipway/tftp.value -/
def C155 (x0 : ByteArray) (h : Hp) (K : Int → Bool → Hp → Prop) : Prop :=
  HCalls Tryz.prog 155 ⟨[.string x0]⟩ h fun v h' => tupOn [.c (.int .i64), .c (.bool)] v fun r => K r.1 r.2 h'

/-- bytes.Cut -/
def C156 (x0 : Sl) (x1 : Sl) (h : Hp) (K : Sl → Sl → Bool → Hp → Prop) : Prop :=
  HCalls Tryz.prog 156 ⟨[.slice x0.p x0.n x0.c, .slice x1.p x1.n x1.c]⟩ h fun v h' => tupOn [.c (.slice), .c (.slice), .c (.bool)] v fun r => K r.1 r.2.1 r.2.2 h'

/-- slipway/tftp.right -/
def C157 (x0 : Sl) (h : Hp) (K : Bool → Hp → Prop) : Prop :=
  HCalls Tryz.prog 157 ⟨[.slice x0.p x0.n x0.c]⟩ h fun v h' => VT.on (.c (.bool)) (some v) fun r => K r h'

/-- slipway/octet.Put -/
def C158 (x0 : Int) (x1 : Int) (h : Hp) (K : Sl → Hp → Prop) : Prop :=
  HCalls Tryz.prog 158 ⟨[.int .u64 x0, .int .i64 x1]⟩ h fun v h' => VT.on (.c (.slice)) (some v) fun r => K r h'

/-- internal/strconv.Itoa -/
def C159 (x0 : Int) (h : Hp) (K : ByteArray → Hp → Prop) : Prop :=
  HCalls Tryz.prog 159 ⟨[.int .i64 x0]⟩ h fun v h' => VT.on (.c (.str)) (some v) fun r => K r h'

/-- internal/bytealg.hashStr[string] -/
def C161 (x0 : ByteArray) (h : Hp) (K : Int → Int → Hp → Prop) : Prop :=
  HCalls Tryz.prog 161 ⟨[.string x0]⟩ h fun v h' => tupOn [.c (.int .u32), .c (.int .u32)] v fun r => K r.1 r.2 h'

/-- slipway/slipwayref06.held -/
def C162 (x0 : Int) (x1 : Int) (h : Hp) (K : Int → Hp → Prop) : Prop :=
  HCalls Tryz.prog 162 ⟨[.int .i64 x0, .int .i64 x1]⟩ h fun v h' => VT.on (.c (.int .i64)) (some v) fun r => K r h'

/-- slipway/digest.table -/
def C163  (h : Hp) (K : Int → Int → Int → Int → Int → Int → Int → Int → Int → Int → Int → Int → Int → Int → Int → Int → Int → Int → Int → Int → Int → Int → Int → Int → Int → Int → Int → Int → Int → Int → Int → Int → Int → Int → Int → Int → Int → Int → Int → Int → Int → Int → Int → Int → Int → Int → Int → Int → Int → Int → Int → Int → Int → Int → Int → Int → Int → Int → Int → Int → Int → Int → Int → Int → Hp → Prop) : Prop :=
  HCalls Tryz.prog 163 ⟨[]⟩ h fun v h' => VT.on (.agg [.int .u32, .int .u32, .int .u32, .int .u32, .int .u32, .int .u32, .int .u32, .int .u32, .int .u32, .int .u32, .int .u32, .int .u32, .int .u32, .int .u32, .int .u32, .int .u32, .int .u32, .int .u32, .int .u32, .int .u32, .int .u32, .int .u32, .int .u32, .int .u32, .int .u32, .int .u32, .int .u32, .int .u32, .int .u32, .int .u32, .int .u32, .int .u32, .int .u32, .int .u32, .int .u32, .int .u32, .int .u32, .int .u32, .int .u32, .int .u32, .int .u32, .int .u32, .int .u32, .int .u32, .int .u32, .int .u32, .int .u32, .int .u32, .int .u32, .int .u32, .int .u32, .int .u32, .int .u32, .int .u32, .int .u32, .int .u32, .int .u32, .int .u32, .int .u32, .int .u32, .int .u32, .int .u32, .int .u32, .int .u32]) (some v) fun r => K r.1 r.2.1 r.2.2.1 r.2.2.2.1 r.2.2.2.2.1 r.2.2.2.2.2.1 r.2.2.2.2.2.2.1 r.2.2.2.2.2.2.2.1 r.2.2.2.2.2.2.2.2.1 r.2.2.2.2.2.2.2.2.2.1 r.2.2.2.2.2.2.2.2.2.2.1 r.2.2.2.2.2.2.2.2.2.2.2.1 r.2.2.2.2.2.2.2.2.2.2.2.2.1 r.2.2.2.2.2.2.2.2.2.2.2.2.2.1 r.2.2.2.2.2.2.2.2.2.2.2.2.2.2.1 r.2.2.2.2.2.2.2.2.2.2.2.2.2.2.2.1 r.2.2.2.2.2.2.2.2.2.2.2.2.2.2.2.2.1 r.2.2.2.2.2.2.2.2.2.2.2.2.2.2.2.2.2.1 r.2.2.2.2.2.2.2.2.2.2.2.2.2.2.2.2.2.2.1 r.2.2.2.2.2.2.2.2.2.2.2.2.2.2.2.2.2.2.2.1 r.2.2.2.2.2.2.2.2.2.2.2.2.2.2.2.2.2.2.2.2.1 r.2.2.2.2.2.2.2.2.2.2.2.2.2.2.2.2.2.2.2.2.2.1 r.2.2.2.2.2.2.2.2.2.2.2.2.2.2.2.2.2.2.2.2.2.2.1 r.2.2.2.2.2.2.2.2.2.2.2.2.2.2.2.2.2.2.2.2.2.2.2.1 r.2.2.2.2.2.2.2.2.2.2.2.2.2.2.2.2.2.2.2.2.2.2.2.2.1 r.2.2.2.2.2.2.2.2.2.2.2.2.2.2.2.2.2.2.2.2.2.2.2.2.2.1 r.2.2.2.2.2.2.2.2.2.2.2.2.2.2.2.2.2.2.2.2.2.2.2.2.2.2.1 r.2.2.2.2.2.2.2.2.2.2.2.2.2.2.2.2.2.2.2.2.2.2.2.2.2.2.2.1 r.2.2.2.2.2.2.2.2.2.2.2.2.2.2.2.2.2.2.2.2.2.2.2.2.2.2.2.2.1 r.2.2.2.2.2.2.2.2.2.2.2.2.2.2.2.2.2.2.2.2.2.2.2.2.2.2.2.2.2.1 r.2.2.2.2.2.2.2.2.2.2.2.2.2.2.2.2.2.2.2.2.2.2.2.2.2.2.2.2.2.2.1 r.2.2.2.2.2.2.2.2.2.2.2.2.2.2.2.2.2.2.2.2.2.2.2.2.2.2.2.2.2.2.2.1 r.2.2.2.2.2.2.2.2.2.2.2.2.2.2.2.2.2.2.2.2.2.2.2.2.2.2.2.2.2.2.2.2.1 r.2.2.2.2.2.2.2.2.2.2.2.2.2.2.2.2.2.2.2.2.2.2.2.2.2.2.2.2.2.2.2.2.2.1 r.2.2.2.2.2.2.2.2.2.2.2.2.2.2.2.2.2.2.2.2.2.2.2.2.2.2.2.2.2.2.2.2.2.2.1 r.2.2.2.2.2.2.2.2.2.2.2.2.2.2.2.2.2.2.2.2.2.2.2.2.2.2.2.2.2.2.2.2.2.2.2.1 r.2.2.2.2.2.2.2.2.2.2.2.2.2.2.2.2.2.2.2.2.2.2.2.2.2.2.2.2.2.2.2.2.2.2.2.2.1 r.2.2.2.2.2.2.2.2.2.2.2.2.2.2.2.2.2.2.2.2.2.2.2.2.2.2.2.2.2.2.2.2.2.2.2.2.2.1 r.2.2.2.2.2.2.2.2.2.2.2.2.2.2.2.2.2.2.2.2.2.2.2.2.2.2.2.2.2.2.2.2.2.2.2.2.2.2.1 r.2.2.2.2.2.2.2.2.2.2.2.2.2.2.2.2.2.2.2.2.2.2.2.2.2.2.2.2.2.2.2.2.2.2.2.2.2.2.2.1 r.2.2.2.2.2.2.2.2.2.2.2.2.2.2.2.2.2.2.2.2.2.2.2.2.2.2.2.2.2.2.2.2.2.2.2.2.2.2.2.2.1 r.2.2.2.2.2.2.2.2.2.2.2.2.2.2.2.2.2.2.2.2.2.2.2.2.2.2.2.2.2.2.2.2.2.2.2.2.2.2.2.2.2.1 r.2.2.2.2.2.2.2.2.2.2.2.2.2.2.2.2.2.2.2.2.2.2.2.2.2.2.2.2.2.2.2.2.2.2.2.2.2.2.2.2.2.2.1 r.2.2.2.2.2.2.2.2.2.2.2.2.2.2.2.2.2.2.2.2.2.2.2.2.2.2.2.2.2.2.2.2.2.2.2.2.2.2.2.2.2.2.2.1 r.2.2.2.2.2.2.2.2.2.2.2.2.2.2.2.2.2.2.2.2.2.2.2.2.2.2.2.2.2.2.2.2.2.2.2.2.2.2.2.2.2.2.2.2.1 r.2.2.2.2.2.2.2.2.2.2.2.2.2.2.2.2.2.2.2.2.2.2.2.2.2.2.2.2.2.2.2.2.2.2.2.2.2.2.2.2.2.2.2.2.2.1 r.2.2.2.2.2.2.2.2.2.2.2.2.2.2.2.2.2.2.2.2.2.2.2.2.2.2.2.2.2.2.2.2.2.2.2.2.2.2.2.2.2.2.2.2.2.2.1 r.2.2.2.2.2.2.2.2.2.2.2.2.2.2.2.2.2.2.2.2.2.2.2.2.2.2.2.2.2.2.2.2.2.2.2.2.2.2.2.2.2.2.2.2.2.2.2.1 r.2.2.2.2.2.2.2.2.2.2.2.2.2.2.2.2.2.2.2.2.2.2.2.2.2.2.2.2.2.2.2.2.2.2.2.2.2.2.2.2.2.2.2.2.2.2.2.2.1 r.2.2.2.2.2.2.2.2.2.2.2.2.2.2.2.2.2.2.2.2.2.2.2.2.2.2.2.2.2.2.2.2.2.2.2.2.2.2.2.2.2.2.2.2.2.2.2.2.2.1 r.2.2.2.2.2.2.2.2.2.2.2.2.2.2.2.2.2.2.2.2.2.2.2.2.2.2.2.2.2.2.2.2.2.2.2.2.2.2.2.2.2.2.2.2.2.2.2.2.2.2.1 r.2.2.2.2.2.2.2.2.2.2.2.2.2.2.2.2.2.2.2.2.2.2.2.2.2.2.2.2.2.2.2.2.2.2.2.2.2.2.2.2.2.2.2.2.2.2.2.2.2.2.2.1 r.2.2.2.2.2.2.2.2.2.2.2.2.2.2.2.2.2.2.2.2.2.2.2.2.2.2.2.2.2.2.2.2.2.2.2.2.2.2.2.2.2.2.2.2.2.2.2.2.2.2.2.2.1 r.2.2.2.2.2.2.2.2.2.2.2.2.2.2.2.2.2.2.2.2.2.2.2.2.2.2.2.2.2.2.2.2.2.2.2.2.2.2.2.2.2.2.2.2.2.2.2.2.2.2.2.2.2.1 r.2.2.2.2.2.2.2.2.2.2.2.2.2.2.2.2.2.2.2.2.2.2.2.2.2.2.2.2.2.2.2.2.2.2.2.2.2.2.2.2.2.2.2.2.2.2.2.2.2.2.2.2.2.2.1 r.2.2.2.2.2.2.2.2.2.2.2.2.2.2.2.2.2.2.2.2.2.2.2.2.2.2.2.2.2.2.2.2.2.2.2.2.2.2.2.2.2.2.2.2.2.2.2.2.2.2.2.2.2.2.2.1 r.2.2.2.2.2.2.2.2.2.2.2.2.2.2.2.2.2.2.2.2.2.2.2.2.2.2.2.2.2.2.2.2.2.2.2.2.2.2.2.2.2.2.2.2.2.2.2.2.2.2.2.2.2.2.2.2.1 r.2.2.2.2.2.2.2.2.2.2.2.2.2.2.2.2.2.2.2.2.2.2.2.2.2.2.2.2.2.2.2.2.2.2.2.2.2.2.2.2.2.2.2.2.2.2.2.2.2.2.2.2.2.2.2.2.2.1 r.2.2.2.2.2.2.2.2.2.2.2.2.2.2.2.2.2.2.2.2.2.2.2.2.2.2.2.2.2.2.2.2.2.2.2.2.2.2.2.2.2.2.2.2.2.2.2.2.2.2.2.2.2.2.2.2.2.2.1 r.2.2.2.2.2.2.2.2.2.2.2.2.2.2.2.2.2.2.2.2.2.2.2.2.2.2.2.2.2.2.2.2.2.2.2.2.2.2.2.2.2.2.2.2.2.2.2.2.2.2.2.2.2.2.2.2.2.2.2.1 r.2.2.2.2.2.2.2.2.2.2.2.2.2.2.2.2.2.2.2.2.2.2.2.2.2.2.2.2.2.2.2.2.2.2.2.2.2.2.2.2.2.2.2.2.2.2.2.2.2.2.2.2.2.2.2.2.2.2.2.2.1 r.2.2.2.2.2.2.2.2.2.2.2.2.2.2.2.2.2.2.2.2.2.2.2.2.2.2.2.2.2.2.2.2.2.2.2.2.2.2.2.2.2.2.2.2.2.2.2.2.2.2.2.2.2.2.2.2.2.2.2.2.2.1 r.2.2.2.2.2.2.2.2.2.2.2.2.2.2.2.2.2.2.2.2.2.2.2.2.2.2.2.2.2.2.2.2.2.2.2.2.2.2.2.2.2.2.2.2.2.2.2.2.2.2.2.2.2.2.2.2.2.2.2.2.2.2.1 r.2.2.2.2.2.2.2.2.2.2.2.2.2.2.2.2.2.2.2.2.2.2.2.2.2.2.2.2.2.2.2.2.2.2.2.2.2.2.2.2.2.2.2.2.2.2.2.2.2.2.2.2.2.2.2.2.2.2.2.2.2.2.2 h'

/-- slipway/digest.schedule -/
def C164 (x0_0 : Int) (x0_1 : Int) (x0_2 : Int) (x0_3 : Int) (x0_4 : Int) (x0_5 : Int) (x0_6 : Int) (x0_7 : Int) (x0_8 : Int) (x0_9 : Int) (x0_10 : Int) (x0_11 : Int) (x0_12 : Int) (x0_13 : Int) (x0_14 : Int) (x0_15 : Int) (x0_16 : Int) (x0_17 : Int) (x0_18 : Int) (x0_19 : Int) (x0_20 : Int) (x0_21 : Int) (x0_22 : Int) (x0_23 : Int) (x0_24 : Int) (x0_25 : Int) (x0_26 : Int) (x0_27 : Int) (x0_28 : Int) (x0_29 : Int) (x0_30 : Int) (x0_31 : Int) (x0_32 : Int) (x0_33 : Int) (x0_34 : Int) (x0_35 : Int) (x0_36 : Int) (x0_37 : Int) (x0_38 : Int) (x0_39 : Int) (x0_40 : Int) (x0_41 : Int) (x0_42 : Int) (x0_43 : Int) (x0_44 : Int) (x0_45 : Int) (x0_46 : Int) (x0_47 : Int) (x0_48 : Int) (x0_49 : Int) (x0_50 : Int) (x0_51 : Int) (x0_52 : Int) (x0_53 : Int) (x0_54 : Int) (x0_55 : Int) (x0_56 : Int) (x0_57 : Int) (x0_58 : Int) (x0_59 : Int) (x0_60 : Int) (x0_61 : Int) (x0_62 : Int) (x0_63 : Int) (h : Hp) (K : Int → Int → Int → Int → Int → Int → Int → Int → Int → Int → Int → Int → Int → Int → Int → Int → Int → Int → Int → Int → Int → Int → Int → Int → Int → Int → Int → Int → Int → Int → Int → Int → Int → Int → Int → Int → Int → Int → Int → Int → Int → Int → Int → Int → Int → Int → Int → Int → Int → Int → Int → Int → Int → Int → Int → Int → Int → Int → Int → Int → Int → Int → Int → Int → Hp → Prop) : Prop :=
  HCalls Tryz.prog 164 ⟨[.agg ⟨[.int .u8 x0_0, .int .u8 x0_1, .int .u8 x0_2, .int .u8 x0_3, .int .u8 x0_4, .int .u8 x0_5, .int .u8 x0_6, .int .u8 x0_7, .int .u8 x0_8, .int .u8 x0_9, .int .u8 x0_10, .int .u8 x0_11, .int .u8 x0_12, .int .u8 x0_13, .int .u8 x0_14, .int .u8 x0_15, .int .u8 x0_16, .int .u8 x0_17, .int .u8 x0_18, .int .u8 x0_19, .int .u8 x0_20, .int .u8 x0_21, .int .u8 x0_22, .int .u8 x0_23, .int .u8 x0_24, .int .u8 x0_25, .int .u8 x0_26, .int .u8 x0_27, .int .u8 x0_28, .int .u8 x0_29, .int .u8 x0_30, .int .u8 x0_31, .int .u8 x0_32, .int .u8 x0_33, .int .u8 x0_34, .int .u8 x0_35, .int .u8 x0_36, .int .u8 x0_37, .int .u8 x0_38, .int .u8 x0_39, .int .u8 x0_40, .int .u8 x0_41, .int .u8 x0_42, .int .u8 x0_43, .int .u8 x0_44, .int .u8 x0_45, .int .u8 x0_46, .int .u8 x0_47, .int .u8 x0_48, .int .u8 x0_49, .int .u8 x0_50, .int .u8 x0_51, .int .u8 x0_52, .int .u8 x0_53, .int .u8 x0_54, .int .u8 x0_55, .int .u8 x0_56, .int .u8 x0_57, .int .u8 x0_58, .int .u8 x0_59, .int .u8 x0_60, .int .u8 x0_61, .int .u8 x0_62, .int .u8 x0_63]⟩]⟩ h fun v h' => VT.on (.agg [.int .u32, .int .u32, .int .u32, .int .u32, .int .u32, .int .u32, .int .u32, .int .u32, .int .u32, .int .u32, .int .u32, .int .u32, .int .u32, .int .u32, .int .u32, .int .u32, .int .u32, .int .u32, .int .u32, .int .u32, .int .u32, .int .u32, .int .u32, .int .u32, .int .u32, .int .u32, .int .u32, .int .u32, .int .u32, .int .u32, .int .u32, .int .u32, .int .u32, .int .u32, .int .u32, .int .u32, .int .u32, .int .u32, .int .u32, .int .u32, .int .u32, .int .u32, .int .u32, .int .u32, .int .u32, .int .u32, .int .u32, .int .u32, .int .u32, .int .u32, .int .u32, .int .u32, .int .u32, .int .u32, .int .u32, .int .u32, .int .u32, .int .u32, .int .u32, .int .u32, .int .u32, .int .u32, .int .u32, .int .u32]) (some v) fun r => K r.1 r.2.1 r.2.2.1 r.2.2.2.1 r.2.2.2.2.1 r.2.2.2.2.2.1 r.2.2.2.2.2.2.1 r.2.2.2.2.2.2.2.1 r.2.2.2.2.2.2.2.2.1 r.2.2.2.2.2.2.2.2.2.1 r.2.2.2.2.2.2.2.2.2.2.1 r.2.2.2.2.2.2.2.2.2.2.2.1 r.2.2.2.2.2.2.2.2.2.2.2.2.1 r.2.2.2.2.2.2.2.2.2.2.2.2.2.1 r.2.2.2.2.2.2.2.2.2.2.2.2.2.2.1 r.2.2.2.2.2.2.2.2.2.2.2.2.2.2.2.1 r.2.2.2.2.2.2.2.2.2.2.2.2.2.2.2.2.1 r.2.2.2.2.2.2.2.2.2.2.2.2.2.2.2.2.2.1 r.2.2.2.2.2.2.2.2.2.2.2.2.2.2.2.2.2.2.1 r.2.2.2.2.2.2.2.2.2.2.2.2.2.2.2.2.2.2.2.1 r.2.2.2.2.2.2.2.2.2.2.2.2.2.2.2.2.2.2.2.2.1 r.2.2.2.2.2.2.2.2.2.2.2.2.2.2.2.2.2.2.2.2.2.1 r.2.2.2.2.2.2.2.2.2.2.2.2.2.2.2.2.2.2.2.2.2.2.1 r.2.2.2.2.2.2.2.2.2.2.2.2.2.2.2.2.2.2.2.2.2.2.2.1 r.2.2.2.2.2.2.2.2.2.2.2.2.2.2.2.2.2.2.2.2.2.2.2.2.1 r.2.2.2.2.2.2.2.2.2.2.2.2.2.2.2.2.2.2.2.2.2.2.2.2.2.1 r.2.2.2.2.2.2.2.2.2.2.2.2.2.2.2.2.2.2.2.2.2.2.2.2.2.2.1 r.2.2.2.2.2.2.2.2.2.2.2.2.2.2.2.2.2.2.2.2.2.2.2.2.2.2.2.1 r.2.2.2.2.2.2.2.2.2.2.2.2.2.2.2.2.2.2.2.2.2.2.2.2.2.2.2.2.1 r.2.2.2.2.2.2.2.2.2.2.2.2.2.2.2.2.2.2.2.2.2.2.2.2.2.2.2.2.2.1 r.2.2.2.2.2.2.2.2.2.2.2.2.2.2.2.2.2.2.2.2.2.2.2.2.2.2.2.2.2.2.1 r.2.2.2.2.2.2.2.2.2.2.2.2.2.2.2.2.2.2.2.2.2.2.2.2.2.2.2.2.2.2.2.1 r.2.2.2.2.2.2.2.2.2.2.2.2.2.2.2.2.2.2.2.2.2.2.2.2.2.2.2.2.2.2.2.2.1 r.2.2.2.2.2.2.2.2.2.2.2.2.2.2.2.2.2.2.2.2.2.2.2.2.2.2.2.2.2.2.2.2.2.1 r.2.2.2.2.2.2.2.2.2.2.2.2.2.2.2.2.2.2.2.2.2.2.2.2.2.2.2.2.2.2.2.2.2.2.1 r.2.2.2.2.2.2.2.2.2.2.2.2.2.2.2.2.2.2.2.2.2.2.2.2.2.2.2.2.2.2.2.2.2.2.2.1 r.2.2.2.2.2.2.2.2.2.2.2.2.2.2.2.2.2.2.2.2.2.2.2.2.2.2.2.2.2.2.2.2.2.2.2.2.1 r.2.2.2.2.2.2.2.2.2.2.2.2.2.2.2.2.2.2.2.2.2.2.2.2.2.2.2.2.2.2.2.2.2.2.2.2.2.1 r.2.2.2.2.2.2.2.2.2.2.2.2.2.2.2.2.2.2.2.2.2.2.2.2.2.2.2.2.2.2.2.2.2.2.2.2.2.2.1 r.2.2.2.2.2.2.2.2.2.2.2.2.2.2.2.2.2.2.2.2.2.2.2.2.2.2.2.2.2.2.2.2.2.2.2.2.2.2.2.1 r.2.2.2.2.2.2.2.2.2.2.2.2.2.2.2.2.2.2.2.2.2.2.2.2.2.2.2.2.2.2.2.2.2.2.2.2.2.2.2.2.1 r.2.2.2.2.2.2.2.2.2.2.2.2.2.2.2.2.2.2.2.2.2.2.2.2.2.2.2.2.2.2.2.2.2.2.2.2.2.2.2.2.2.1 r.2.2.2.2.2.2.2.2.2.2.2.2.2.2.2.2.2.2.2.2.2.2.2.2.2.2.2.2.2.2.2.2.2.2.2.2.2.2.2.2.2.2.1 r.2.2.2.2.2.2.2.2.2.2.2.2.2.2.2.2.2.2.2.2.2.2.2.2.2.2.2.2.2.2.2.2.2.2.2.2.2.2.2.2.2.2.2.1 r.2.2.2.2.2.2.2.2.2.2.2.2.2.2.2.2.2.2.2.2.2.2.2.2.2.2.2.2.2.2.2.2.2.2.2.2.2.2.2.2.2.2.2.2.1 r.2.2.2.2.2.2.2.2.2.2.2.2.2.2.2.2.2.2.2.2.2.2.2.2.2.2.2.2.2.2.2.2.2.2.2.2.2.2.2.2.2.2.2.2.2.1 r.2.2.2.2.2.2.2.2.2.2.2.2.2.2.2.2.2.2.2.2.2.2.2.2.2.2.2.2.2.2.2.2.2.2.2.2.2.2.2.2.2.2.2.2.2.2.1 r.2.2.2.2.2.2.2.2.2.2.2.2.2.2.2.2.2.2.2.2.2.2.2.2.2.2.2.2.2.2.2.2.2.2.2.2.2.2.2.2.2.2.2.2.2.2.2.1 r.2.2.2.2.2.2.2.2.2.2.2.2.2.2.2.2.2.2.2.2.2.2.2.2.2.2.2.2.2.2.2.2.2.2.2.2.2.2.2.2.2.2.2.2.2.2.2.2.1 r.2.2.2.2.2.2.2.2.2.2.2.2.2.2.2.2.2.2.2.2.2.2.2.2.2.2.2.2.2.2.2.2.2.2.2.2.2.2.2.2.2.2.2.2.2.2.2.2.2.1 r.2.2.2.2.2.2.2.2.2.2.2.2.2.2.2.2.2.2.2.2.2.2.2.2.2.2.2.2.2.2.2.2.2.2.2.2.2.2.2.2.2.2.2.2.2.2.2.2.2.2.1 r.2.2.2.2.2.2.2.2.2.2.2.2.2.2.2.2.2.2.2.2.2.2.2.2.2.2.2.2.2.2.2.2.2.2.2.2.2.2.2.2.2.2.2.2.2.2.2.2.2.2.2.1 r.2.2.2.2.2.2.2.2.2.2.2.2.2.2.2.2.2.2.2.2.2.2.2.2.2.2.2.2.2.2.2.2.2.2.2.2.2.2.2.2.2.2.2.2.2.2.2.2.2.2.2.2.1 r.2.2.2.2.2.2.2.2.2.2.2.2.2.2.2.2.2.2.2.2.2.2.2.2.2.2.2.2.2.2.2.2.2.2.2.2.2.2.2.2.2.2.2.2.2.2.2.2.2.2.2.2.2.1 r.2.2.2.2.2.2.2.2.2.2.2.2.2.2.2.2.2.2.2.2.2.2.2.2.2.2.2.2.2.2.2.2.2.2.2.2.2.2.2.2.2.2.2.2.2.2.2.2.2.2.2.2.2.2.1 r.2.2.2.2.2.2.2.2.2.2.2.2.2.2.2.2.2.2.2.2.2.2.2.2.2.2.2.2.2.2.2.2.2.2.2.2.2.2.2.2.2.2.2.2.2.2.2.2.2.2.2.2.2.2.2.1 r.2.2.2.2.2.2.2.2.2.2.2.2.2.2.2.2.2.2.2.2.2.2.2.2.2.2.2.2.2.2.2.2.2.2.2.2.2.2.2.2.2.2.2.2.2.2.2.2.2.2.2.2.2.2.2.2.1 r.2.2.2.2.2.2.2.2.2.2.2.2.2.2.2.2.2.2.2.2.2.2.2.2.2.2.2.2.2.2.2.2.2.2.2.2.2.2.2.2.2.2.2.2.2.2.2.2.2.2.2.2.2.2.2.2.2.1 r.2.2.2.2.2.2.2.2.2.2.2.2.2.2.2.2.2.2.2.2.2.2.2.2.2.2.2.2.2.2.2.2.2.2.2.2.2.2.2.2.2.2.2.2.2.2.2.2.2.2.2.2.2.2.2.2.2.2.1 r.2.2.2.2.2.2.2.2.2.2.2.2.2.2.2.2.2.2.2.2.2.2.2.2.2.2.2.2.2.2.2.2.2.2.2.2.2.2.2.2.2.2.2.2.2.2.2.2.2.2.2.2.2.2.2.2.2.2.2.1 r.2.2.2.2.2.2.2.2.2.2.2.2.2.2.2.2.2.2.2.2.2.2.2.2.2.2.2.2.2.2.2.2.2.2.2.2.2.2.2.2.2.2.2.2.2.2.2.2.2.2.2.2.2.2.2.2.2.2.2.2.1 r.2.2.2.2.2.2.2.2.2.2.2.2.2.2.2.2.2.2.2.2.2.2.2.2.2.2.2.2.2.2.2.2.2.2.2.2.2.2.2.2.2.2.2.2.2.2.2.2.2.2.2.2.2.2.2.2.2.2.2.2.2.1 r.2.2.2.2.2.2.2.2.2.2.2.2.2.2.2.2.2.2.2.2.2.2.2.2.2.2.2.2.2.2.2.2.2.2.2.2.2.2.2.2.2.2.2.2.2.2.2.2.2.2.2.2.2.2.2.2.2.2.2.2.2.2.1 r.2.2.2.2.2.2.2.2.2.2.2.2.2.2.2.2.2.2.2.2.2.2.2.2.2.2.2.2.2.2.2.2.2.2.2.2.2.2.2.2.2.2.2.2.2.2.2.2.2.2.2.2.2.2.2.2.2.2.2.2.2.2.2 h'

/-- slipway/digest.right -/
def C165 (x0 : Int) (x1 : Int) (h : Hp) (K : Int → Hp → Prop) : Prop :=
  HCalls Tryz.prog 165 ⟨[.int .u32 x0, .int .i64 x1]⟩ h fun v h' => VT.on (.c (.int .u32)) (some v) fun r => K r h'

/-- slipway/slipwayref02.table -/
def C166  (h : Hp) (K : Sl → Hp → Prop) : Prop :=
  HCalls Tryz.prog 166 ⟨[]⟩ h fun v h' => VT.on (.c (.slice)) (some v) fun r => K r h'

/-- slipway/slipwayref02.words -/
def C167 (x0 : Sl) (h : Hp) (K : Sl → Hp → Prop) : Prop :=
  HCalls Tryz.prog 167 ⟨[.slice x0.p x0.n x0.c]⟩ h fun v h' => VT.on (.c (.slice)) (some v) fun r => K r h'

/-- slipway/slipwayref02.turn -/
def C168 (x0 : Int) (x1 : Int) (h : Hp) (K : Int → Hp → Prop) : Prop :=
  HCalls Tryz.prog 168 ⟨[.int .u32 x0, .int .i64 x1]⟩ h fun v h' => VT.on (.c (.int .u32)) (some v) fun r => K r h'

/-- strconv.Atoi -/
def C169 (x0 : ByteArray) (h : Hp) (K : Int → Value → Hp → Prop) : Prop :=
  HCalls Tryz.prog 169 ⟨[.string x0]⟩ h fun v h' => tupOn [.c (.int .i64), .c (.any)] v fun r => K r.1 r.2 h'

/-- bytes.Index -/
def C170 (x0 : Sl) (x1 : Sl) (h : Hp) (K : Int → Hp → Prop) : Prop :=
  HCalls Tryz.prog 170 ⟨[.slice x0.p x0.n x0.c, .slice x1.p x1.n x1.c]⟩ h fun v h' => VT.on (.c (.int .i64)) (some v) fun r => K r h'

/-- internal/strconv.FormatInt -/
def C171 (x0 : Int) (x1 : Int) (h : Hp) (K : ByteArray → Hp → Prop) : Prop :=
  HCalls Tryz.prog 171 ⟨[.int .i64 x0, .int .i64 x1]⟩ h fun v h' => VT.on (.c (.str)) (some v) fun r => K r h'

/-- math/bits.RotateLeft32 -/
def C172 (x0 : Int) (x1 : Int) (h : Hp) (K : Int → Hp → Prop) : Prop :=
  HCalls Tryz.prog 172 ⟨[.int .u32 x0, .int .i64 x1]⟩ h fun v h' => VT.on (.c (.int .u32)) (some v) fun r => K r h'

/-- internal/strconv.Atoi -/
def C173 (x0 : ByteArray) (h : Hp) (K : Int → Value → Hp → Prop) : Prop :=
  HCalls Tryz.prog 173 ⟨[.string x0]⟩ h fun v h' => tupOn [.c (.int .i64), .c (.any)] v fun r => K r.1 r.2 h'

/-- strconv.toError -/
def C174 (x0 : ByteArray) (x1 : ByteArray) (x2 : Int) (x3 : Int) (x4 : Value) (h : Hp) (K : Value → Hp → Prop) : Prop :=
  HCalls Tryz.prog 174 ⟨[.string x0, .string x1, .int .i64 x2, .int .i64 x3, x4]⟩ h fun v h' => VT.on (.c (.any)) (some v) fun r => K r h'

/-- bytes.IndexByte -/
def C175 (x0 : Sl) (x1 : Int) (h : Hp) (K : Int → Hp → Prop) : Prop :=
  HCalls Tryz.prog 175 ⟨[.slice x0.p x0.n x0.c, .int .u8 x1]⟩ h fun v h' => VT.on (.c (.int .i64)) (some v) fun r => K r h'

/-- bytes.Equal -/
def C176 (x0 : Sl) (x1 : Sl) (h : Hp) (K : Bool → Hp → Prop) : Prop :=
  HCalls Tryz.prog 176 ⟨[.slice x0.p x0.n x0.c, .slice x1.p x1.n x1.c]⟩ h fun v h' => VT.on (.c (.bool)) (some v) fun r => K r h'

/-- internal/bytealg.IndexRabinKarp[[]byte] -/
def C178 (x0 : Sl) (x1 : Sl) (h : Hp) (K : Int → Hp → Prop) : Prop :=
  HCalls Tryz.prog 178 ⟨[.slice x0.p x0.n x0.c, .slice x1.p x1.n x1.c]⟩ h fun v h' => VT.on (.c (.int .i64)) (some v) fun r => K r h'

/-- internal/strconv.small -/
def C179 (x0 : Int) (h : Hp) (K : ByteArray → Hp → Prop) : Prop :=
  HCalls Tryz.prog 179 ⟨[.int .i64 x0]⟩ h fun v h' => VT.on (.c (.str)) (some v) fun r => K r h'

/-- internal/strconv.numDigits -/
def C180 (x0 : Int) (h : Hp) (K : Int → Hp → Prop) : Prop :=
  HCalls Tryz.prog 180 ⟨[.int .u64 x0]⟩ h fun v h' => VT.on (.c (.int .i64)) (some v) fun r => K r h'

/-- internal/strconv.formatBase10 -/
def C181 (x0 : Sl) (x1 : Int) (h : Hp) (K : Hp → Prop) : Prop :=
  HCalls Tryz.prog 181 ⟨[.slice x0.p x0.n x0.c, .int .u64 x1]⟩ h fun _ h' => K h'

/-- internal/strconv.formatBits -/
def C182 (x0 : Sl) (x1 : Int) (x2 : Int) (x3 : Bool) (x4 : Bool) (h : Hp) (K : Sl → ByteArray → Hp → Prop) : Prop :=
  HCalls Tryz.prog 182 ⟨[.slice x0.p x0.n x0.c, .int .u64 x1, .int .i64 x2, .bool x3, .bool x4]⟩ h fun v h' => tupOn [.c (.slice), .c (.str)] v fun r => K r.1 r.2 h'

/-- internal/strconv.ParseInt -/
def C183 (x0 : ByteArray) (x1 : Int) (x2 : Int) (h : Hp) (K : Int → Value → Hp → Prop) : Prop :=
  HCalls Tryz.prog 183 ⟨[.string x0, .int .i64 x1, .int .i64 x2]⟩ h fun v h' => tupOn [.c (.int .i64), .c (.any)] v fun r => K r.1 r.2 h'

/-- strconv.syntaxError -/
def C184 (x0 : ByteArray) (x1 : ByteArray) (h : Hp) (K : Option Addr → Hp → Prop) : Prop :=
  HCalls Tryz.prog 184 ⟨[.string x0, .string x1]⟩ h fun v h' => VT.on (.c (.ptr)) (some v) fun r => K r h'

/-- strconv.rangeError -/
def C185 (x0 : ByteArray) (x1 : ByteArray) (h : Hp) (K : Option Addr → Hp → Prop) : Prop :=
  HCalls Tryz.prog 185 ⟨[.string x0, .string x1]⟩ h fun v h' => VT.on (.c (.ptr)) (some v) fun r => K r h'

/-- strconv.baseError -/
def C186 (x0 : ByteArray) (x1 : ByteArray) (x2 : Int) (h : Hp) (K : Option Addr → Hp → Prop) : Prop :=
  HCalls Tryz.prog 186 ⟨[.string x0, .string x1, .int .i64 x2]⟩ h fun v h' => VT.on (.c (.ptr)) (some v) fun r => K r h'

/-- strconv.bitSizeError -/
def C187 (x0 : ByteArray) (x1 : ByteArray) (x2 : Int) (h : Hp) (K : Option Addr → Hp → Prop) : Prop :=
  HCalls Tryz.prog 187 ⟨[.string x0, .string x1, .int .i64 x2]⟩ h fun v h' => VT.on (.c (.ptr)) (some v) fun r => K r h'

/-- internal/bytealg.hashStr[[]byte] -/
def C189 (x0 : Sl) (h : Hp) (K : Int → Int → Hp → Prop) : Prop :=
  HCalls Tryz.prog 189 ⟨[.slice x0.p x0.n x0.c]⟩ h fun v h' => tupOn [.c (.int .u32), .c (.int .u32)] v fun r => K r.1 r.2 h'

/-- internal/strconv.log10Pow2 -/
def C190 (x0 : Int) (h : Hp) (K : Int → Hp → Prop) : Prop :=
  HCalls Tryz.prog 190 ⟨[.int .i64 x0]⟩ h fun v h' => VT.on (.c (.int .i64)) (some v) fun r => K r h'

/-- math/bits.Len64 -/
def C191 (x0 : Int) (h : Hp) (K : Int → Hp → Prop) : Prop :=
  HCalls Tryz.prog 191 ⟨[.int .u64 x0]⟩ h fun v h' => VT.on (.c (.int .i64)) (some v) fun r => K r h'

/-- internal/strconv.bool2[int] -/
def C192 (x0 : Bool) (h : Hp) (K : Int → Hp → Prop) : Prop :=
  HCalls Tryz.prog 192 ⟨[.bool x0]⟩ h fun v h' => VT.on (.c (.int .i64)) (some v) fun r => K r h'

/-- internal/strconv.isPowerOfTwo -/
def C193 (x0 : Int) (h : Hp) (K : Bool → Hp → Prop) : Prop :=
  HCalls Tryz.prog 193 ⟨[.int .i64 x0]⟩ h fun v h' => VT.on (.c (.bool)) (some v) fun r => K r h'

/-- math/bits.TrailingZeros -/
def C194 (x0 : Int) (h : Hp) (K : Int → Hp → Prop) : Prop :=
  HCalls Tryz.prog 194 ⟨[.int .u64 x0]⟩ h fun v h' => VT.on (.c (.int .i64)) (some v) fun r => K r h'

/-- internal/strconv.ParseUint -/
def C195 (x0 : ByteArray) (x1 : Int) (x2 : Int) (h : Hp) (K : Int → Value → Hp → Prop) : Prop :=
  HCalls Tryz.prog 195 ⟨[.string x0, .int .i64 x1, .int .i64 x2]⟩ h fun v h' => tupOn [.c (.int .u64), .c (.any)] v fun r => K r.1 r.2 h'

/-- internal/stringslite.Clone -/
def C196 (x0 : ByteArray) (h : Hp) (K : ByteArray → Hp → Prop) : Prop :=
  HCalls Tryz.prog 196 ⟨[.string x0]⟩ h fun v h' => VT.on (.c (.str)) (some v) fun r => K r h'

/-- errors.New -/
def C197 (x0 : ByteArray) (h : Hp) (K : Value → Hp → Prop) : Prop :=
  HCalls Tryz.prog 197 ⟨[.string x0]⟩ h fun v h' => VT.on (.c (.any)) (some v) fun r => K r h'

/-- math/bits.TrailingZeros32 -/
def C198 (x0 : Int) (h : Hp) (K : Int → Hp → Prop) : Prop :=
  HCalls Tryz.prog 198 ⟨[.int .u32 x0]⟩ h fun v h' => VT.on (.c (.int .i64)) (some v) fun r => K r h'

/-- math/bits.TrailingZeros64 -/
def C199 (x0 : Int) (h : Hp) (K : Int → Hp → Prop) : Prop :=
  HCalls Tryz.prog 199 ⟨[.int .u64 x0]⟩ h fun v h' => VT.on (.c (.int .i64)) (some v) fun r => K r h'

/-- internal/strconv.lower -/
def C200 (x0 : Int) (h : Hp) (K : Int → Hp → Prop) : Prop :=
  HCalls Tryz.prog 200 ⟨[.int .u8 x0]⟩ h fun v h' => VT.on (.c (.int .u8)) (some v) fun r => K r h'

/-- internal/strconv.underscoreOK -/
def C201 (x0 : ByteArray) (h : Hp) (K : Bool → Hp → Prop) : Prop :=
  HCalls Tryz.prog 201 ⟨[.string x0]⟩ h fun v h' => VT.on (.c (.bool)) (some v) fun r => K r h'

/-- (*strconv.NumError).Unwrap -/
def C232 (x0 : Option Addr) (h : Hp) (K : Value → Hp → Prop) : Prop :=
  HCalls Tryz.prog 232 ⟨[.pointer x0]⟩ h fun v h' => VT.on (.c (.any)) (some v) fun r => K r h'

/-- gosem.cut.vars -/
def C245  (h : Hp) (K : Hp → Prop) : Prop :=
  HCalls Tryz.prog 245 ⟨[]⟩ h fun _ h' => K h'

end Go.Proofs.YtfedjbekelfnpaaGreatDoor

set_option linter.unusedVariables false
set_option maxRecDepth 100000
namespace Go.Proofs.YtfedjbekelfnpaaGreatDoor
open Go Go.Hw
/-! ### 31 slipway/octet.IsHost -/
noncomputable def B31 : Code := match Tryz.f31.body with | some c => c | none => .skip
def N31 (x0 : Int) (h : Hp) (K : Bool → Hp → Prop) : Prop :=
  bif (decide ((Int.fdiv x0 (2 ^ 24)) > 0)) then
    bif (decide ((Int.fdiv x0 (2 ^ 24)) < 224)) then
      K ((Int.fdiv x0 (2 ^ 24)) != 127) h
    else
      K false h
  else
    K false h
theorem S31 {x0 : Int} {h : Hp} {K : Bool → Hp → Prop} (hn : N31 x0 h K) : C31 x0 h K := by
  refine calls_of_D Tryz.func31 (c := B31) rfl (by kernel_rfl) ?_
  refine den_sound hE hm _ .leaf _ _ _ (annOk_leaf) ?_
  refine cast ?_ hn
  kernel_rfl
end Go.Proofs.YtfedjbekelfnpaaGreatDoor

set_option linter.unusedVariables false
set_option maxRecDepth 100000
namespace Go.Proofs.YtfedjbekelfnpaaGreatDoor
open Go Go.Hw
/-! ### 32 slipway/slipwayref01.IsHost -/
noncomputable def B32 : Code := match Tryz.f32.body with | some c => c | none => .skip
def N32 (x0 : Int) (h : Hp) (K : Bool → Hp → Prop) : Prop :=
  bif (decide ((IntKind.wrap .u32 (Int.tdiv x0 16777216)) ≥ 1)) then
    bif (decide ((IntKind.wrap .u32 (Int.tdiv x0 16777216)) ≤ 223)) then
      K ((IntKind.wrap .u32 (Int.tdiv x0 16777216)) != 127) h
    else
      K false h
  else
    K false h
theorem S32 {x0 : Int} {h : Hp} {K : Bool → Hp → Prop} (hn : N32 x0 h K) : C32 x0 h K := by
  refine calls_of_D Tryz.func32 (c := B32) rfl (by kernel_rfl) ?_
  refine den_sound hE hm _ .leaf _ _ _ (annOk_leaf) ?_
  refine cast ?_ hn
  kernel_rfl
end Go.Proofs.YtfedjbekelfnpaaGreatDoor

set_option linter.unusedVariables false
set_option maxRecDepth 100000
namespace Go.Proofs.YtfedjbekelfnpaaGreatDoor
open Go Go.Hw
/-! ### 30 strings.Contains -/
noncomputable def B30 : Code := match Tryz.f30.body with | some c => c | none => .skip
def N30 (x0 : ByteArray) (x1 : ByteArray) (h : Hp) (K : Bool → Hp → Prop) : Prop :=
  C75 x0 x1 h fun n0 h0 =>
  K (decide (n0 ≥ 0)) h0
theorem S30 {x0 : ByteArray} {x1 : ByteArray} {h : Hp} {K : Bool → Hp → Prop} (hn : N30 x0 x1 h K) : C30 x0 x1 h K := by
  refine calls_of_D Tryz.func30 (c := B30) rfl (by kernel_rfl) ?_
  refine den_sound hE hm _ .leaf _ _ _ (annOk_leaf) ?_
  refine cast ?_ hn
  kernel_rfl
end Go.Proofs.YtfedjbekelfnpaaGreatDoor

set_option linter.unusedVariables false
set_option maxRecDepth 100000
namespace Go.Proofs.YtfedjbekelfnpaaGreatDoor
open Go Go.Hw
/-! ### 29 slipway/digest.New -/
noncomputable def B29 : Code := match Tryz.f29.body with | some c => c | none => .skip
def N29  (h : Hp) (K : Option Addr → Hp → Prop) : Prop :=
  nw h (.cells ⟨[.int .u32 1779033703, .int .u32 3144134277, .int .u32 1013904242, .int .u32 2773480762, .int .u32 1359893119, .int .u32 2600822924, .int .u32 528734635, .int .u32 1541459225, .int .u8 0, .int .u8 0, .int .u8 0, .int .u8 0, .int .u8 0, .int .u8 0, .int .u8 0, .int .u8 0, .int .u8 0, .int .u8 0, .int .u8 0, .int .u8 0, .int .u8 0, .int .u8 0, .int .u8 0, .int .u8 0, .int .u8 0, .int .u8 0, .int .u8 0, .int .u8 0, .int .u8 0, .int .u8 0, .int .u8 0, .int .u8 0, .int .u8 0, .int .u8 0, .int .u8 0, .int .u8 0, .int .u8 0, .int .u8 0, .int .u8 0, .int .u8 0, .int .u8 0, .int .u8 0, .int .u8 0, .int .u8 0, .int .u8 0, .int .u8 0, .int .u8 0, .int .u8 0, .int .u8 0, .int .u8 0, .int .u8 0, .int .u8 0, .int .u8 0, .int .u8 0, .int .u8 0, .int .u8 0, .int .u8 0, .int .u8 0, .int .u8 0, .int .u8 0, .int .u8 0, .int .u8 0, .int .u8 0, .int .u8 0, .int .u8 0, .int .u8 0, .int .u8 0, .int .u8 0, .int .u8 0, .int .u8 0, .int .u8 0, .int .u8 0, .int .i64 0]⟩ 139) fun b0 h0 =>
  K (some (bk b0)) h0
theorem S29 {h : Hp} {K : Option Addr → Hp → Prop} (hn : N29 h K) : C29 h K := by
  refine calls_of_D Tryz.func29 (c := B29) rfl (by kernel_rfl) ?_
  refine den_sound hE hm _ .leaf _ _ _ (annOk_leaf) ?_
  refine cast ?_ hn
  kernel_rfl
end Go.Proofs.YtfedjbekelfnpaaGreatDoor

set_option linter.unusedVariables false
set_option maxRecDepth 100000
namespace Go.Proofs.YtfedjbekelfnpaaGreatDoor
open Go Go.Hw
/-! ### 9 slipway/hold.New -/
noncomputable def B9 : Code := match Tryz.f9.body with | some c => c | none => .skip
def N9 (x0 : Int) (x1_0 : Int) (x1_1 : Int) (x1_2 : Int) (x1_3 : Int) (x1_4 : Int) (x1_5 : Int) (x1_6 : Int) (x1_7 : Int) (x1_8 : Int) (x1_9 : Int) (x1_10 : Int) (x1_11 : Int) (x1_12 : Int) (x1_13 : Int) (x1_14 : Int) (x1_15 : Int) (x1_16 : Int) (x1_17 : Int) (x1_18 : Int) (x1_19 : Int) (x1_20 : Int) (x1_21 : Int) (x1_22 : Int) (x1_23 : Int) (x1_24 : Int) (x1_25 : Int) (x1_26 : Int) (x1_27 : Int) (x1_28 : Int) (x1_29 : Int) (x1_30 : Int) (x1_31 : Int) (h : Hp) (K : Option Addr → Hp → Prop) : Prop :=
  nw h (.cells ⟨[.int .u8 x1_0, .int .u8 x1_1, .int .u8 x1_2, .int .u8 x1_3, .int .u8 x1_4, .int .u8 x1_5, .int .u8 x1_6, .int .u8 x1_7, .int .u8 x1_8, .int .u8 x1_9, .int .u8 x1_10, .int .u8 x1_11, .int .u8 x1_12, .int .u8 x1_13, .int .u8 x1_14, .int .u8 x1_15, .int .u8 x1_16, .int .u8 x1_17, .int .u8 x1_18, .int .u8 x1_19, .int .u8 x1_20, .int .u8 x1_21, .int .u8 x1_22, .int .u8 x1_23, .int .u8 x1_24, .int .u8 x1_25, .int .u8 x1_26, .int .u8 x1_27, .int .u8 x1_28, .int .u8 x1_29, .int .u8 x1_30, .int .u8 x1_31]⟩ 27) fun b0 h0 =>
  bif (decide (x0 < 0)) then
    K none h0
  else
    bif (decide (x0 > 16777216)) then
      K none h0
    else
      xI .u8 (cell h0 (bk b0)) fun n0 =>
      xI .u8 (cell h0 ((bk b0).add 1)) fun n1 =>
      xI .u8 (cell h0 ((bk b0).add 2)) fun n2 =>
      xI .u8 (cell h0 ((bk b0).add 3)) fun n3 =>
      xI .u8 (cell h0 ((bk b0).add 4)) fun n4 =>
      xI .u8 (cell h0 ((bk b0).add 5)) fun n5 =>
      xI .u8 (cell h0 ((bk b0).add 6)) fun n6 =>
      xI .u8 (cell h0 ((bk b0).add 7)) fun n7 =>
      xI .u8 (cell h0 ((bk b0).add 8)) fun n8 =>
      xI .u8 (cell h0 ((bk b0).add 9)) fun n9 =>
      xI .u8 (cell h0 ((bk b0).add 10)) fun n10 =>
      xI .u8 (cell h0 ((bk b0).add 11)) fun n11 =>
      xI .u8 (cell h0 ((bk b0).add 12)) fun n12 =>
      xI .u8 (cell h0 ((bk b0).add 13)) fun n13 =>
      xI .u8 (cell h0 ((bk b0).add 14)) fun n14 =>
      xI .u8 (cell h0 ((bk b0).add 15)) fun n15 =>
      xI .u8 (cell h0 ((bk b0).add 16)) fun n16 =>
      xI .u8 (cell h0 ((bk b0).add 17)) fun n17 =>
      xI .u8 (cell h0 ((bk b0).add 18)) fun n18 =>
      xI .u8 (cell h0 ((bk b0).add 19)) fun n19 =>
      xI .u8 (cell h0 ((bk b0).add 20)) fun n20 =>
      xI .u8 (cell h0 ((bk b0).add 21)) fun n21 =>
      xI .u8 (cell h0 ((bk b0).add 22)) fun n22 =>
      xI .u8 (cell h0 ((bk b0).add 23)) fun n23 =>
      xI .u8 (cell h0 ((bk b0).add 24)) fun n24 =>
      xI .u8 (cell h0 ((bk b0).add 25)) fun n25 =>
      xI .u8 (cell h0 ((bk b0).add 26)) fun n26 =>
      xI .u8 (cell h0 ((bk b0).add 27)) fun n27 =>
      xI .u8 (cell h0 ((bk b0).add 28)) fun n28 =>
      xI .u8 (cell h0 ((bk b0).add 29)) fun n29 =>
      xI .u8 (cell h0 ((bk b0).add 30)) fun n30 =>
      xI .u8 (cell h0 ((bk b0).add 31)) fun n31 =>
      C29 h0 fun p0 h1 =>
      both (xI .u8 (cell h1 (bk b0)) fun n32 => xI .u8 (cell h1 ((bk b0).add 1)) fun n33 => xI .u8 (cell h1 ((bk b0).add 2)) fun n34 => xI .u8 (cell h1 ((bk b0).add 3)) fun n35 => xI .u8 (cell h1 ((bk b0).add 4)) fun n36 => xI .u8 (cell h1 ((bk b0).add 5)) fun n37 => xI .u8 (cell h1 ((bk b0).add 6)) fun n38 => xI .u8 (cell h1 ((bk b0).add 7)) fun n39 => xI .u8 (cell h1 ((bk b0).add 8)) fun n40 => xI .u8 (cell h1 ((bk b0).add 9)) fun n41 => xI .u8 (cell h1 ((bk b0).add 10)) fun n42 => xI .u8 (cell h1 ((bk b0).add 11)) fun n43 => xI .u8 (cell h1 ((bk b0).add 12)) fun n44 => xI .u8 (cell h1 ((bk b0).add 13)) fun n45 => xI .u8 (cell h1 ((bk b0).add 14)) fun n46 => xI .u8 (cell h1 ((bk b0).add 15)) fun n47 => xI .u8 (cell h1 ((bk b0).add 16)) fun n48 => xI .u8 (cell h1 ((bk b0).add 17)) fun n49 => xI .u8 (cell h1 ((bk b0).add 18)) fun n50 => xI .u8 (cell h1 ((bk b0).add 19)) fun n51 => xI .u8 (cell h1 ((bk b0).add 20)) fun n52 => xI .u8 (cell h1 ((bk b0).add 21)) fun n53 => xI .u8 (cell h1 ((bk b0).add 22)) fun n54 => xI .u8 (cell h1 ((bk b0).add 23)) fun n55 => xI .u8 (cell h1 ((bk b0).add 24)) fun n56 => xI .u8 (cell h1 ((bk b0).add 25)) fun n57 => xI .u8 (cell h1 ((bk b0).add 26)) fun n58 => xI .u8 (cell h1 ((bk b0).add 27)) fun n59 => xI .u8 (cell h1 ((bk b0).add 28)) fun n60 => xI .u8 (cell h1 ((bk b0).add 29)) fun n61 => xI .u8 (cell h1 ((bk b0).add 30)) fun n62 => xI .u8 (cell h1 ((bk b0).add 31)) fun n63 => Only (.agg ⟨[.int .u8 n0, .int .u8 n1, .int .u8 n2, .int .u8 n3, .int .u8 n4, .int .u8 n5, .int .u8 n6, .int .u8 n7, .int .u8 n8, .int .u8 n9, .int .u8 n10, .int .u8 n11, .int .u8 n12, .int .u8 n13, .int .u8 n14, .int .u8 n15, .int .u8 n16, .int .u8 n17, .int .u8 n18, .int .u8 n19, .int .u8 n20, .int .u8 n21, .int .u8 n22, .int .u8 n23, .int .u8 n24, .int .u8 n25, .int .u8 n26, .int .u8 n27, .int .u8 n28, .int .u8 n29, .int .u8 n30, .int .u8 n31]⟩) h1 (.agg ⟨[.int .u8 n32, .int .u8 n33, .int .u8 n34, .int .u8 n35, .int .u8 n36, .int .u8 n37, .int .u8 n38, .int .u8 n39, .int .u8 n40, .int .u8 n41, .int .u8 n42, .int .u8 n43, .int .u8 n44, .int .u8 n45, .int .u8 n46, .int .u8 n47, .int .u8 n48, .int .u8 n49, .int .u8 n50, .int .u8 n51, .int .u8 n52, .int .u8 n53, .int .u8 n54, .int .u8 n55, .int .u8 n56, .int .u8 n57, .int .u8 n58, .int .u8 n59, .int .u8 n60, .int .u8 n61, .int .u8 n62, .int .u8 n63]⟩) h1) <|
      nw h1 (.cells ⟨[.slice none 0 0, .pointer p0, .int .i64 x0, .int .u8 n0, .int .u8 n1, .int .u8 n2, .int .u8 n3, .int .u8 n4, .int .u8 n5, .int .u8 n6, .int .u8 n7, .int .u8 n8, .int .u8 n9, .int .u8 n10, .int .u8 n11, .int .u8 n12, .int .u8 n13, .int .u8 n14, .int .u8 n15, .int .u8 n16, .int .u8 n17, .int .u8 n18, .int .u8 n19, .int .u8 n20, .int .u8 n21, .int .u8 n22, .int .u8 n23, .int .u8 n24, .int .u8 n25, .int .u8 n26, .int .u8 n27, .int .u8 n28, .int .u8 n29, .int .u8 n30, .int .u8 n31, .bool false]⟩ 90) fun b1 h2 =>
      K (some (bk b1)) h2
theorem S9 {x0 : Int} {x1_0 : Int} {x1_1 : Int} {x1_2 : Int} {x1_3 : Int} {x1_4 : Int} {x1_5 : Int} {x1_6 : Int} {x1_7 : Int} {x1_8 : Int} {x1_9 : Int} {x1_10 : Int} {x1_11 : Int} {x1_12 : Int} {x1_13 : Int} {x1_14 : Int} {x1_15 : Int} {x1_16 : Int} {x1_17 : Int} {x1_18 : Int} {x1_19 : Int} {x1_20 : Int} {x1_21 : Int} {x1_22 : Int} {x1_23 : Int} {x1_24 : Int} {x1_25 : Int} {x1_26 : Int} {x1_27 : Int} {x1_28 : Int} {x1_29 : Int} {x1_30 : Int} {x1_31 : Int} {h : Hp} {K : Option Addr → Hp → Prop} (hn : N9 x0 x1_0 x1_1 x1_2 x1_3 x1_4 x1_5 x1_6 x1_7 x1_8 x1_9 x1_10 x1_11 x1_12 x1_13 x1_14 x1_15 x1_16 x1_17 x1_18 x1_19 x1_20 x1_21 x1_22 x1_23 x1_24 x1_25 x1_26 x1_27 x1_28 x1_29 x1_30 x1_31 h K) : C9 x0 x1_0 x1_1 x1_2 x1_3 x1_4 x1_5 x1_6 x1_7 x1_8 x1_9 x1_10 x1_11 x1_12 x1_13 x1_14 x1_15 x1_16 x1_17 x1_18 x1_19 x1_20 x1_21 x1_22 x1_23 x1_24 x1_25 x1_26 x1_27 x1_28 x1_29 x1_30 x1_31 h K := by
  refine calls_of_D Tryz.func9 (c := B9) rfl (by kernel_rfl) ?_
  refine den_sound hE hm _ (.two .leaf (.two .leaf (.two (.ord [1, 2, 0, 3, 4, 5]) .leaf))) _ _ _ (⟨annOk_leaf, ⟨annOk_leaf, ⟨trivial, annOk_leaf⟩⟩⟩) ?_
  refine cast ?_ hn
  kernel_rfl
end Go.Proofs.YtfedjbekelfnpaaGreatDoor

set_option linter.unusedVariables false
set_option maxRecDepth 100000
namespace Go.Proofs.YtfedjbekelfnpaaGreatDoor
open Go Go.Hw
/-! ### 10 slipway/slipwayref19.New -/
noncomputable def B10 : Code := match Tryz.f10.body with | some c => c | none => .skip
def N10 (x0 : Int) (x1_0 : Int) (x1_1 : Int) (x1_2 : Int) (x1_3 : Int) (x1_4 : Int) (x1_5 : Int) (x1_6 : Int) (x1_7 : Int) (x1_8 : Int) (x1_9 : Int) (x1_10 : Int) (x1_11 : Int) (x1_12 : Int) (x1_13 : Int) (x1_14 : Int) (x1_15 : Int) (x1_16 : Int) (x1_17 : Int) (x1_18 : Int) (x1_19 : Int) (x1_20 : Int) (x1_21 : Int) (x1_22 : Int) (x1_23 : Int) (x1_24 : Int) (x1_25 : Int) (x1_26 : Int) (x1_27 : Int) (x1_28 : Int) (x1_29 : Int) (x1_30 : Int) (x1_31 : Int) (h : Hp) (K : Option Addr → Hp → Prop) : Prop :=
  nw h (.cells ⟨[.int .u8 x1_0, .int .u8 x1_1, .int .u8 x1_2, .int .u8 x1_3, .int .u8 x1_4, .int .u8 x1_5, .int .u8 x1_6, .int .u8 x1_7, .int .u8 x1_8, .int .u8 x1_9, .int .u8 x1_10, .int .u8 x1_11, .int .u8 x1_12, .int .u8 x1_13, .int .u8 x1_14, .int .u8 x1_15, .int .u8 x1_16, .int .u8 x1_17, .int .u8 x1_18, .int .u8 x1_19, .int .u8 x1_20, .int .u8 x1_21, .int .u8 x1_22, .int .u8 x1_23, .int .u8 x1_24, .int .u8 x1_25, .int .u8 x1_26, .int .u8 x1_27, .int .u8 x1_28, .int .u8 x1_29, .int .u8 x1_30, .int .u8 x1_31]⟩ 27) fun b0 h0 =>
  bif (decide (x0 < 0)) then
    K none h0
  else
    bif (decide (x0 > 16777216)) then
      K none h0
    else
      xI .u8 (cell h0 (bk b0)) fun n0 =>
      xI .u8 (cell h0 ((bk b0).add 1)) fun n1 =>
      xI .u8 (cell h0 ((bk b0).add 2)) fun n2 =>
      xI .u8 (cell h0 ((bk b0).add 3)) fun n3 =>
      xI .u8 (cell h0 ((bk b0).add 4)) fun n4 =>
      xI .u8 (cell h0 ((bk b0).add 5)) fun n5 =>
      xI .u8 (cell h0 ((bk b0).add 6)) fun n6 =>
      xI .u8 (cell h0 ((bk b0).add 7)) fun n7 =>
      xI .u8 (cell h0 ((bk b0).add 8)) fun n8 =>
      xI .u8 (cell h0 ((bk b0).add 9)) fun n9 =>
      xI .u8 (cell h0 ((bk b0).add 10)) fun n10 =>
      xI .u8 (cell h0 ((bk b0).add 11)) fun n11 =>
      xI .u8 (cell h0 ((bk b0).add 12)) fun n12 =>
      xI .u8 (cell h0 ((bk b0).add 13)) fun n13 =>
      xI .u8 (cell h0 ((bk b0).add 14)) fun n14 =>
      xI .u8 (cell h0 ((bk b0).add 15)) fun n15 =>
      xI .u8 (cell h0 ((bk b0).add 16)) fun n16 =>
      xI .u8 (cell h0 ((bk b0).add 17)) fun n17 =>
      xI .u8 (cell h0 ((bk b0).add 18)) fun n18 =>
      xI .u8 (cell h0 ((bk b0).add 19)) fun n19 =>
      xI .u8 (cell h0 ((bk b0).add 20)) fun n20 =>
      xI .u8 (cell h0 ((bk b0).add 21)) fun n21 =>
      xI .u8 (cell h0 ((bk b0).add 22)) fun n22 =>
      xI .u8 (cell h0 ((bk b0).add 23)) fun n23 =>
      xI .u8 (cell h0 ((bk b0).add 24)) fun n24 =>
      xI .u8 (cell h0 ((bk b0).add 25)) fun n25 =>
      xI .u8 (cell h0 ((bk b0).add 26)) fun n26 =>
      xI .u8 (cell h0 ((bk b0).add 27)) fun n27 =>
      xI .u8 (cell h0 ((bk b0).add 28)) fun n28 =>
      xI .u8 (cell h0 ((bk b0).add 29)) fun n29 =>
      xI .u8 (cell h0 ((bk b0).add 30)) fun n30 =>
      xI .u8 (cell h0 ((bk b0).add 31)) fun n31 =>
      nw h0 (.cells ⟨[.slice none 0 0, .int .i64 x0, .int .u8 n0, .int .u8 n1, .int .u8 n2, .int .u8 n3, .int .u8 n4, .int .u8 n5, .int .u8 n6, .int .u8 n7, .int .u8 n8, .int .u8 n9, .int .u8 n10, .int .u8 n11, .int .u8 n12, .int .u8 n13, .int .u8 n14, .int .u8 n15, .int .u8 n16, .int .u8 n17, .int .u8 n18, .int .u8 n19, .int .u8 n20, .int .u8 n21, .int .u8 n22, .int .u8 n23, .int .u8 n24, .int .u8 n25, .int .u8 n26, .int .u8 n27, .int .u8 n28, .int .u8 n29, .int .u8 n30, .int .u8 n31, .bool false]⟩ 92) fun b1 h1 =>
      K (some (bk b1)) h1
theorem S10 {x0 : Int} {x1_0 : Int} {x1_1 : Int} {x1_2 : Int} {x1_3 : Int} {x1_4 : Int} {x1_5 : Int} {x1_6 : Int} {x1_7 : Int} {x1_8 : Int} {x1_9 : Int} {x1_10 : Int} {x1_11 : Int} {x1_12 : Int} {x1_13 : Int} {x1_14 : Int} {x1_15 : Int} {x1_16 : Int} {x1_17 : Int} {x1_18 : Int} {x1_19 : Int} {x1_20 : Int} {x1_21 : Int} {x1_22 : Int} {x1_23 : Int} {x1_24 : Int} {x1_25 : Int} {x1_26 : Int} {x1_27 : Int} {x1_28 : Int} {x1_29 : Int} {x1_30 : Int} {x1_31 : Int} {h : Hp} {K : Option Addr → Hp → Prop} (hn : N10 x0 x1_0 x1_1 x1_2 x1_3 x1_4 x1_5 x1_6 x1_7 x1_8 x1_9 x1_10 x1_11 x1_12 x1_13 x1_14 x1_15 x1_16 x1_17 x1_18 x1_19 x1_20 x1_21 x1_22 x1_23 x1_24 x1_25 x1_26 x1_27 x1_28 x1_29 x1_30 x1_31 h K) : C10 x0 x1_0 x1_1 x1_2 x1_3 x1_4 x1_5 x1_6 x1_7 x1_8 x1_9 x1_10 x1_11 x1_12 x1_13 x1_14 x1_15 x1_16 x1_17 x1_18 x1_19 x1_20 x1_21 x1_22 x1_23 x1_24 x1_25 x1_26 x1_27 x1_28 x1_29 x1_30 x1_31 h K := by
  refine calls_of_D Tryz.func10 (c := B10) rfl (by kernel_rfl) ?_
  refine den_sound hE hm _ .leaf _ _ _ (annOk_leaf) ?_
  refine cast ?_ hn
  kernel_rfl
end Go.Proofs.YtfedjbekelfnpaaGreatDoor

set_option linter.unusedVariables false
set_option maxRecDepth 100000
namespace Go.Proofs.YtfedjbekelfnpaaGreatDoor
open Go Go.Hw
/-! ### 11 slipway/fetch.New -/
noncomputable def B11 : Code := match Tryz.f11.body with | some c => c | none => .skip
def N11_j0 (x1_h : Option Addr) (x2_c : Option Addr) (x5_name : Bool) (h : Hp) (K_ret : Option Addr → Hp → Prop) : Prop :=
  peq h x1_h none fun b0 =>
  bif b0 then
    K_ret none h
  else
    nn x2_c fun a0 =>
    xI .u32 (cell h a0) fun n0 =>
    C31 n0 h fun b1 h0 =>
    bif (!b1) then
      K_ret none h0
    else
      bif (!x5_name) then
        K_ret none h0
      else
        nn x2_c fun a1 =>
        xI .i64 (cell h0 (a1.add 2)) fun n1 =>
        bif (decide (n1 < 8)) then
          K_ret none h0
        else
          nn x2_c fun a2 =>
          xI .i64 (cell h0 (a2.add 2)) fun n2 =>
          bif (decide (n2 > 1428)) then
            K_ret none h0
          else
            nn x2_c fun a3 =>
            xI .i64 (cell h0 (a3.add 3)) fun n3 =>
            bif (decide (n3 < 1)) then
              K_ret none h0
            else
              nn x2_c fun a4 =>
              xI .i64 (cell h0 (a4.add 3)) fun n4 =>
              bif (decide (n4 > 64)) then
                K_ret none h0
              else
                nn x2_c fun a5 =>
                xI .u32 (cell h0 a5) fun n5 =>
                xS (cell h0 (a5.add 1)) fun s0 =>
                xI .i64 (cell h0 (a5.add 2)) fun n6 =>
                xI .i64 (cell h0 (a5.add 3)) fun n7 =>
                nw h0 (.cells ⟨[.int .u32 n5, .string s0, .int .i64 n6, .int .i64 n7, .pointer x1_h, .int .i64 0, .int .i64 0, .int .i64 0, .int .i64 0, .int .i64 0, .int .i64 0, .int .i64 0, .int .i64 (-1), .int .i64 0, .int .i64 0, .bool false, .slice none 0 0, .pointer none]⟩ 96) fun b2 h1 =>
                K_ret (some (bk b2)) h1
noncomputable def N11_j0_t : Xf := pieceT [(1, .c (.ptr)), (2, .c (.ptr)), (5, .c (.bool))] (codeAt B11 [1, 1]) fun x h Q => N11_j0 x.1 x.2.1 x.2.2 h (fun o0 h' => Q .ret (Sg.env [(4, .c (.ptr))] o0) h')
theorem N11_j0_ok : Sound Tryz.prog Tryz.f11.ntmps N11_j0_t (codeAt B11 [1, 1]) := by
  refine piece_sound (fun e => match e with | .ret => [4] | _ => []) ?_
  intro x h Q hb
  refine den_sound hE hm _ .leaf _ _ _ (annOk_leaf) ?_
  refine cast ?_ hb
  kernel_rfl
def N11 (x0_0 : Int) (x0_1 : ByteArray) (x0_2 : Int) (x0_3 : Int) (x1 : Option Addr) (h : Hp) (K : Option Addr → Hp → Prop) : Prop :=
  nw h (.cells ⟨[.int .u32 x0_0, .string x0_1, .int .i64 x0_2, .int .i64 x0_3]⟩ 26) fun b0 h0 =>
  xS (cell h0 ((bk b0).add 1)) fun s0 =>
  bif (decide ((s0.size : Int) ≥ 1)) then
    xS (cell h0 ((bk b0).add 1)) fun s1 =>
    bif (decide ((s1.size : Int) ≤ 64)) then
      xS (cell h0 ((bk b0).add 1)) fun s2 =>
      C30 s2 (⟨⟨[0]⟩⟩ : ByteArray) h0 fun b1 h1 =>
      N11_j0 x1 (some (bk b0)) (!b1) h1
        (fun p0 h2 =>
          K p0 h2)
    else
      N11_j0 x1 (some (bk b0)) false h0
        (fun p1 h3 =>
          K p1 h3)
  else
    N11_j0 x1 (some (bk b0)) false h0
      (fun p2 h4 =>
        K p2 h4)
theorem S11 {x0_0 : Int} {x0_1 : ByteArray} {x0_2 : Int} {x0_3 : Int} {x1 : Option Addr} {h : Hp} {K : Option Addr → Hp → Prop} (hn : N11 x0_0 x0_1 x0_2 x0_3 x1 h K) : C11 x0_0 x0_1 x0_2 x0_3 x1 h K := by
  refine calls_of_D Tryz.func11 (c := B11) rfl (by kernel_rfl) ?_
  refine den_sound hE hm _ (.two .leaf (.two .leaf (.xf N11_j0_t))) _ _ _ (⟨annOk_leaf, ⟨annOk_leaf, N11_j0_ok⟩⟩) ?_
  refine cast ?_ hn
  kernel_rfl
end Go.Proofs.YtfedjbekelfnpaaGreatDoor

set_option linter.unusedVariables false
set_option maxRecDepth 100000
namespace Go.Proofs.YtfedjbekelfnpaaGreatDoor
open Go Go.Hw
/-! ### 12 slipway/slipwayref21.New -/
noncomputable def B12 : Code := match Tryz.f12.body with | some c => c | none => .skip
def N12_l0_b (x1_h : Option Addr) (x2_c : Option Addr) (Φ : Int → Hp → Prop) (x6_i : Int) (h : Hp) (K_e0 : Hp → Prop) (K_ret : Option Addr → Hp → Prop) : Prop :=
  nn x2_c fun a0 =>
  xS (cell h (a0.add 1)) fun s0 =>
  bif (decide (x6_i < (s0.size : Int))) then
    nn x2_c fun a1 =>
    xS (cell h (a1.add 1)) fun s1 =>
    idx x6_i s1.size <|
    bif ((sbyte s1 x6_i) == 0) then
      K_ret none h
    else
      Φ (IntKind.wrap .i64 (x6_i + 1)) h
  else
    K_e0 h
def N12_l0_B (x1_h : Option Addr) (x2_c : Option Addr) (K_e0 : Hp → Prop) (K_ret : Option Addr → Hp → Prop) (s : Sg.T [(6, .c (.int .i64))]) (h : Hp) (Φ : Sg.T [(6, .c (.int .i64))] → Hp → Prop) : Prop :=
  N12_l0_b x1_h x2_c (fun x6_i h => Φ x6_i h) s h K_e0 K_ret
def N12_l0 (x1_h : Option Addr) (x2_c : Option Addr) (x6_i : Int) (h : Hp) (K_e0 : Hp → Prop) (K_ret : Option Addr → Hp → Prop) : Prop :=
  loopP (N12_l0_B x1_h x2_c K_e0 K_ret) x6_i h
noncomputable def N12_l0_t : Xf := loopT [(1, .c (.ptr)), (2, .c (.ptr))] [(6, .c (.int .i64))] (codeAt B12 [1, 1, 1, 0, 1, 0, 0]) fun F Q => N12_l0_B F.1 F.2 (fun h' => Q (.exit 0) (Sg.env [] ()) h') (fun o0 h' => Q .ret (Sg.env [(4, .c (.ptr))] o0) h')
theorem N12_l0_ok : Sound Tryz.prog Tryz.f12.ntmps N12_l0_t (codeAt B12 [1, 1, 1, 0, 1, 0]) := by
  refine loop_sound (fun e => match e with | .exit 0 => [] | .ret => [4] | _ => []) (by kernel_rfl) ?_
  intro F Q s h Φ hb
  refine den_sound hE hm _ .leaf _ _ _ (annOk_leaf) ?_
  refine cast ?_ hb
  kernel_rfl
def N12 (x0_0 : Int) (x0_1 : ByteArray) (x0_2 : Int) (x0_3 : Int) (x1 : Option Addr) (h : Hp) (K : Option Addr → Hp → Prop) : Prop :=
  nw h (.cells ⟨[.int .u32 x0_0, .string x0_1, .int .i64 x0_2, .int .i64 x0_3]⟩ 26) fun b0 h0 =>
  xI .u32 (cell h0 (bk b0)) fun n0 =>
  C32 n0 h0 fun b1 h1 =>
  peq h1 x1 none fun b2 =>
  bif b2 then
    K none h1
  else
    bif (!b1) then
      K none h1
    else
      xS (cell h1 ((bk b0).add 1)) fun s0 =>
      bif (decide ((s0.size : Int) < 1)) then
        K none h1
      else
        xS (cell h1 ((bk b0).add 1)) fun s1 =>
        bif (decide ((s1.size : Int) > 64)) then
          K none h1
        else
          xI .i64 (cell h1 ((bk b0).add 2)) fun n1 =>
          bif (decide (n1 < 8)) then
            K none h1
          else
            xI .i64 (cell h1 ((bk b0).add 2)) fun n2 =>
            bif (decide (n2 > 1428)) then
              K none h1
            else
              xI .i64 (cell h1 ((bk b0).add 3)) fun n3 =>
              bif (decide (n3 < 1)) then
                K none h1
              else
                xI .i64 (cell h1 ((bk b0).add 3)) fun n4 =>
                bif (decide (n4 > 64)) then
                  K none h1
                else
                  N12_l0 x1 (some (bk b0)) 0 h1
                    (fun h2 =>
                      xI .u32 (cell h2 (bk b0)) fun n5 =>
                      xS (cell h2 ((bk b0).add 1)) fun s2 =>
                      xI .i64 (cell h2 ((bk b0).add 2)) fun n6 =>
                      xI .i64 (cell h2 ((bk b0).add 3)) fun n7 =>
                      nw h2 (.cells ⟨[.int .u32 n5, .string s2, .int .i64 n6, .int .i64 n7, .pointer x1, .int .i64 0, .int .i64 0, .int .i64 0, .int .i64 0, .int .i64 0, .int .i64 0, .int .i64 0, .int .i64 (-1), .int .i64 0, .int .i64 0, .bool false, .slice none 0 0]⟩ 98) fun b3 h3 =>
                      K (some (bk b3)) h3)
                    (fun p0 h4 =>
                      K p0 h4)
theorem S12 {x0_0 : Int} {x0_1 : ByteArray} {x0_2 : Int} {x0_3 : Int} {x1 : Option Addr} {h : Hp} {K : Option Addr → Hp → Prop} (hn : N12 x0_0 x0_1 x0_2 x0_3 x1 h K) : C12 x0_0 x0_1 x0_2 x0_3 x1 h K := by
  refine calls_of_D Tryz.func12 (c := B12) rfl (by kernel_rfl) ?_
  refine den_sound hE hm _ (.two .leaf (.two .leaf (.two .leaf (.two (.two .leaf (.one (.xf N12_l0_t))) .leaf)))) _ _ _ (⟨annOk_leaf, ⟨annOk_leaf, ⟨annOk_leaf, ⟨⟨annOk_leaf, N12_l0_ok⟩, annOk_leaf⟩⟩⟩⟩) ?_
  refine cast ?_ hn
  kernel_rfl
end Go.Proofs.YtfedjbekelfnpaaGreatDoor

set_option linter.unusedVariables false
set_option maxRecDepth 100000
namespace Go.Proofs.YtfedjbekelfnpaaGreatDoor
open Go Go.Hw
/-! ### 4 slipway/slipwaylaw21.FetchNews -/
noncomputable def B4 : Code := match Tryz.f4.body with | some c => c | none => .skip
def N4 (x0_0 : Int) (x0_1 : ByteArray) (x0_2 : Int) (x0_3 : Int) (x1 : Int) (x2_0 : Int) (x2_1 : Int) (x2_2 : Int) (x2_3 : Int) (x2_4 : Int) (x2_5 : Int) (x2_6 : Int) (x2_7 : Int) (x2_8 : Int) (x2_9 : Int) (x2_10 : Int) (x2_11 : Int) (x2_12 : Int) (x2_13 : Int) (x2_14 : Int) (x2_15 : Int) (x2_16 : Int) (x2_17 : Int) (x2_18 : Int) (x2_19 : Int) (x2_20 : Int) (x2_21 : Int) (x2_22 : Int) (x2_23 : Int) (x2_24 : Int) (x2_25 : Int) (x2_26 : Int) (x2_27 : Int) (x2_28 : Int) (x2_29 : Int) (x2_30 : Int) (x2_31 : Int) (h : Hp) (K : Bool → Hp → Prop) : Prop :=
  nw h (.cells ⟨[.int .u32 x0_0, .string x0_1, .int .i64 x0_2, .int .i64 x0_3]⟩ 26) fun b0 h0 =>
  nw h0 (.cells ⟨[.int .u8 x2_0, .int .u8 x2_1, .int .u8 x2_2, .int .u8 x2_3, .int .u8 x2_4, .int .u8 x2_5, .int .u8 x2_6, .int .u8 x2_7, .int .u8 x2_8, .int .u8 x2_9, .int .u8 x2_10, .int .u8 x2_11, .int .u8 x2_12, .int .u8 x2_13, .int .u8 x2_14, .int .u8 x2_15, .int .u8 x2_16, .int .u8 x2_17, .int .u8 x2_18, .int .u8 x2_19, .int .u8 x2_20, .int .u8 x2_21, .int .u8 x2_22, .int .u8 x2_23, .int .u8 x2_24, .int .u8 x2_25, .int .u8 x2_26, .int .u8 x2_27, .int .u8 x2_28, .int .u8 x2_29, .int .u8 x2_30, .int .u8 x2_31]⟩ 27) fun b1 h1 =>
  C8 h1 fun b2 h2 =>
  xI .u8 (cell h2 (bk b1)) fun n0 =>
  xI .u8 (cell h2 ((bk b1).add 1)) fun n1 =>
  xI .u8 (cell h2 ((bk b1).add 2)) fun n2 =>
  xI .u8 (cell h2 ((bk b1).add 3)) fun n3 =>
  xI .u8 (cell h2 ((bk b1).add 4)) fun n4 =>
  xI .u8 (cell h2 ((bk b1).add 5)) fun n5 =>
  xI .u8 (cell h2 ((bk b1).add 6)) fun n6 =>
  xI .u8 (cell h2 ((bk b1).add 7)) fun n7 =>
  xI .u8 (cell h2 ((bk b1).add 8)) fun n8 =>
  xI .u8 (cell h2 ((bk b1).add 9)) fun n9 =>
  xI .u8 (cell h2 ((bk b1).add 10)) fun n10 =>
  xI .u8 (cell h2 ((bk b1).add 11)) fun n11 =>
  xI .u8 (cell h2 ((bk b1).add 12)) fun n12 =>
  xI .u8 (cell h2 ((bk b1).add 13)) fun n13 =>
  xI .u8 (cell h2 ((bk b1).add 14)) fun n14 =>
  xI .u8 (cell h2 ((bk b1).add 15)) fun n15 =>
  xI .u8 (cell h2 ((bk b1).add 16)) fun n16 =>
  xI .u8 (cell h2 ((bk b1).add 17)) fun n17 =>
  xI .u8 (cell h2 ((bk b1).add 18)) fun n18 =>
  xI .u8 (cell h2 ((bk b1).add 19)) fun n19 =>
  xI .u8 (cell h2 ((bk b1).add 20)) fun n20 =>
  xI .u8 (cell h2 ((bk b1).add 21)) fun n21 =>
  xI .u8 (cell h2 ((bk b1).add 22)) fun n22 =>
  xI .u8 (cell h2 ((bk b1).add 23)) fun n23 =>
  xI .u8 (cell h2 ((bk b1).add 24)) fun n24 =>
  xI .u8 (cell h2 ((bk b1).add 25)) fun n25 =>
  xI .u8 (cell h2 ((bk b1).add 26)) fun n26 =>
  xI .u8 (cell h2 ((bk b1).add 27)) fun n27 =>
  xI .u8 (cell h2 ((bk b1).add 28)) fun n28 =>
  xI .u8 (cell h2 ((bk b1).add 29)) fun n29 =>
  xI .u8 (cell h2 ((bk b1).add 30)) fun n30 =>
  xI .u8 (cell h2 ((bk b1).add 31)) fun n31 =>
  C9 x1 n0 n1 n2 n3 n4 n5 n6 n7 n8 n9 n10 n11 n12 n13 n14 n15 n16 n17 n18 n19 n20 n21 n22 n23 n24 n25 n26 n27 n28 n29 n30 n31 h2 fun p0 h3 =>
  xI .u8 (cell h3 (bk b1)) fun n32 =>
  xI .u8 (cell h3 ((bk b1).add 1)) fun n33 =>
  xI .u8 (cell h3 ((bk b1).add 2)) fun n34 =>
  xI .u8 (cell h3 ((bk b1).add 3)) fun n35 =>
  xI .u8 (cell h3 ((bk b1).add 4)) fun n36 =>
  xI .u8 (cell h3 ((bk b1).add 5)) fun n37 =>
  xI .u8 (cell h3 ((bk b1).add 6)) fun n38 =>
  xI .u8 (cell h3 ((bk b1).add 7)) fun n39 =>
  xI .u8 (cell h3 ((bk b1).add 8)) fun n40 =>
  xI .u8 (cell h3 ((bk b1).add 9)) fun n41 =>
  xI .u8 (cell h3 ((bk b1).add 10)) fun n42 =>
  xI .u8 (cell h3 ((bk b1).add 11)) fun n43 =>
  xI .u8 (cell h3 ((bk b1).add 12)) fun n44 =>
  xI .u8 (cell h3 ((bk b1).add 13)) fun n45 =>
  xI .u8 (cell h3 ((bk b1).add 14)) fun n46 =>
  xI .u8 (cell h3 ((bk b1).add 15)) fun n47 =>
  xI .u8 (cell h3 ((bk b1).add 16)) fun n48 =>
  xI .u8 (cell h3 ((bk b1).add 17)) fun n49 =>
  xI .u8 (cell h3 ((bk b1).add 18)) fun n50 =>
  xI .u8 (cell h3 ((bk b1).add 19)) fun n51 =>
  xI .u8 (cell h3 ((bk b1).add 20)) fun n52 =>
  xI .u8 (cell h3 ((bk b1).add 21)) fun n53 =>
  xI .u8 (cell h3 ((bk b1).add 22)) fun n54 =>
  xI .u8 (cell h3 ((bk b1).add 23)) fun n55 =>
  xI .u8 (cell h3 ((bk b1).add 24)) fun n56 =>
  xI .u8 (cell h3 ((bk b1).add 25)) fun n57 =>
  xI .u8 (cell h3 ((bk b1).add 26)) fun n58 =>
  xI .u8 (cell h3 ((bk b1).add 27)) fun n59 =>
  xI .u8 (cell h3 ((bk b1).add 28)) fun n60 =>
  xI .u8 (cell h3 ((bk b1).add 29)) fun n61 =>
  xI .u8 (cell h3 ((bk b1).add 30)) fun n62 =>
  xI .u8 (cell h3 ((bk b1).add 31)) fun n63 =>
  C10 x1 n32 n33 n34 n35 n36 n37 n38 n39 n40 n41 n42 n43 n44 n45 n46 n47 n48 n49 n50 n51 n52 n53 n54 n55 n56 n57 n58 n59 n60 n61 n62 n63 h3 fun p1 h4 =>
  xI .u32 (cell h4 (bk b0)) fun n64 =>
  xS (cell h4 ((bk b0).add 1)) fun s0 =>
  xI .i64 (cell h4 ((bk b0).add 2)) fun n65 =>
  xI .i64 (cell h4 ((bk b0).add 3)) fun n66 =>
  C11 n64 s0 n65 n66 p0 h4 fun p2 h5 =>
  xI .u32 (cell h5 (bk b0)) fun n67 =>
  xS (cell h5 ((bk b0).add 1)) fun s1 =>
  xI .i64 (cell h5 ((bk b0).add 2)) fun n68 =>
  xI .i64 (cell h5 ((bk b0).add 3)) fun n69 =>
  C12 n67 s1 n68 n69 p1 h5 fun p3 h6 =>
  xI .u32 (cell h6 (bk b0)) fun n70 =>
  xS (cell h6 ((bk b0).add 1)) fun s2 =>
  xI .i64 (cell h6 ((bk b0).add 2)) fun n71 =>
  xI .i64 (cell h6 ((bk b0).add 3)) fun n72 =>
  C11 n70 s2 n71 n72 none h6 fun p4 h7 =>
  bif b2 then
    peq h7 p0 none fun b3 =>
    peq h7 p1 none fun b4 =>
    bif (b3 == b4) then
      peq h7 p2 none fun b5 =>
      peq h7 p3 none fun b6 =>
      bif (b5 == b6) then
        peq h7 p4 none fun b7 =>
        K b7 h7
      else
        K false h7
    else
      K false h7
  else
    K false h7
theorem S4 {x0_0 : Int} {x0_1 : ByteArray} {x0_2 : Int} {x0_3 : Int} {x1 : Int} {x2_0 : Int} {x2_1 : Int} {x2_2 : Int} {x2_3 : Int} {x2_4 : Int} {x2_5 : Int} {x2_6 : Int} {x2_7 : Int} {x2_8 : Int} {x2_9 : Int} {x2_10 : Int} {x2_11 : Int} {x2_12 : Int} {x2_13 : Int} {x2_14 : Int} {x2_15 : Int} {x2_16 : Int} {x2_17 : Int} {x2_18 : Int} {x2_19 : Int} {x2_20 : Int} {x2_21 : Int} {x2_22 : Int} {x2_23 : Int} {x2_24 : Int} {x2_25 : Int} {x2_26 : Int} {x2_27 : Int} {x2_28 : Int} {x2_29 : Int} {x2_30 : Int} {x2_31 : Int} {h : Hp} {K : Bool → Hp → Prop} (hn : N4 x0_0 x0_1 x0_2 x0_3 x1 x2_0 x2_1 x2_2 x2_3 x2_4 x2_5 x2_6 x2_7 x2_8 x2_9 x2_10 x2_11 x2_12 x2_13 x2_14 x2_15 x2_16 x2_17 x2_18 x2_19 x2_20 x2_21 x2_22 x2_23 x2_24 x2_25 x2_26 x2_27 x2_28 x2_29 x2_30 x2_31 h K) : C4 x0_0 x0_1 x0_2 x0_3 x1 x2_0 x2_1 x2_2 x2_3 x2_4 x2_5 x2_6 x2_7 x2_8 x2_9 x2_10 x2_11 x2_12 x2_13 x2_14 x2_15 x2_16 x2_17 x2_18 x2_19 x2_20 x2_21 x2_22 x2_23 x2_24 x2_25 x2_26 x2_27 x2_28 x2_29 x2_30 x2_31 h K := by
  refine calls_of_D Tryz.func4 (c := B4) rfl (by kernel_rfl) ?_
  refine den_sound hE hm _ .leaf _ _ _ (annOk_leaf) ?_
  refine cast ?_ hn
  kernel_rfl
end Go.Proofs.YtfedjbekelfnpaaGreatDoor

/-
  Numbers of Go: what wraps, what bits do, in Lean's numbers.
-/
set_option linter.unusedSimpArgs false
set_option linter.unusedVariables false
namespace Go.Hw
open Go

theorem wu8 (x : Int) : IntKind.wrap .u8 x = x % 256 := by unfold IntKind.wrap; rfl
theorem wu16 (x : Int) : IntKind.wrap .u16 x = x % 65536 := by unfold IntKind.wrap; rfl
theorem wu32 (x : Int) : IntKind.wrap .u32 x = x % 4294967296 := by unfold IntKind.wrap; rfl
theorem wu64 (x : Int) : IntKind.wrap .u64 x = x % 18446744073709551616 := by unfold IntKind.wrap; rfl
theorem wu8i {x : Int} (h0 : 0 ≤ x) (h1 : x < 256) : IntKind.wrap .u8 x = x := by rw [wu8]; omega
theorem wu16i {x : Int} (h0 : 0 ≤ x) (h1 : x < 65536) : IntKind.wrap .u16 x = x := by rw [wu16]; omega
theorem wu32i {x : Int} (h0 : 0 ≤ x) (h1 : x < 4294967296) : IntKind.wrap .u32 x = x := by rw [wu32]; omega
theorem wu64i {x : Int} (h0 : 0 ≤ x) (h1 : x < 18446744073709551616) : IntKind.wrap .u64 x = x := by rw [wu64]; omega
theorem wi64i {x : Int} (h0 : -9223372036854775808 ≤ x) (h1 : x < 9223372036854775808) : IntKind.wrap .i64 x = x := wrap_id h0 (by omega)

theorem bvn (w : Nat) (n : Nat) (h : n < 2 ^ w) : (BitVec.ofInt w (n : Int)).toNat = n := by
  rw [BitVec.toNat_ofInt]
  have h2 : ((n : Int)) % ((2 ^ w : Nat) : Int) = n := Int.emod_eq_of_lt (by omega) (by exact_mod_cast h)
  simp only [h2]; simp
/-- and with ones below k -/
theorem band_low {w : Nat} {x : Int} (k : Nat) (h0 : 0 ≤ x) (h1 : x < 2 ^ w) (hk : k ≤ w) : ((BitVec.ofInt w x &&& BitVec.ofInt w (2 ^ k - 1)).toNat : Int) = x % 2 ^ k := by
  obtain ⟨n, rfl⟩ := Int.eq_ofNat_of_zero_le h0
  have hn : n < 2 ^ w := by exact_mod_cast h1
  have hm : (2 ^ k - 1 : Int) = ((2 ^ k - 1 : Nat) : Int) := by
    have : 1 ≤ 2 ^ k := Nat.one_le_two_pow
    rw [Int.natCast_sub this]; push_cast; rfl
  have hm2 : 2 ^ k - 1 < 2 ^ w := by
    have : 2 ^ k ≤ 2 ^ w := Nat.pow_le_pow_right (by omega) hk
    have : 1 ≤ 2 ^ k := Nat.one_le_two_pow
    omega
  rw [hm, BitVec.toNat_and, bvn w n hn, bvn w _ hm2, Nat.and_two_pow_sub_one_eq_mod]
  push_cast; rfl
/-- or with what is below -/
theorem bor_low {w : Nat} {x y : Int} (k : Nat) (hx0 : 0 ≤ x) (hx : x * 2 ^ k < 2 ^ w) (hy0 : 0 ≤ y) (hy : y < 2 ^ k) (hk : k ≤ w) : ((BitVec.ofInt w (x * 2 ^ k) ||| BitVec.ofInt w y).toNat : Int) = x * 2 ^ k + y := by
  obtain ⟨a, rfl⟩ := Int.eq_ofNat_of_zero_le hx0
  obtain ⟨b, rfl⟩ := Int.eq_ofNat_of_zero_le hy0
  have ha : a * 2 ^ k < 2 ^ w := by exact_mod_cast hx
  have hb : b < 2 ^ k := by exact_mod_cast hy
  have hb2 : b < 2 ^ w := Nat.lt_of_lt_of_le hb (Nat.pow_le_pow_right (by omega) hk)
  have e : ((a : Int) * 2 ^ k) = ((a * 2 ^ k : Nat) : Int) := by push_cast; rfl
  rw [e, BitVec.toNat_or, bvn w _ ha, bvn w b hb2]
  rw [← Nat.shiftLeft_eq, ← Nat.shiftLeft_add_eq_or_of_lt hb, Nat.shiftLeft_eq]
  push_cast; rfl
/-- xor with all ones -/
theorem bxor_all {w : Nat} {x : Int} (h0 : 0 ≤ x) (h1 : x < 2 ^ w) : ((BitVec.ofInt w (2 ^ w - 1) ^^^ BitVec.ofInt w x).toNat : Int) = 2 ^ w - 1 - x := by
  obtain ⟨n, rfl⟩ := Int.eq_ofNat_of_zero_le h0
  have hn : n < 2 ^ w := by exact_mod_cast h1
  have e1 : BitVec.ofInt w (2 ^ w - 1) = BitVec.allOnes w := by
    apply BitVec.eq_of_toNat_eq
    have h1 : 1 ≤ 2 ^ w := Nat.one_le_two_pow
    have hm : (2 ^ w - 1 : Int) = ((2 ^ w - 1 : Nat) : Int) := by rw [Int.natCast_sub h1]; push_cast; rfl
    rw [hm, bvn w _ (by omega), BitVec.toNat_allOnes]
  rw [e1, BitVec.allOnes_xor, BitVec.toNat_not, bvn w n hn]
  have h1 : 1 ≤ 2 ^ w := Nat.one_le_two_pow
  have : n ≤ 2 ^ w - 1 := by omega
  rw [Int.natCast_sub this, Int.natCast_sub h1]
  push_cast; rfl
theorem not16 {x : Int} (h0 : 0 ≤ x) (h1 : x < 65536) : IntKind.wrap .u16 (BitVec.ofInt 16 65535 ^^^ BitVec.ofInt 16 x).toNat = 65535 - x := by
  have := bxor_all (w := 16) h0 h1
  rw [show ((2 : Int) ^ 16 - 1) = 65535 from rfl] at this
  rw [this, wu16]; omega
theorem not32 {x : Int} (h0 : 0 ≤ x) (h1 : x < 4294967296) : IntKind.wrap .u32 (BitVec.ofInt 32 4294967295 ^^^ BitVec.ofInt 32 x).toNat = 4294967295 - x := by
  have := bxor_all (w := 32) h0 h1
  rw [show ((2 : Int) ^ 32 - 1) = 4294967295 from rfl] at this
  rw [this, wu32]; omega
theorem u8r (b : UInt8) : 0 ≤ (b.toNat : Int) ∧ (b.toNat : Int) < 256 := by have := b.toNat_lt; omega
/-- a loop over places 0 .. n -/
theorem nat_succ64 {i : Nat} (h : i < 9223372036854775807) : IntKind.wrap .i64 ((i : Int) + 1) = ((i + 1 : Nat) : Int) := by rw [wi64i (by omega) (by omega)]; omega

end Go.Hw

/-
  Texts: what is split and joined again; decimal numbers. Plain laws.
-/
set_option linter.unusedSimpArgs false
set_option linter.unusedVariables false
namespace Go.Hw
open Go

/-- pieces with a byte between them -/
def jn (c : UInt8) : List (List UInt8) → List UInt8
  | [] => []
  | [x] => x
  | x :: y :: r => x ++ c :: jn c (y :: r)
theorem jn_cons (c : UInt8) (x : List UInt8) {r : List (List UInt8)} (h : r ≠ []) : jn c (x :: r) = x ++ c :: jn c r := by
  cases r with
  | nil => exact absurd rfl h
  | cons y r => rfl
theorem jn_snoc (c : UInt8) : ∀ (l : List (List UInt8)) (x : List UInt8), l ≠ [] → jn c (l ++ [x]) = jn c l ++ c :: x := by
  intro l
  induction l with
  | nil => intro x h; exact absurd rfl h
  | cons a l ih =>
    intro x _
    cases l with
    | nil => simp [jn]
    | cons b l =>
      have h1 := ih x (by simp)
      rw [List.cons_append, jn_cons c a (by simp), h1, jn_cons c a (by simp)]; simp
theorem join_jn (c : UInt8) : ∀ l : List (List UInt8), Lib.join l [c] = jn c l := by
  intro l
  induction l with
  | nil => simp [Lib.join, List.intercalate, jn]
  | cons a l ih =>
    cases l with
    | nil => simp [Lib.join, List.intercalate, jn]
    | cons b l =>
      rw [jn_cons c a (by simp), ← ih]
      simp [Lib.join, List.intercalate, List.intersperse]

theorem index_cut {l : List UInt8} {c : UInt8} {o : Nat} (h : Lib.index l [c] = o) : l = l.take o ++ c :: l.drop (o + 1) ∧ c ∉ l.take o := by
  rw [Lib.index_one] at h
  obtain ⟨h1, h2⟩ := Lib.indexByte_some h
  have hlt := (List.getElem?_eq_some_iff.1 h1).1
  have h3 : l[o] = c := by rw [List.getElem?_eq_getElem hlt] at h1; exact Option.some.inj h1
  constructor
  · conv => lhs; rw [← List.take_append_drop o l]
    rw [List.drop_eq_getElem_cons hlt, h3]
  · intro hm
    obtain ⟨i, hi, he⟩ := List.getElem_of_mem hm
    have hio : i < o := by simp at hi; omega
    refine h2 i hio ?_
    rw [List.getElem_take] at he
    rw [List.getElem?_eq_getElem (by omega), he]

theorem splitK_ok (c : UInt8) : ∀ (k : Nat) (l : List UInt8), l.count c = k → (Lib.splitK [c] 0 k l).length = k + 1 ∧ jn c (Lib.splitK [c] 0 k l) = l ∧ ∀ p ∈ Lib.splitK [c] 0 k l, c ∉ p := by
  intro k
  induction k with
  | zero =>
    intro l hl
    refine ⟨rfl, rfl, ?_⟩
    intro p hp
    simp [Lib.splitK] at hp
    subst hp
    exact List.count_eq_zero.1 hl
  | succ k ih =>
    intro l hl
    have hm : c ∈ l := by rw [← List.count_pos_iff, hl]; omega
    have hidx : Lib.index l [c] ≠ -1 := by
      intro e
      rw [Lib.index_one] at e
      obtain ⟨i, hi, he⟩ := List.getElem_of_mem hm
      exact Lib.indexByte_none e i (by rw [List.getElem?_eq_getElem hi, he])
    obtain ⟨o, ho⟩ : ∃ o : Nat, Lib.index l [c] = o := by
      have := Lib.indexByte_ge l c
      rw [← Lib.index_one] at this
      exact ⟨(Lib.index l [c]).toNat, by omega⟩
    obtain ⟨h1, h2⟩ := index_cut ho
    have hc : (l.drop (o + 1)).count c = k := by
      rw [h1, List.count_append, List.count_cons_self, List.count_eq_zero.2 h2] at hl
      omega
    obtain ⟨i1, i2, i3⟩ := ih _ hc
    have es : Lib.splitK [c] 0 (k + 1) l = l.take o :: Lib.splitK [c] 0 k (l.drop (o + 1)) := by
      simp only [Lib.splitK, ho]
      rw [if_neg (by simp)]
      rfl
    rw [es]
    refine ⟨by simp [i1], ?_, ?_⟩
    · rw [jn_cons c _ (by intro e; rw [e] at i1; simp at i1), i2]; exact h1.symm
    · intro p hp
      rcases List.mem_cons.1 hp with rfl | hp
      · exact h2
      · exact i3 p hp

theorem countB_one (c : UInt8) (s : ByteArray) : Lib.countB s ⟨#[c]⟩ = s.data.toList.count c := by
  show Lib.count s.data.toList [c] = _
  exact Lib.count_one c _
theorem splitB_ok (c : UInt8) (s : ByteArray) : (Lib.splitB ⟨#[c]⟩ 0 (Lib.countB s ⟨#[c]⟩) s).length = Lib.countB s ⟨#[c]⟩ + 1 ∧ jn c ((Lib.splitB ⟨#[c]⟩ 0 (Lib.countB s ⟨#[c]⟩) s).map (·.data.toList)) = s.data.toList ∧
    ∀ p ∈ (Lib.splitB ⟨#[c]⟩ 0 (Lib.countB s ⟨#[c]⟩) s).map (·.data.toList), c ∉ p := by
  rw [Lib.splitB_data]
  have := splitK_ok c _ s.data.toList (countB_one c s).symm
  refine ⟨?_, this.2⟩
  have h2 := congrArg List.length (Lib.splitB_data ⟨#[c]⟩ 0 (Lib.countB s ⟨#[c]⟩) s)
  rw [List.length_map] at h2
  exact h2.trans this.1

/-- pieces without the byte are told by the whole -/
theorem jn_inj (c : UInt8) : ∀ (l m : List (List UInt8)), l ≠ [] → m ≠ [] → (∀ p ∈ l, c ∉ p) → (∀ p ∈ m, c ∉ p) → jn c l = jn c m → l = m := by
  have cut : ∀ (x y u v : List UInt8), c ∉ x → c ∉ y → x ++ c :: u = y ++ c :: v → x = y ∧ u = v := by
    intro x
    induction x with
    | nil =>
      intro y u v _ hy h
      cases y with
      | nil => simp at h; exact ⟨rfl, h⟩
      | cons b y => simp at h; exact absurd (by rw [h.1]; simp) hy
    | cons a x ih =>
      intro y u v hx hy h
      cases y with
      | nil => simp at h; exact absurd (by rw [h.1]; simp) hx
      | cons b y =>
        simp only [List.cons_append, List.cons.injEq] at h
        obtain ⟨r1, r2⟩ := ih y u v (fun q => hx (by simp [q])) (fun q => hy (by simp [q])) h.2
        exact ⟨by rw [h.1, r1], r2⟩
  intro l
  induction l with
  | nil => intro m h; exact absurd rfl h
  | cons a l ih =>
    intro m _ hm hl hm2 h
    cases m with
    | nil => exact absurd rfl hm
    | cons b m =>
      cases l with
      | nil =>
        cases m with
        | nil => simp [jn] at h; rw [h]
        | cons d m =>
          rw [jn_cons c b (by simp)] at h
          exact absurd (by rw [show jn c [a] = a from rfl] at h; rw [h]; simp) (hl a (by simp))
      | cons e l =>
        cases m with
        | nil =>
          rw [jn_cons c a (by simp)] at h
          exact absurd (by rw [show jn c [b] = b from rfl] at h; rw [← h]; simp) (hm2 b (by simp))
        | cons d m =>
          rw [jn_cons c a (by simp), jn_cons c b (by simp)] at h
          obtain ⟨r1, r2⟩ := cut _ _ _ _ (hl a (by simp)) (hm2 b (by simp)) h
          have := ih (d :: m) (by simp) (by simp) (fun p hp => hl p (by simp at hp ⊢; exact .inr hp)) (fun p hp => hm2 p (by simp at hp ⊢; exact .inr hp)) r2
          rw [r1, this]

/-! ### decimal numbers -/
theorem dec_small {u : Nat} (h : u < 10) : Lib.decDigits u = [UInt8.ofNat (48 + u)] := Lib.decDigits_one h
theorem dec_big {u : Nat} (h : ¬ u < 10) : Lib.decDigits u = Lib.decDigits (u / 10) ++ [UInt8.ofNat (48 + u % 10)] := by rw [Lib.decDigits, dif_neg h]
theorem dec_digit (u : Nat) : ∀ b ∈ Lib.decDigits u, 48 ≤ b.toNat ∧ b.toNat ≤ 57 := by
  induction u using Nat.strongRecOn with
  | _ u ih =>
    intro b hb
    by_cases h : u < 10
    · rw [dec_small h] at hb
      have hb := List.mem_singleton.1 hb
      subst hb
      rw [UInt8.toNat_ofNat']; omega
    · rw [dec_big h] at hb
      rcases List.mem_append.1 hb with hb | hb
      · exact ih _ (by omega) b hb
      · have hb := List.mem_singleton.1 hb
        subst hb
        rw [UInt8.toNat_ofNat']; omega
theorem dec_ne (u : Nat) : Lib.decDigits u ≠ [] := by
  by_cases h : u < 10
  · rw [dec_small h]; simp
  · rw [dec_big h]; simp
/-- what digits spell -/
def spell (l : List UInt8) : Nat := l.foldl (fun a b => a * 10 + (b.toNat - 48)) 0
theorem spell_snoc (l : List UInt8) (b : UInt8) : spell (l ++ [b]) = spell l * 10 + (b.toNat - 48) := by simp [spell]
theorem spell_dec (u : Nat) : spell (Lib.decDigits u) = u := by
  induction u using Nat.strongRecOn with
  | _ u ih =>
    by_cases h : u < 10
    · rw [dec_small h]; simp only [spell, List.foldl_cons, List.foldl_nil]; rw [UInt8.toNat_ofNat']; omega
    · rw [dec_big h, spell_snoc, ih _ (by omega), UInt8.toNat_ofNat']; omega
theorem dec_inj {u v : Nat} (h : Lib.decDigits u = Lib.decDigits v) : u = v := by rw [← spell_dec u, ← spell_dec v, h]
theorem parse_snoc (M : Nat) : ∀ (l m : List UInt8) (a u : Nat), Lib.parseUintM M a l = .ok u → Lib.parseUintM M a (l ++ m) = Lib.parseUintM M u m := by
  intro l
  induction l with
  | nil => intro m a u h; simp [Lib.parseUintM] at h; subst h; rfl
  | cons c l ih =>
    intro m a u h
    simp only [List.cons_append, Lib.parseUintM] at h ⊢
    split at h
    · rename_i h1
      rw [if_pos h1]
      split at h
      · cases h
      · rename_i h2
        rw [if_neg h2]
        split at h
        · cases h
        · rename_i h3
          rw [if_neg h3]
          exact ih m _ _ h
    · cases h
theorem parse_dec {u : Nat} (h : u < 256) : Lib.parseUintB 8 (Lib.decDigits u) = .ok u := by
  unfold Lib.parseUintB
  rw [if_neg (dec_ne u)]
  have one : ∀ v w : Nat, v ≤ 25 → w < 10 → v * 10 + w < 256 → Lib.parseUintM 255 v [UInt8.ofNat (48 + w)] = .ok (v * 10 + w) := by
    intro v w hv hw hx
    have e : (UInt8.ofNat (48 + w)).toNat = 48 + w := by rw [UInt8.toNat_ofNat']; omega
    simp only [Lib.parseUintM, e]
    rw [if_pos (by omega), if_neg (by omega), if_neg (by omega)]
    congr 1; omega
  show Lib.parseUintM 255 0 _ = _
  have step : ∀ u, u < 256 → Lib.parseUintM 255 0 (Lib.decDigits u) = .ok u := by
    intro u
    induction u using Nat.strongRecOn with
    | _ u ih =>
      intro hu
      by_cases h : u < 10
      · rw [dec_small h]
        have := one 0 u (by omega) h (by omega)
        simpa using this
      · rw [dec_big h, parse_snoc _ _ _ _ _ (ih (u / 10) (by omega) (by omega)), one (u / 10) (u % 10) (by omega) (by omega) (by omega)]
        congr 1; omega
  exact step u h
theorem parse_le {l : List UInt8} {u : Nat} (h : Lib.parseUintB 8 l = .ok u) : u < 256 := by
  unfold Lib.parseUintB at h
  split at h
  · cases h
  · have key : ∀ (l : List UInt8) (a : Nat), a < 256 → Lib.parseUintM 255 a l = .ok u → u < 256 := by
      intro l
      induction l with
      | nil => intro a ha h; simp [Lib.parseUintM] at h; omega
      | cons c l ih =>
        intro a ha h
        simp only [Lib.parseUintM] at h
        split at h
        · split at h
          · cases h
          · split at h
            · cases h
            · exact ih _ (by omega) h
        · cases h
    exact key l 0 (by omega) h

end Go.Hw

/-
  Texts over heaps: strings that are put together, bytes of a string, text out of a fresh row.
-/
set_option linter.unusedSimpArgs false
set_option linter.unusedVariables false
namespace Go.Hw
open Go

theorem catS_of {x y : ByteArray} {X : Prop} (h : x.data.toList.length + y.data.toList.length ≤ 4611686018427387904) (hX : X) : catS x y X := by
  unfold catS
  have : decide ((((x.size + y.size : Nat)) : Int) > IntKind.i64.max) = false := by
    apply decide_eq_false
    have e1 : x.size = x.data.toList.length := rfl
    have e2 : y.size = y.data.toList.length := rfl
    have e3 : IntKind.i64.max = 9223372036854775807 := rfl
    omega
  rw [this, cond_false]; exact hX
theorem ba_app (l m : List UInt8) : (⟨⟨l⟩⟩ : ByteArray) ++ ⟨⟨m⟩⟩ = ⟨⟨l ++ m⟩⟩ := by
  apply ByteArray.ext
  rw [ByteArray.data_append]
  apply Array.ext'
  simp
theorem ba_eq {s : ByteArray} : (⟨⟨s.data.toList⟩⟩ : ByteArray) = s := rfl
theorem ba_list (l : List UInt8) : (⟨⟨l⟩⟩ : ByteArray).toList = l := ByteArray.toList_eq _
theorem ba_beq (s t : ByteArray) : (s.toList == t.toList) = decide (s.data.toList = t.data.toList) := by
  rw [ByteArray.toList_eq, ByteArray.toList_eq]
  by_cases h : s.data.toList = t.data.toList
  · rw [h]; simp
  · rw [decide_eq_false h]; exact beq_false_of_ne h
theorem sbyte_at {l : List UInt8} {x : Int} {i : Nat} (hx : x = i) (hi : i < l.length) : sbyte ⟨⟨l⟩⟩ x = (l[i].toNat : Int) := by
  subst hx
  unfold sbyte
  simp [hi]
theorem idx_str {l : List UInt8} {x : Int} {i : Nat} {X : Prop} (hx : x = i) (hi : i < l.length) (hX : X) : idx x (⟨⟨l⟩⟩ : ByteArray).size X := idx_of (by omega) (by show x < ((l.length : Nat) : Int); omega) hX
/-- a row of bytes made and read as a string -/
theorem nw_b2s {h : Hp} {T : TypeId} {l : List UInt8} {n : Nat} {F : Hp → ByteArray → Prop} (hn : n = l.length) (hF : ∀ h', Ext none' h h' → F h' ⟨⟨l⟩⟩) : nw h (.cells ⟨bc l⟩ T) fun b0 h0 => b2s h0 (some (bk b0)) n fun s => F h0 s := by
  intro b0 e0
  have hb : Blk (upd h b0 (.cells ⟨bc l⟩ T)) b0 T (bc l) := Blk.upd_same
  have hr : RdB (upd h b0 (.cells ⟨bc l⟩ T)) ⟨some (bk b0), l.length, l.length⟩ l := ⟨rfl, Nat.le_refl _, hb.rdc⟩
  subst hn
  exact hr.b2s (hF _ (Ext.new e0))
theorem u8_of {x : Int} {k : Nat} (h : x = k) (hk : k < 256) : x = (((UInt8.ofNat k).toNat : Nat) : Int) := by rw [UInt8.toNat_ofNat']; omega

end Go.Hw
