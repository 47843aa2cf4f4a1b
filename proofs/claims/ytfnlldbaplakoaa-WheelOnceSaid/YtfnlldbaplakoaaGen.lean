/- Texts of a walk over heaps, printed by program and by hand: lemmas for the law that is proved in this claim. No condition. -/
import Derived.Test.YtfnlldbaplakoaaProg
import Derived.Test.YtfnlldbaplakoaaFwb
set_option linter.unusedVariables false
set_option maxRecDepth 100000
namespace Go.Proofs.Ytfnlldbaplakoaa
open Go Go.Hw

/-- the functions that have a body -/
def E : Nat → Bool := fun f => Nat.blt 2 f && Nat.blt f 47
theorem hE : EnterOk Try.prog E := by
  have all : ∀ f ∈ List.range' 3 44, (!E f || match Try.prog.funcs[f]? with | some fn => !fn.body.isNone && !(fn.name == "runtime.NumGoroutine") | none => false) = true := by
    rw [← List.all_eq_true]
    kernel_rfl
  intro f h
  have hm : f ∈ List.range' 3 44 := by
    simp only [E, Bool.and_eq_true, Bool.or_eq_true, Nat.blt_eq] at h
    simp only [List.mem_range'_1]; omega
  have := all f hm
  rw [h] at this
  simp only [Bool.not_true, Bool.false_or] at this
  split at this
  · rename_i fn hf
    simp only [Bool.and_eq_true, Bool.not_eq_true'] at this
    exact ⟨fn, hf, this.1, this.2⟩
  · cases this
theorem hm : Try.prog.follows .mixedOrders = true := by kernel_rfl
/-- gosem.cut.init -/
def C2  (h : Hp) (K : Hp → Prop) : Prop :=
  HCalls Try.prog 2 ⟨[]⟩ h fun _ h' => K h'

/-- slipway/slipwaylaw07.WheelNumbers -/
def C3  (h : Hp) (K : Bool → Hp → Prop) : Prop :=
  HCalls Try.prog 3 ⟨[]⟩ h fun v h' => VT.on (.c (.bool)) (some v) fun r => K r h'

/-- slipway/slipwaylaw07.WheelPlays -/
def C4 (x0 : Sl) (h : Hp) (K : Bool → Hp → Prop) : Prop :=
  HCalls Try.prog 4 ⟨[.slice x0.p x0.n x0.c]⟩ h fun v h' => VT.on (.c (.bool)) (some v) fun r => K r h'

/-- slipway/slipwaylaw07.WheelOnce -/
def C5 (x0 : Sl) (h : Hp) (K : Bool → Hp → Prop) : Prop :=
  HCalls Try.prog 5 ⟨[.slice x0.p x0.n x0.c]⟩ h fun v h' => VT.on (.c (.bool)) (some v) fun r => K r h'

/-- slipway/slipwaylaw07.WheelCuts -/
def C6 (x0 : Sl) (x1 : Sl) (x2 : Int) (h : Hp) (K : Bool → Hp → Prop) : Prop :=
  HCalls Try.prog 6 ⟨[.slice x0.p x0.n x0.c, .slice x1.p x1.n x1.c, .int .i64 x2]⟩ h fun v h' => VT.on (.c (.bool)) (some v) fun r => K r h'

/-- slipway/slipwaylaw07.live -/
def C7  (h : Hp) (K : Bool → Hp → Prop) : Prop :=
  HCalls Try.prog 7 ⟨[]⟩ h fun v h' => VT.on (.c (.bool)) (some v) fun r => K r h'

/-- slipway/wheel.New -/
def C8  (h : Hp) (K : Option Addr → Hp → Prop) : Prop :=
  HCalls Try.prog 8 ⟨[]⟩ h fun v h' => VT.on (.c (.ptr)) (some v) fun r => K r h'

/-- slipway/slipwayref07.New -/
def C9  (h : Hp) (K : Option Addr → Hp → Prop) : Prop :=
  HCalls Try.prog 9 ⟨[]⟩ h fun v h' => VT.on (.c (.ptr)) (some v) fun r => K r h'

/-- slipway/slipwaylaw07.step -/
def C10 (x0 : Option Addr) (x1 : Option Addr) (x2 : Option Addr) (x3_0 : Int) (x3_1 : Int) (x3_2 : Int) (h : Hp) (K : Bool → Hp → Prop) : Prop :=
  HCalls Try.prog 10 ⟨[.pointer x0, .pointer x1, .pointer x2, .agg ⟨[.int .i64 x3_0, .int .i64 x3_1, .int .i64 x3_2]⟩]⟩ h fun v h' => VT.on (.c (.bool)) (some v) fun r => K r h'

/-- (*slipway/slipwaylaw07.kept).stands -/
def C11 (x0 : Option Addr) (h : Hp) (K : Bool → Hp → Prop) : Prop :=
  HCalls Try.prog 11 ⟨[.pointer x0]⟩ h fun v h' => VT.on (.c (.bool)) (some v) fun r => K r h'

/-- (*slipway/wheel.Wheel).Arm -/
def C12 (x0 : Option Addr) (x1 : Int) (x2 : Int) (h : Hp) (K : Int → Int → Hp → Prop) : Prop :=
  HCalls Try.prog 12 ⟨[.pointer x0, .int .i64 x1, .int .i64 x2]⟩ h fun v h' => tupOn [.c (.int .i64), .c (.int .i64)] v fun r => K r.1 r.2 h'

/-- (*slipway/wheel.Wheel).Cancel -/
def C13 (x0 : Option Addr) (x1 : Int) (h : Hp) (K : Bool → Hp → Prop) : Prop :=
  HCalls Try.prog 13 ⟨[.pointer x0, .int .i64 x1]⟩ h fun v h' => VT.on (.c (.bool)) (some v) fun r => K r h'

/-- (*slipway/wheel.Wheel).Advance -/
def C14 (x0 : Option Addr) (x1 : Int) (h : Hp) (K : Sl → Hp → Prop) : Prop :=
  HCalls Try.prog 14 ⟨[.pointer x0, .int .i64 x1]⟩ h fun v h' => VT.on (.c (.slice)) (some v) fun r => K r h'

/-- (*slipway/wheel.Wheel).Next -/
def C15 (x0 : Option Addr) (h : Hp) (K : Int → Bool → Hp → Prop) : Prop :=
  HCalls Try.prog 15 ⟨[.pointer x0]⟩ h fun v h' => tupOn [.c (.int .i64), .c (.bool)] v fun r => K r.1 r.2 h'

/-- (*slipway/wheel.Wheel).Len -/
def C16 (x0 : Option Addr) (h : Hp) (K : Int → Hp → Prop) : Prop :=
  HCalls Try.prog 16 ⟨[.pointer x0]⟩ h fun v h' => VT.on (.c (.int .i64)) (some v) fun r => K r h'

/-- (*slipway/wheel.Wheel).Now -/
def C17 (x0 : Option Addr) (h : Hp) (K : Int → Hp → Prop) : Prop :=
  HCalls Try.prog 17 ⟨[.pointer x0]⟩ h fun v h' => VT.on (.c (.int .i64)) (some v) fun r => K r h'

/-- slipway/slipwayref07.Same -/
def C18 (x0 : Sl) (x1 : Sl) (h : Hp) (K : Bool → Hp → Prop) : Prop :=
  HCalls Try.prog 18 ⟨[.slice x0.p x0.n x0.c, .slice x1.p x1.n x1.c]⟩ h fun v h' => VT.on (.c (.bool)) (some v) fun r => K r h'

/-- (*slipway/wheel.Wheel).first -/
def C19 (x0 : Option Addr) (x1 : Option Addr) (x2 : Option Addr) (h : Hp) (K : Bool → Hp → Prop) : Prop :=
  HCalls Try.prog 19 ⟨[.pointer x0, .pointer x1, .pointer x2]⟩ h fun v h' => VT.on (.c (.bool)) (some v) fun r => K r h'

/-- (*slipway/slipwayref07.Wheel).Arm -/
def C20 (x0 : Option Addr) (x1 : Int) (x2 : Int) (h : Hp) (K : Int → Int → Hp → Prop) : Prop :=
  HCalls Try.prog 20 ⟨[.pointer x0, .int .i64 x1, .int .i64 x2]⟩ h fun v h' => tupOn [.c (.int .i64), .c (.int .i64)] v fun r => K r.1 r.2 h'

/-- (*slipway/slipwayref07.Wheel).Cancel -/
def C21 (x0 : Option Addr) (x1 : Int) (h : Hp) (K : Bool → Hp → Prop) : Prop :=
  HCalls Try.prog 21 ⟨[.pointer x0, .int .i64 x1]⟩ h fun v h' => VT.on (.c (.bool)) (some v) fun r => K r h'

/-- (*slipway/slipwayref07.Wheel).Advance -/
def C22 (x0 : Option Addr) (x1 : Int) (h : Hp) (K : Sl → Hp → Prop) : Prop :=
  HCalls Try.prog 22 ⟨[.pointer x0, .int .i64 x1]⟩ h fun v h' => VT.on (.c (.slice)) (some v) fun r => K r h'

/-- (*slipway/slipwaylaw07.kept).take -/
def C23 (x0 : Option Addr) (x1 : Sl) (x2 : Sl) (h : Hp) (K : Hp → Prop) : Prop :=
  HCalls Try.prog 23 ⟨[.pointer x0, .slice x1.p x1.n x1.c, .slice x2.p x2.n x2.c]⟩ h fun _ h' => K h'

/-- (*slipway/slipwayref07.Wheel).Next -/
def C24 (x0 : Option Addr) (h : Hp) (K : Int → Bool → Hp → Prop) : Prop :=
  HCalls Try.prog 24 ⟨[.pointer x0]⟩ h fun v h' => tupOn [.c (.int .i64), .c (.bool)] v fun r => K r.1 r.2 h'

/-- (*slipway/slipwayref07.Wheel).Now -/
def C25 (x0 : Option Addr) (h : Hp) (K : Int → Hp → Prop) : Prop :=
  HCalls Try.prog 25 ⟨[.pointer x0]⟩ h fun v h' => VT.on (.c (.int .i64)) (some v) fun r => K r h'

/-- (*slipway/slipwayref07.Wheel).Len -/
def C26 (x0 : Option Addr) (h : Hp) (K : Int → Hp → Prop) : Prop :=
  HCalls Try.prog 26 ⟨[.pointer x0]⟩ h fun v h' => VT.on (.c (.int .i64)) (some v) fun r => K r h'

/-- (*slipway/wheel.Wheel).counts -/
def C27 (x0 : Option Addr) (x1 : Int) (h : Hp) (K : Int → Hp → Prop) : Prop :=
  HCalls Try.prog 27 ⟨[.pointer x0, .int .i64 x1]⟩ h fun v h' => VT.on (.c (.int .i64)) (some v) fun r => K r h'

/-- (*slipway/wheel.Wheel).lay -/
def C28 (x0 : Option Addr) (x1 : Option Addr) (h : Hp) (K : Hp → Prop) : Prop :=
  HCalls Try.prog 28 ⟨[.pointer x0, .pointer x1]⟩ h fun _ h' => K h'

/-- (*slipway/wheel.Wheel).take -/
def C29 (x0 : Option Addr) (x1 : Option Addr) (h : Hp) (K : Hp → Prop) : Prop :=
  HCalls Try.prog 29 ⟨[.pointer x0, .pointer x1]⟩ h fun _ h' => K h'

/-- (*slipway/wheel.Wheel).soonest -/
def C30 (x0 : Option Addr) (h : Hp) (K : Option Addr → Hp → Prop) : Prop :=
  HCalls Try.prog 30 ⟨[.pointer x0]⟩ h fun v h' => VT.on (.c (.ptr)) (some v) fun r => K r h'

/-- (*slipway/wheel.Wheel).move -/
def C31 (x0 : Option Addr) (x1 : Int) (h : Hp) (K : Hp → Prop) : Prop :=
  HCalls Try.prog 31 ⟨[.pointer x0, .int .i64 x1]⟩ h fun _ h' => K h'

/-- slipway/wheel.order -/
def C32 (x0_0 : Int) (x0_1 : Int) (x0_2 : Int) (x1_0 : Int) (x1_1 : Int) (x1_2 : Int) (h : Hp) (K : Int → Hp → Prop) : Prop :=
  HCalls Try.prog 32 ⟨[.agg ⟨[.int .i64 x0_0, .int .i64 x0_1, .int .i64 x0_2]⟩, .agg ⟨[.int .i64 x1_0, .int .i64 x1_1, .int .i64 x1_2]⟩]⟩ h fun v h' => VT.on (.c (.int .i64)) (some v) fun r => K r h'

/-- (*slipway/slipwayref07.Wheel).Counts -/
def C33 (x0 : Option Addr) (x1 : Int) (h : Hp) (K : Int → Hp → Prop) : Prop :=
  HCalls Try.prog 33 ⟨[.pointer x0, .int .i64 x1]⟩ h fun v h' => VT.on (.c (.int .i64)) (some v) fun r => K r h'

/-- (*slipway/slipwayref07.Wheel).first -/
def C34 (x0 : Option Addr) (h : Hp) (K : Int → Hp → Prop) : Prop :=
  HCalls Try.prog 34 ⟨[.pointer x0]⟩ h fun v h' => VT.on (.c (.int .i64)) (some v) fun r => K r h'

/-- (*slipway/wheel.Wheel).level -/
def C35 (x0 : Option Addr) (x1 : Int) (h : Hp) (K : Int → Hp → Prop) : Prop :=
  HCalls Try.prog 35 ⟨[.pointer x0, .int .i64 x1]⟩ h fun v h' => VT.on (.c (.int .i64)) (some v) fun r => K r h'

/-- (*slipway/wheel.heap).add -/
def C36 (x0 : Option Addr) (x1 : Option Addr) (h : Hp) (K : Hp → Prop) : Prop :=
  HCalls Try.prog 36 ⟨[.pointer x0, .pointer x1]⟩ h fun _ h' => K h'

/-- slipway/wheel.digit -/
def C37 (x0 : Int) (x1 : Int) (h : Hp) (K : Int → Hp → Prop) : Prop :=
  HCalls Try.prog 37 ⟨[.int .i64 x0, .int .i64 x1]⟩ h fun v h' => VT.on (.c (.int .i64)) (some v) fun r => K r h'

/-- (*slipway/wheel.heap).drop -/
def C38 (x0 : Option Addr) (x1 : Option Addr) (h : Hp) (K : Hp → Prop) : Prop :=
  HCalls Try.prog 38 ⟨[.pointer x0, .pointer x1]⟩ h fun _ h' => K h'

/-- slices.MinFunc[[]*slipway/wheel.timer,*slipway/wheel.timer] -/
def C39 (x0 : Sl) (x1 : Value) (h : Hp) (K : Option Addr → Hp → Prop) : Prop :=
  HCalls Try.prog 39 ⟨[.slice x0.p x0.n x0.c, x1]⟩ h fun v h' => VT.on (.c (.ptr)) (some v) fun r => K r h'

/-- (*slipway/wheel.Wheel).soonest$1 -/
def C40 (x0 : Option Addr) (x1 : Option Addr) (h : Hp) (K : Int → Hp → Prop) : Prop :=
  HCalls Try.prog 40 ⟨[.pointer x0, .pointer x1]⟩ h fun v h' => VT.on (.c (.int .i64)) (some v) fun r => K r h'

/-- cmp.Or[int] -/
def C41 (x0 : Sl) (h : Hp) (K : Int → Hp → Prop) : Prop :=
  HCalls Try.prog 41 ⟨[.slice x0.p x0.n x0.c]⟩ h fun v h' => VT.on (.c (.int .i64)) (some v) fun r => K r h'

/-- cmp.Compare[int] -/
def C42 (x0 : Int) (x1 : Int) (h : Hp) (K : Int → Hp → Prop) : Prop :=
  HCalls Try.prog 42 ⟨[.int .i64 x0, .int .i64 x1]⟩ h fun v h' => VT.on (.c (.int .i64)) (some v) fun r => K r h'

/-- (*slipway/wheel.heap).up -/
def C43 (x0 : Option Addr) (x1 : Option Addr) (h : Hp) (K : Hp → Prop) : Prop :=
  HCalls Try.prog 43 ⟨[.pointer x0, .pointer x1]⟩ h fun _ h' => K h'

/-- (*slipway/wheel.heap).put -/
def C44 (x0 : Option Addr) (x1 : Int) (x2 : Option Addr) (h : Hp) (K : Hp → Prop) : Prop :=
  HCalls Try.prog 44 ⟨[.pointer x0, .int .i64 x1, .pointer x2]⟩ h fun _ h' => K h'

/-- (*slipway/wheel.heap).down -/
def C45 (x0 : Option Addr) (x1 : Option Addr) (h : Hp) (K : Hp → Prop) : Prop :=
  HCalls Try.prog 45 ⟨[.pointer x0, .pointer x1]⟩ h fun _ h' => K h'

/-- cmp.isNaN[int] -/
def C46 (x0 : Int) (h : Hp) (K : Bool → Hp → Prop) : Prop :=
  HCalls Try.prog 46 ⟨[.int .i64 x0]⟩ h fun v h' => VT.on (.c (.bool)) (some v) fun r => K r h'

end Go.Proofs.Ytfnlldbaplakoaa

set_option linter.unusedVariables false
set_option maxRecDepth 100000
namespace Go.Proofs.Ytfnlldbaplakoaa
open Go Go.Hw
/-! ### 3 slipway/slipwaylaw07.WheelNumbers -/
noncomputable def B3 : Code := match Try.f3.body with | some c => c | none => .skip
def N3  (h : Hp) (K : Bool → Hp → Prop) : Prop :=
  C7 h fun b0 h0 =>
  bif b0 then
    K true h0
  else
    K false h0
theorem S3 {h : Hp} {K : Bool → Hp → Prop} (hn : N3 h K) : C3 h K := by
  refine calls_of_D Try.func3 (c := B3) rfl (by kernel_rfl) ?_
  refine den_sound hE hm _ .leaf _ _ _ (annOk_leaf) ?_
  refine cast ?_ hn
  kernel_rfl
end Go.Proofs.Ytfnlldbaplakoaa

set_option linter.unusedVariables false
set_option maxRecDepth 100000
namespace Go.Proofs.Ytfnlldbaplakoaa
open Go Go.Hw
/-! ### 4 slipway/slipwaylaw07.WheelPlays -/
noncomputable def B4 : Code := match Try.f4.body with | some c => c | none => .skip
def N4_j1 (x0_script : Sl) (x4_w : Option Addr) (x5_v : Option Addr) (x6_x : Option Addr) (x7_y : Option Addr) (x8_k : Option Addr) (x9_i : Int) (x10_ok : Bool) (h : Hp) (K_normal : Hp → Prop) (K_ret : Bool → Hp → Prop) : Prop :=
  bif (!x10_ok) then
    K_ret false h
  else
    K_normal h
noncomputable def N4_j1_t : Xf := pieceT [(0, .c (.slice)), (4, .c (.ptr)), (5, .c (.ptr)), (6, .c (.ptr)), (7, .c (.ptr)), (8, .c (.ptr)), (9, .c (.int .i64)), (10, .c (.bool))] (codeAt B4 [1, 1, 1, 1, 1, 1, 1, 1, 0, 1, 0, 0, 1, 0, 0, 1, 1]) fun x h Q => N4_j1 x.1 x.2.1 x.2.2.1 x.2.2.2.1 x.2.2.2.2.1 x.2.2.2.2.2.1 x.2.2.2.2.2.2.1 x.2.2.2.2.2.2.2 h (fun h' => Q .normal (Sg.env [] ()) h') (fun o0 h' => Q .ret (Sg.env [(2, .c (.bool))] o0) h')
theorem N4_j1_ok : Sound Try.prog Try.f4.ntmps N4_j1_t (codeAt B4 [1, 1, 1, 1, 1, 1, 1, 1, 0, 1, 0, 0, 1, 0, 0, 1, 1]) := by
  refine piece_sound (fun e => match e with | .normal => [] | .ret => [2] | _ => []) ?_
  intro x h Q hb
  refine den_sound hE hm _ .leaf _ _ _ (annOk_leaf) ?_
  refine cast ?_ hb
  kernel_rfl
def N4_l0_b (x0_script : Sl) (x4_w : Option Addr) (x5_v : Option Addr) (x6_x : Option Addr) (x7_y : Option Addr) (x8_k : Option Addr) (Φ : Int → Hp → Prop) (x9_i : Int) (h : Hp) (K_e0 : Hp → Prop) (K_ret : Bool → Hp → Prop) : Prop :=
  bif (decide (x9_i < ((x0_script.n : Nat) : Int))) then
    bif ((Int.tmod x9_i 5) == 4) then
      idx x9_i x0_script.n <|
      nn x0_script.p fun a0 =>
      xI .i64 (cell h (a0.add (x9_i.toNat * 3))) fun n0 =>
      xI .i64 (cell h ((a0.add (x9_i.toNat * 3)).add 1)) fun n1 =>
      xI .i64 (cell h ((a0.add (x9_i.toNat * 3)).add 2)) fun n2 =>
      C10 x8_k x5_v x7_y n0 n1 n2 h fun b0 h0 =>
      N4_j1 x0_script x4_w x5_v x6_x x7_y x8_k x9_i b0 h0
        (fun h1 =>
          Φ (IntKind.wrap .i64 (x9_i + 1)) h1)
        (fun b1 h2 =>
          K_ret b1 h2)
    else
      idx x9_i x0_script.n <|
      nn x0_script.p fun a1 =>
      xI .i64 (cell h (a1.add (x9_i.toNat * 3))) fun n3 =>
      xI .i64 (cell h ((a1.add (x9_i.toNat * 3)).add 1)) fun n4 =>
      xI .i64 (cell h ((a1.add (x9_i.toNat * 3)).add 2)) fun n5 =>
      C10 x8_k x4_w x6_x n3 n4 n5 h fun b2 h3 =>
      N4_j1 x0_script x4_w x5_v x6_x x7_y x8_k x9_i b2 h3
        (fun h4 =>
          Φ (IntKind.wrap .i64 (x9_i + 1)) h4)
        (fun b3 h5 =>
          K_ret b3 h5)
  else
    K_e0 h
def N4_l0_B (x0_script : Sl) (x4_w : Option Addr) (x5_v : Option Addr) (x6_x : Option Addr) (x7_y : Option Addr) (x8_k : Option Addr) (K_e0 : Hp → Prop) (K_ret : Bool → Hp → Prop) (s : Sg.T [(9, .c (.int .i64))]) (h : Hp) (Φ : Sg.T [(9, .c (.int .i64))] → Hp → Prop) : Prop :=
  N4_l0_b x0_script x4_w x5_v x6_x x7_y x8_k (fun x9_i h => Φ x9_i h) s h K_e0 K_ret
def N4_l0 (x0_script : Sl) (x4_w : Option Addr) (x5_v : Option Addr) (x6_x : Option Addr) (x7_y : Option Addr) (x8_k : Option Addr) (x9_i : Int) (h : Hp) (K_e0 : Hp → Prop) (K_ret : Bool → Hp → Prop) : Prop :=
  loopP (N4_l0_B x0_script x4_w x5_v x6_x x7_y x8_k K_e0 K_ret) x9_i h
noncomputable def N4_l0_t : Xf := loopT [(0, .c (.slice)), (4, .c (.ptr)), (5, .c (.ptr)), (6, .c (.ptr)), (7, .c (.ptr)), (8, .c (.ptr))] [(9, .c (.int .i64))] (codeAt B4 [1, 1, 1, 1, 1, 1, 1, 1, 0, 1, 0, 0]) fun F Q => N4_l0_B F.1 F.2.1 F.2.2.1 F.2.2.2.1 F.2.2.2.2.1 F.2.2.2.2.2 (fun h' => Q (.exit 0) (Sg.env [] ()) h') (fun o0 h' => Q .ret (Sg.env [(2, .c (.bool))] o0) h')
theorem N4_l0_ok : Sound Try.prog Try.f4.ntmps N4_l0_t (codeAt B4 [1, 1, 1, 1, 1, 1, 1, 1, 0, 1, 0]) := by
  refine loop_sound (fun e => match e with | .exit 0 => [] | .ret => [2] | _ => []) (by kernel_rfl) ?_
  intro F Q s h Φ hb
  refine den_sound hE hm _ (.two .leaf (.two (.one (.two .leaf (.two .leaf (.xf N4_j1_t)))) .leaf)) _ _ _ (⟨annOk_leaf, ⟨⟨annOk_leaf, ⟨annOk_leaf, N4_j1_ok⟩⟩, annOk_leaf⟩⟩) ?_
  refine cast ?_ hb
  kernel_rfl
def N4 (x0 : Sl) (h : Hp) (K : Bool → Hp → Prop) : Prop :=
  C7 h fun b0 h0 =>
  C8 h0 fun p0 h1 =>
  C8 h1 fun p1 h2 =>
  bif (!b0) then
    K false h2
  else
    peq h2 p0 none fun b1 =>
    bif b1 then
      K false h2
    else
      peq h2 p1 none fun b2 =>
      bif b2 then
        K false h2
      else
        C9 h2 fun p2 h3 =>
        C9 h3 fun p3 h4 =>
        nw h4 (.cells ⟨[.slice none 0 0, .slice none 0 0]⟩ 31) fun b3 h5 =>
        N4_l0 x0 p0 p1 p2 p3 (some (bk b3)) 0 h5
          (fun h6 =>
            C10 (some (bk b3)) p0 p2 5 0 0 h6 fun b4 h7 =>
            C10 (some (bk b3)) p1 p3 5 0 0 h7 fun b5 h8 =>
            C11 (some (bk b3)) h8 fun b6 h9 =>
            C10 (some (bk b3)) p0 p2 3 1125899906842624 0 h9 fun b7 h10 =>
            C10 (some (bk b3)) p1 p3 3 1125899906842624 0 h10 fun b8 h11 =>
            C10 (some (bk b3)) p0 p2 5 0 0 h11 fun b9 h12 =>
            bif b4 then
              bif b5 then
                bif b6 then
                  bif b7 then
                    bif b8 then
                      K b9 h12
                    else
                      K false h12
                  else
                    K false h12
                else
                  K false h12
              else
                K false h12
            else
              K false h12)
          (fun b10 h13 =>
            K b10 h13)
theorem S4 {x0 : Sl} {h : Hp} {K : Bool → Hp → Prop} (hn : N4 x0 h K) : C4 x0 h K := by
  refine calls_of_D Try.func4 (c := B4) rfl (by kernel_rfl) ?_
  refine den_sound hE hm _ (.two .leaf (.two .leaf (.two .leaf (.two .leaf (.two .leaf (.two .leaf (.two .leaf (.two .leaf (.two (.two .leaf (.one (.xf N4_l0_t))) .leaf))))))))) _ _ _ (⟨annOk_leaf, ⟨annOk_leaf, ⟨annOk_leaf, ⟨annOk_leaf, ⟨annOk_leaf, ⟨annOk_leaf, ⟨annOk_leaf, ⟨annOk_leaf, ⟨⟨annOk_leaf, N4_l0_ok⟩, annOk_leaf⟩⟩⟩⟩⟩⟩⟩⟩⟩) ?_
  refine cast ?_ hn
  kernel_rfl
end Go.Proofs.Ytfnlldbaplakoaa

set_option linter.unusedVariables false
set_option maxRecDepth 100000
namespace Go.Proofs.Ytfnlldbaplakoaa
open Go Go.Hw
/-! ### 5 slipway/slipwaylaw07.WheelOnce -/
noncomputable def B5 : Code := match Try.f5.body with | some c => c | none => .skip
def N5_j1 (x0_script : Sl) (x4_w : Option Addr) (x5_at : Sl) (x6_there : Sl) (x7_many : Int) (x8_now : Int) (x9_i : Int) (x10_o : Option Addr) (x12_e : Int) (h : Hp) (K_normal : Sl → Sl → Int → Hp → Prop) : Prop :=
  bif (x12_e == 0) then
    nn x10_o fun a0 =>
    xI .i64 (cell h (a0.add 1)) fun n0 =>
    nw h (.cells ⟨[.int .i64 (mn (mx n0 x8_now) 1125899906842624)]⟩ 3) fun b0 h0 =>
    apK Try.prog 3 x5_at (.slice (some (bk b0)) 1 1) h0 fun s0 h1 =>
    nw h1 (.cells ⟨[.int .i64 1]⟩ 3) fun b1 h2 =>
    apK Try.prog 3 x6_there (.slice (some (bk b1)) 1 1) h2 fun s1 h3 =>
    K_normal s0 s1 (IntKind.wrap .i64 (x7_many + 1)) h3
  else
    K_normal x5_at x6_there x7_many h
noncomputable def N5_j1_t : Xf := pieceT [(0, .c (.slice)), (4, .c (.ptr)), (5, .c (.slice)), (6, .c (.slice)), (7, .c (.int .i64)), (8, .c (.int .i64)), (9, .c (.int .i64)), (10, .c (.ptr)), (12, .c (.int .i64))] (codeAt B5 [1, 1, 1, 1, 1, 1, 1, 1, 0, 1, 0, 0, 1, 0, 0, 1, 0, 1, 0, 1, 0, 1, 1]) fun x h Q => N5_j1 x.1 x.2.1 x.2.2.1 x.2.2.2.1 x.2.2.2.2.1 x.2.2.2.2.2.1 x.2.2.2.2.2.2.1 x.2.2.2.2.2.2.2.1 x.2.2.2.2.2.2.2.2 h (fun o0 o1 o2 h' => Q .normal (Sg.env [(5, .c (.slice)), (6, .c (.slice)), (7, .c (.int .i64))] (o0, o1, o2)) h')
theorem N5_j1_ok : Sound Try.prog Try.f5.ntmps N5_j1_t (codeAt B5 [1, 1, 1, 1, 1, 1, 1, 1, 0, 1, 0, 0, 1, 0, 0, 1, 0, 1, 0, 1, 0, 1, 1]) := by
  refine piece_sound (fun e => match e with | .normal => [5, 6, 7] | _ => []) ?_
  intro x h Q hb
  refine den_sound hE hm _ .leaf _ _ _ (annOk_leaf) ?_
  refine cast ?_ hb
  kernel_rfl
def N5_j2 (x0_script : Sl) (x4_w : Option Addr) (x5_at : Sl) (x6_there : Sl) (x7_many : Int) (x8_now : Int) (x9_i : Int) (h : Hp) (K_normal : Hp → Prop) (K_ret : Bool → Hp → Prop) : Prop :=
  C16 x4_w h fun n0 h0 =>
  bif (n0 != x7_many) then
    K_ret false h0
  else
    C17 x4_w h0 fun n1 h1 =>
    bif (n1 != x8_now) then
      K_ret false h1
    else
      K_normal h1
noncomputable def N5_j2_t : Xf := pieceT [(0, .c (.slice)), (4, .c (.ptr)), (5, .c (.slice)), (6, .c (.slice)), (7, .c (.int .i64)), (8, .c (.int .i64)), (9, .c (.int .i64))] (codeAt B5 [1, 1, 1, 1, 1, 1, 1, 1, 0, 1, 0, 0, 1, 0, 0, 1, 1]) fun x h Q => N5_j2 x.1 x.2.1 x.2.2.1 x.2.2.2.1 x.2.2.2.2.1 x.2.2.2.2.2.1 x.2.2.2.2.2.2 h (fun h' => Q .normal (Sg.env [] ()) h') (fun o0 h' => Q .ret (Sg.env [(2, .c (.bool))] o0) h')
theorem N5_j2_ok : Sound Try.prog Try.f5.ntmps N5_j2_t (codeAt B5 [1, 1, 1, 1, 1, 1, 1, 1, 0, 1, 0, 0, 1, 0, 0, 1, 1]) := by
  refine piece_sound (fun e => match e with | .normal => [] | .ret => [2] | _ => []) ?_
  intro x h Q hb
  refine den_sound hE hm _ .leaf _ _ _ (annOk_leaf) ?_
  refine cast ?_ hb
  kernel_rfl
def N5_j3 (x0_script : Sl) (x4_w : Option Addr) (x5_at : Sl) (x6_there : Sl) (x7_many : Int) (x8_now : Int) (x9_i : Int) (x10_o : Option Addr) (x14_is : Bool) (h : Hp) (K_normal : Int → Hp → Prop) (K_ret : Bool → Hp → Prop) : Prop :=
  nn x10_o fun a0 =>
  xI .i64 (cell h (a0.add 1)) fun n0 =>
  C13 x4_w n0 h fun b0 h0 =>
  bif (!(b0 == x14_is)) then
    K_ret false h0
  else
    bif b0 then
      nn x10_o fun a1 =>
      xI .i64 (cell h0 (a1.add 1)) fun n1 =>
      idx n1 x6_there.n <|
      nn x6_there.p fun a2 =>
      st h0 (a2.add (n1.toNat * 1)) (.int .i64 0) fun h1 =>
      K_normal (IntKind.wrap .i64 (x7_many - 1)) h1
    else
      K_normal x7_many h0
noncomputable def N5_j3_t : Xf := pieceT [(0, .c (.slice)), (4, .c (.ptr)), (5, .c (.slice)), (6, .c (.slice)), (7, .c (.int .i64)), (8, .c (.int .i64)), (9, .c (.int .i64)), (10, .c (.ptr)), (14, .c (.bool))] (codeAt B5 [1, 1, 1, 1, 1, 1, 1, 1, 0, 1, 0, 0, 1, 0, 0, 1, 0, 1, 0, 1, 1, 1, 0, 1]) fun x h Q => N5_j3 x.1 x.2.1 x.2.2.1 x.2.2.2.1 x.2.2.2.2.1 x.2.2.2.2.2.1 x.2.2.2.2.2.2.1 x.2.2.2.2.2.2.2.1 x.2.2.2.2.2.2.2.2 h (fun o0 h' => Q .normal (Sg.env [(7, .c (.int .i64))] o0) h') (fun o0 h' => Q .ret (Sg.env [(2, .c (.bool))] o0) h')
theorem N5_j3_ok : Sound Try.prog Try.f5.ntmps N5_j3_t (codeAt B5 [1, 1, 1, 1, 1, 1, 1, 1, 0, 1, 0, 0, 1, 0, 0, 1, 0, 1, 0, 1, 1, 1, 0, 1]) := by
  refine piece_sound (fun e => match e with | .normal => [7] | .ret => [2] | _ => []) ?_
  intro x h Q hb
  refine den_sound hE hm _ .leaf _ _ _ (annOk_leaf) ?_
  refine cast ?_ hb
  kernel_rfl
def N5_j5 (x0_script : Sl) (x4_w : Option Addr) (x5_at : Sl) (x6_there : Sl) (x7_many : Int) (x8_now : Int) (x9_i : Int) (x16_l : Sl) (x17_n : Int) (x18_id : Int) (h : Hp) (K_normal : Int → Hp → Prop) : Prop :=
  idx x18_id x6_there.n <|
  nn x6_there.p fun a0 =>
  st h (a0.add (x18_id.toNat * 1)) (.int .i64 0) fun h0 =>
  K_normal (IntKind.wrap .i64 (x7_many - 1)) h0
noncomputable def N5_j5_t : Xf := pieceT [(0, .c (.slice)), (4, .c (.ptr)), (5, .c (.slice)), (6, .c (.slice)), (7, .c (.int .i64)), (8, .c (.int .i64)), (9, .c (.int .i64)), (16, .c (.slice)), (17, .c (.int .i64)), (18, .c (.int .i64))] (codeAt B5 [1, 1, 1, 1, 1, 1, 1, 1, 0, 1, 0, 0, 1, 0, 0, 1, 0, 1, 0, 1, 1, 1, 1, 1, 0, 1, 1, 0, 1, 0, 0, 1, 0, 0, 1, 1, 1]) fun x h Q => N5_j5 x.1 x.2.1 x.2.2.1 x.2.2.2.1 x.2.2.2.2.1 x.2.2.2.2.2.1 x.2.2.2.2.2.2.1 x.2.2.2.2.2.2.2.1 x.2.2.2.2.2.2.2.2.1 x.2.2.2.2.2.2.2.2.2 h (fun o0 h' => Q .normal (Sg.env [(7, .c (.int .i64))] o0) h')
theorem N5_j5_ok : Sound Try.prog Try.f5.ntmps N5_j5_t (codeAt B5 [1, 1, 1, 1, 1, 1, 1, 1, 0, 1, 0, 0, 1, 0, 0, 1, 0, 1, 0, 1, 1, 1, 1, 1, 0, 1, 1, 0, 1, 0, 0, 1, 0, 0, 1, 1, 1]) := by
  refine piece_sound (fun e => match e with | .normal => [7] | _ => []) ?_
  intro x h Q hb
  refine den_sound hE hm _ .leaf _ _ _ (annOk_leaf) ?_
  refine cast ?_ hb
  kernel_rfl
def N5_l4_b (x0_script : Sl) (x4_w : Option Addr) (x5_at : Sl) (x6_there : Sl) (x8_now : Int) (x9_i : Int) (x16_l : Sl) (Φ : Int → Int → Hp → Prop) (x7_many : Int) (x17_n : Int) (h : Hp) (K_e3 : Int → Hp → Prop) (K_ret : Bool → Hp → Prop) : Prop :=
  bif (decide (x17_n < ((x16_l.n : Nat) : Int))) then
    idx x17_n x16_l.n <|
    nn x16_l.p fun a0 =>
    xI .i64 (cell h ((a0.add (x17_n.toNat * 3)).add 1)) fun n0 =>
    bif (decide (n0 < 1)) then
      K_ret false h
    else
      bif (decide (n0 ≥ ((x5_at.n : Nat) : Int))) then
        K_ret false h
      else
        idx n0 x6_there.n <|
        nn x6_there.p fun a1 =>
        xI .i64 (cell h (a1.add (n0.toNat * 1))) fun n1 =>
        bif (n1 == 0) then
          K_ret false h
        else
          idx n0 x5_at.n <|
          nn x5_at.p fun a2 =>
          xI .i64 (cell h (a2.add (n0.toNat * 1))) fun n2 =>
          idx x17_n x16_l.n <|
          nn x16_l.p fun a3 =>
          xI .i64 (cell h (a3.add (x17_n.toNat * 3))) fun n3 =>
          bif (n2 != n3) then
            K_ret false h
          else
            idx n0 x5_at.n <|
            nn x5_at.p fun a4 =>
            xI .i64 (cell h (a4.add (n0.toNat * 1))) fun n4 =>
            bif (decide (n4 > x8_now)) then
              K_ret false h
            else
              bif (decide (x17_n > 0)) then
                idx (IntKind.wrap .i64 (x17_n - 1)) x16_l.n <|
                nn x16_l.p fun a5 =>
                xI .i64 (cell h (a5.add ((IntKind.wrap .i64 (x17_n - 1)).toNat * 3))) fun n5 =>
                idx x17_n x16_l.n <|
                nn x16_l.p fun a6 =>
                xI .i64 (cell h (a6.add (x17_n.toNat * 3))) fun n6 =>
                bif (decide (n5 > n6)) then
                  K_ret false h
                else
                  idx (IntKind.wrap .i64 (x17_n - 1)) x16_l.n <|
                  nn x16_l.p fun a7 =>
                  xI .i64 (cell h (a7.add ((IntKind.wrap .i64 (x17_n - 1)).toNat * 3))) fun n7 =>
                  idx x17_n x16_l.n <|
                  nn x16_l.p fun a8 =>
                  xI .i64 (cell h (a8.add (x17_n.toNat * 3))) fun n8 =>
                  bif (n7 == n8) then
                    idx (IntKind.wrap .i64 (x17_n - 1)) x16_l.n <|
                    nn x16_l.p fun a9 =>
                    xI .i64 (cell h ((a9.add ((IntKind.wrap .i64 (x17_n - 1)).toNat * 3)).add 1)) fun n9 =>
                    bif (decide (n9 ≥ n0)) then
                      K_ret false h
                    else
                      N5_j5 x0_script x4_w x5_at x6_there x7_many x8_now x9_i x16_l x17_n n0 h
                        (fun n10 h0 =>
                          Φ n10 (IntKind.wrap .i64 (x17_n + 1)) h0)
                  else
                    N5_j5 x0_script x4_w x5_at x6_there x7_many x8_now x9_i x16_l x17_n n0 h
                      (fun n11 h1 =>
                        Φ n11 (IntKind.wrap .i64 (x17_n + 1)) h1)
              else
                N5_j5 x0_script x4_w x5_at x6_there x7_many x8_now x9_i x16_l x17_n n0 h
                  (fun n12 h2 =>
                    Φ n12 (IntKind.wrap .i64 (x17_n + 1)) h2)
  else
    K_e3 x7_many h
def N5_l4_B (x0_script : Sl) (x4_w : Option Addr) (x5_at : Sl) (x6_there : Sl) (x8_now : Int) (x9_i : Int) (x16_l : Sl) (K_e3 : Int → Hp → Prop) (K_ret : Bool → Hp → Prop) (s : Sg.T [(7, .c (.int .i64)), (17, .c (.int .i64))]) (h : Hp) (Φ : Sg.T [(7, .c (.int .i64)), (17, .c (.int .i64))] → Hp → Prop) : Prop :=
  N5_l4_b x0_script x4_w x5_at x6_there x8_now x9_i x16_l (fun x7_many x17_n h => Φ (x7_many, x17_n) h) s.1 s.2 h K_e3 K_ret
def N5_l4 (x0_script : Sl) (x4_w : Option Addr) (x5_at : Sl) (x6_there : Sl) (x8_now : Int) (x9_i : Int) (x16_l : Sl) (x7_many : Int) (x17_n : Int) (h : Hp) (K_e3 : Int → Hp → Prop) (K_ret : Bool → Hp → Prop) : Prop :=
  loopP (N5_l4_B x0_script x4_w x5_at x6_there x8_now x9_i x16_l K_e3 K_ret) (x7_many, x17_n) h
noncomputable def N5_l4_t : Xf := loopT [(0, .c (.slice)), (4, .c (.ptr)), (5, .c (.slice)), (6, .c (.slice)), (8, .c (.int .i64)), (9, .c (.int .i64)), (16, .c (.slice))] [(7, .c (.int .i64)), (17, .c (.int .i64))] (codeAt B5 [1, 1, 1, 1, 1, 1, 1, 1, 0, 1, 0, 0, 1, 0, 0, 1, 0, 1, 0, 1, 1, 1, 1, 1, 0, 1, 1, 0, 1, 0, 0]) fun F Q => N5_l4_B F.1 F.2.1 F.2.2.1 F.2.2.2.1 F.2.2.2.2.1 F.2.2.2.2.2.1 F.2.2.2.2.2.2 (fun o0 h' => Q (.exit 3) (Sg.env [(7, .c (.int .i64))] o0) h') (fun o0 h' => Q .ret (Sg.env [(2, .c (.bool))] o0) h')
theorem N5_l4_ok : Sound Try.prog Try.f5.ntmps N5_l4_t (codeAt B5 [1, 1, 1, 1, 1, 1, 1, 1, 0, 1, 0, 0, 1, 0, 0, 1, 0, 1, 0, 1, 1, 1, 1, 1, 0, 1, 1, 0, 1, 0]) := by
  refine loop_sound (fun e => match e with | .exit 3 => [7] | .ret => [2] | _ => []) (by kernel_rfl) ?_
  intro F Q s h Φ hb
  refine den_sound hE hm _ (.two .leaf (.two (.one (.two .leaf (.two (.two (.ord [0, 1, 2, 3, 4, 5, 6, 7, 8, 9, 10, 11, 12, 13, 14, 15, 16, 17, 18, 19, 20, 21, 22, 23, 24, 25, 26, 27, 28, 29, 30, 31, 32, 33, 34]) .leaf) (.two (.two (.ord [0, 1, 2, 3, 4, 5, 6, 7, 8, 9, 10, 11, 12, 13, 14, 15, 16, 17, 18, 19, 20, 21, 22, 23, 24, 25, 26, 27, 28, 29, 30, 31, 32, 33, 34, 35, 36, 37, 38, 39]) .leaf) (.xf N5_j5_t))))) .leaf)) _ _ _ (⟨annOk_leaf, ⟨⟨annOk_leaf, ⟨⟨trivial, annOk_leaf⟩, ⟨⟨trivial, annOk_leaf⟩, N5_j5_ok⟩⟩⟩, annOk_leaf⟩⟩) ?_
  refine cast ?_ hb
  kernel_rfl
def N5_l0_b (x0_script : Sl) (x4_w : Option Addr) (Φ : Sl → Sl → Int → Int → Int → Hp → Prop) (x5_at : Sl) (x6_there : Sl) (x7_many : Int) (x8_now : Int) (x9_i : Int) (h : Hp) (K_e0 : Hp → Prop) (K_ret : Bool → Hp → Prop) : Prop :=
  bif (decide (x9_i < ((x0_script.n : Nat) : Int))) then
    idx x9_i x0_script.n <|
    nn x0_script.p fun a0 =>
    xI .i64 (cell h (a0.add (x9_i.toNat * 3))) fun n0 =>
    xI .i64 (cell h ((a0.add (x9_i.toNat * 3)).add 1)) fun n1 =>
    xI .i64 (cell h ((a0.add (x9_i.toNat * 3)).add 2)) fun n2 =>
    nw h (.cells ⟨[.int .i64 0, .int .i64 0, .int .i64 0]⟩ 34) fun b0 h0 =>
    st h0 (bk b0) (.int .i64 n0) fun h1 =>
    st h1 ((bk b0).add 1) (.int .i64 n1) fun h2 =>
    st h2 ((bk b0).add 2) (.int .i64 n2) fun h3 =>
    xI .i64 (cell h3 (bk b0)) fun n3 =>
    bif (n3 == 1) then
      xI .i64 (cell h3 ((bk b0).add 1)) fun n4 =>
      xI .i64 (cell h3 ((bk b0).add 2)) fun n5 =>
      C12 x4_w n4 n5 h3 fun n6 n7 h4 =>
      bif (!((n7 == 0) == (decide (x7_many < 1024)))) then
        K_ret false h4
      else
        bif (n7 == 0) then
          bif (n6 != ((x5_at.n : Nat) : Int)) then
            K_ret false h4
          else
            N5_j1 x0_script x4_w x5_at x6_there x7_many x8_now x9_i (some (bk b0)) n7 h4
              (fun s0 s1 n8 h5 =>
                N5_j2 x0_script x4_w s0 s1 n8 x8_now x9_i h5
                  (fun h6 =>
                    Φ s0 s1 n8 x8_now (IntKind.wrap .i64 (x9_i + 1)) h6)
                  (fun b1 h7 =>
                    K_ret b1 h7))
        else
          N5_j1 x0_script x4_w x5_at x6_there x7_many x8_now x9_i (some (bk b0)) n7 h4
            (fun s2 s3 n9 h8 =>
              N5_j2 x0_script x4_w s2 s3 n9 x8_now x9_i h8
                (fun h9 =>
                  Φ s2 s3 n9 x8_now (IntKind.wrap .i64 (x9_i + 1)) h9)
                (fun b2 h10 =>
                  K_ret b2 h10))
    else
      bif (n3 == 2) then
        xI .i64 (cell h3 ((bk b0).add 1)) fun n10 =>
        bif (decide (n10 > 0)) then
          xI .i64 (cell h3 ((bk b0).add 1)) fun n11 =>
          bif (decide (n11 < ((x5_at.n : Nat) : Int))) then
            xI .i64 (cell h3 ((bk b0).add 1)) fun n12 =>
            idx n12 x6_there.n <|
            nn x6_there.p fun a1 =>
            xI .i64 (cell h3 (a1.add (n12.toNat * 1))) fun n13 =>
            N5_j3 x0_script x4_w x5_at x6_there x7_many x8_now x9_i (some (bk b0)) (n13 == 1) h3
              (fun n14 h11 =>
                N5_j2 x0_script x4_w x5_at x6_there n14 x8_now x9_i h11
                  (fun h12 =>
                    Φ x5_at x6_there n14 x8_now (IntKind.wrap .i64 (x9_i + 1)) h12)
                  (fun b3 h13 =>
                    K_ret b3 h13))
              (fun b4 h14 =>
                K_ret b4 h14)
          else
            N5_j3 x0_script x4_w x5_at x6_there x7_many x8_now x9_i (some (bk b0)) false h3
              (fun n15 h15 =>
                N5_j2 x0_script x4_w x5_at x6_there n15 x8_now x9_i h15
                  (fun h16 =>
                    Φ x5_at x6_there n15 x8_now (IntKind.wrap .i64 (x9_i + 1)) h16)
                  (fun b5 h17 =>
                    K_ret b5 h17))
              (fun b6 h18 =>
                K_ret b6 h18)
        else
          N5_j3 x0_script x4_w x5_at x6_there x7_many x8_now x9_i (some (bk b0)) false h3
            (fun n16 h19 =>
              N5_j2 x0_script x4_w x5_at x6_there n16 x8_now x9_i h19
                (fun h20 =>
                  Φ x5_at x6_there n16 x8_now (IntKind.wrap .i64 (x9_i + 1)) h20)
                (fun b7 h21 =>
                  K_ret b7 h21))
            (fun b8 h22 =>
              K_ret b8 h22)
      else
        bif (n3 == 3) then
          xI .i64 (cell h3 ((bk b0).add 1)) fun n17 =>
          xI .i64 (cell h3 ((bk b0).add 1)) fun n18 =>
          C14 x4_w n18 h3 fun s4 h23 =>
          N5_l4 x0_script x4_w x5_at x6_there (mn (mx n17 x8_now) 1125899906842624) x9_i s4 x7_many 0 h23
            (fun n19 h24 =>
              C15 x4_w h24 fun n20 b9 h25 =>
              bif (!(b9 == (decide (n19 > 0)))) then
                K_ret false h25
              else
                bif b9 then
                  bif (decide (n20 ≤ (mn (mx n17 x8_now) 1125899906842624))) then
                    K_ret false h25
                  else
                    N5_j2 x0_script x4_w x5_at x6_there n19 (mn (mx n17 x8_now) 1125899906842624) x9_i h25
                      (fun h26 =>
                        Φ x5_at x6_there n19 (mn (mx n17 x8_now) 1125899906842624) (IntKind.wrap .i64 (x9_i + 1)) h26)
                      (fun b10 h27 =>
                        K_ret b10 h27)
                else
                  N5_j2 x0_script x4_w x5_at x6_there n19 (mn (mx n17 x8_now) 1125899906842624) x9_i h25
                    (fun h28 =>
                      Φ x5_at x6_there n19 (mn (mx n17 x8_now) 1125899906842624) (IntKind.wrap .i64 (x9_i + 1)) h28)
                    (fun b11 h29 =>
                      K_ret b11 h29))
            (fun b12 h30 =>
              K_ret b12 h30)
        else
          N5_j2 x0_script x4_w x5_at x6_there x7_many x8_now x9_i h3
            (fun h31 =>
              Φ x5_at x6_there x7_many x8_now (IntKind.wrap .i64 (x9_i + 1)) h31)
            (fun b13 h32 =>
              K_ret b13 h32)
  else
    K_e0 h
def N5_l0_B (x0_script : Sl) (x4_w : Option Addr) (K_e0 : Hp → Prop) (K_ret : Bool → Hp → Prop) (s : Sg.T [(5, .c (.slice)), (6, .c (.slice)), (7, .c (.int .i64)), (8, .c (.int .i64)), (9, .c (.int .i64))]) (h : Hp) (Φ : Sg.T [(5, .c (.slice)), (6, .c (.slice)), (7, .c (.int .i64)), (8, .c (.int .i64)), (9, .c (.int .i64))] → Hp → Prop) : Prop :=
  N5_l0_b x0_script x4_w (fun x5_at x6_there x7_many x8_now x9_i h => Φ (x5_at, x6_there, x7_many, x8_now, x9_i) h) s.1 s.2.1 s.2.2.1 s.2.2.2.1 s.2.2.2.2 h K_e0 K_ret
def N5_l0 (x0_script : Sl) (x4_w : Option Addr) (x5_at : Sl) (x6_there : Sl) (x7_many : Int) (x8_now : Int) (x9_i : Int) (h : Hp) (K_e0 : Hp → Prop) (K_ret : Bool → Hp → Prop) : Prop :=
  loopP (N5_l0_B x0_script x4_w K_e0 K_ret) (x5_at, x6_there, x7_many, x8_now, x9_i) h
noncomputable def N5_l0_t : Xf := loopT [(0, .c (.slice)), (4, .c (.ptr))] [(5, .c (.slice)), (6, .c (.slice)), (7, .c (.int .i64)), (8, .c (.int .i64)), (9, .c (.int .i64))] (codeAt B5 [1, 1, 1, 1, 1, 1, 1, 1, 0, 1, 0, 0]) fun F Q => N5_l0_B F.1 F.2 (fun h' => Q (.exit 0) (Sg.env [] ()) h') (fun o0 h' => Q .ret (Sg.env [(2, .c (.bool))] o0) h')
theorem N5_l0_ok : Sound Try.prog Try.f5.ntmps N5_l0_t (codeAt B5 [1, 1, 1, 1, 1, 1, 1, 1, 0, 1, 0]) := by
  refine loop_sound (fun e => match e with | .exit 0 => [] | .ret => [2] | _ => []) (by kernel_rfl) ?_
  intro F Q s h Φ hb
  refine den_sound hE hm _ (.two .leaf (.two (.one (.two .leaf (.two (.two .leaf (.one (.two .leaf (.two (.two .leaf (.two .leaf (.xf N5_j1_t))) (.two .leaf (.two (.two .leaf (.xf N5_j3_t)) (.two .leaf (.two (.two .leaf (.two .leaf (.two (.two .leaf (.one (.xf N5_l4_t))) .leaf))) .leaf)))))))) (.xf N5_j2_t)))) .leaf)) _ _ _ (⟨annOk_leaf, ⟨⟨annOk_leaf, ⟨⟨annOk_leaf, ⟨annOk_leaf, ⟨⟨annOk_leaf, ⟨annOk_leaf, N5_j1_ok⟩⟩, ⟨annOk_leaf, ⟨⟨annOk_leaf, N5_j3_ok⟩, ⟨annOk_leaf, ⟨⟨annOk_leaf, ⟨annOk_leaf, ⟨⟨annOk_leaf, N5_l4_ok⟩, annOk_leaf⟩⟩⟩, annOk_leaf⟩⟩⟩⟩⟩⟩⟩, N5_j2_ok⟩⟩, annOk_leaf⟩⟩) ?_
  refine cast ?_ hb
  kernel_rfl
def N5 (x0 : Sl) (h : Hp) (K : Bool → Hp → Prop) : Prop :=
  C7 h fun b0 h0 =>
  C8 h0 fun p0 h1 =>
  bif (!b0) then
    K false h1
  else
    peq h1 p0 none fun b1 =>
    bif b1 then
      K false h1
    else
      nw h1 (.cells ⟨[.int .i64 0]⟩ 3) fun b2 h2 =>
      nw h2 (.cells ⟨[.int .i64 0]⟩ 3) fun b3 h3 =>
      N5_l0 x0 p0 ⟨some (bk b2), 1, 1⟩ ⟨some (bk b3), 1, 1⟩ 0 0 0 h3
        (fun h4 =>
          K true h4)
        (fun b4 h5 =>
          K b4 h5)
theorem S5 {x0 : Sl} {h : Hp} {K : Bool → Hp → Prop} (hn : N5 x0 h K) : C5 x0 h K := by
  refine calls_of_D Try.func5 (c := B5) rfl (by kernel_rfl) ?_
  refine den_sound hE hm _ (.two .leaf (.two .leaf (.two .leaf (.two .leaf (.two .leaf (.two .leaf (.two .leaf (.two .leaf (.two (.two .leaf (.one (.xf N5_l0_t))) .leaf))))))))) _ _ _ (⟨annOk_leaf, ⟨annOk_leaf, ⟨annOk_leaf, ⟨annOk_leaf, ⟨annOk_leaf, ⟨annOk_leaf, ⟨annOk_leaf, ⟨annOk_leaf, ⟨⟨annOk_leaf, N5_l0_ok⟩, annOk_leaf⟩⟩⟩⟩⟩⟩⟩⟩⟩) ?_
  refine cast ?_ hn
  kernel_rfl
end Go.Proofs.Ytfnlldbaplakoaa

set_option linter.unusedVariables false
set_option maxRecDepth 100000
namespace Go.Proofs.Ytfnlldbaplakoaa
open Go Go.Hw
/-! ### 6 slipway/slipwaylaw07.WheelCuts -/
noncomputable def B6 : Code := match Try.f6.body with | some c => c | none => .skip
def N6_j1 (x0_ahead : Sl) (x1_stops : Sl) (x2_to : Int) (x8_w : Option Addr) (x9_v : Option Addr) (x10_i : Int) (x11_o : Option Addr) (h : Hp) (K_normal : Hp → Prop) (K_ret : Bool → Hp → Prop) : Prop :=
  nn x11_o fun a0 =>
  xI .i64 (cell h a0) fun n0 =>
  bif (n0 == 3) then
    nn x11_o fun a1 =>
    xI .i64 (cell h (a1.add 1)) fun n1 =>
    C14 x8_w n1 h fun s0 h0 =>
    nn x11_o fun a2 =>
    xI .i64 (cell h0 (a2.add 1)) fun n2 =>
    C14 x9_v n2 h0 fun s1 h1 =>
    C18 s0 s1 h1 fun b0 h2 =>
    bif (!b0) then
      K_ret false h2
    else
      K_normal h2
  else
    K_normal h
noncomputable def N6_j1_t : Xf := pieceT [(0, .c (.slice)), (1, .c (.slice)), (2, .c (.int .i64)), (8, .c (.ptr)), (9, .c (.ptr)), (10, .c (.int .i64)), (11, .c (.ptr))] (codeAt B6 [1, 1, 1, 1, 1, 0, 1, 0, 0, 1, 0, 0, 1, 1]) fun x h Q => N6_j1 x.1 x.2.1 x.2.2.1 x.2.2.2.1 x.2.2.2.2.1 x.2.2.2.2.2.1 x.2.2.2.2.2.2 h (fun h' => Q .normal (Sg.env [] ()) h') (fun o0 h' => Q .ret (Sg.env [(6, .c (.bool))] o0) h')
theorem N6_j1_ok : Sound Try.prog Try.f6.ntmps N6_j1_t (codeAt B6 [1, 1, 1, 1, 1, 0, 1, 0, 0, 1, 0, 0, 1, 1]) := by
  refine piece_sound (fun e => match e with | .normal => [] | .ret => [6] | _ => []) ?_
  intro x h Q hb
  refine den_sound hE hm _ .leaf _ _ _ (annOk_leaf) ?_
  refine cast ?_ hb
  kernel_rfl
def N6_l0_b (x0_ahead : Sl) (x1_stops : Sl) (x2_to : Int) (x8_w : Option Addr) (x9_v : Option Addr) (Φ : Int → Hp → Prop) (x10_i : Int) (h : Hp) (K_e0 : Hp → Prop) (K_ret : Bool → Hp → Prop) : Prop :=
  bif (decide (x10_i < ((x0_ahead.n : Nat) : Int))) then
    idx x10_i x0_ahead.n <|
    nn x0_ahead.p fun a0 =>
    xI .i64 (cell h (a0.add (x10_i.toNat * 3))) fun n0 =>
    xI .i64 (cell h ((a0.add (x10_i.toNat * 3)).add 1)) fun n1 =>
    xI .i64 (cell h ((a0.add (x10_i.toNat * 3)).add 2)) fun n2 =>
    nw h (.cells ⟨[.int .i64 0, .int .i64 0, .int .i64 0]⟩ 34) fun b0 h0 =>
    st h0 (bk b0) (.int .i64 n0) fun h1 =>
    st h1 ((bk b0).add 1) (.int .i64 n1) fun h2 =>
    st h2 ((bk b0).add 2) (.int .i64 n2) fun h3 =>
    xI .i64 (cell h3 (bk b0)) fun n3 =>
    bif (n3 == 1) then
      xI .i64 (cell h3 ((bk b0).add 1)) fun n4 =>
      xI .i64 (cell h3 ((bk b0).add 2)) fun n5 =>
      C12 x8_w n4 n5 h3 fun n6 n7 h4 =>
      xI .i64 (cell h4 ((bk b0).add 1)) fun n8 =>
      xI .i64 (cell h4 ((bk b0).add 2)) fun n9 =>
      C12 x9_v n8 n9 h4 fun n10 n11 h5 =>
      bif (n6 != n10) then
        K_ret false h5
      else
        bif (n7 != n11) then
          K_ret false h5
        else
          N6_j1 x0_ahead x1_stops x2_to x8_w x9_v x10_i (some (bk b0)) h5
            (fun h6 =>
              Φ (IntKind.wrap .i64 (x10_i + 1)) h6)
            (fun b1 h7 =>
              K_ret b1 h7)
    else
      N6_j1 x0_ahead x1_stops x2_to x8_w x9_v x10_i (some (bk b0)) h3
        (fun h8 =>
          Φ (IntKind.wrap .i64 (x10_i + 1)) h8)
        (fun b2 h9 =>
          K_ret b2 h9)
  else
    K_e0 h
def N6_l0_B (x0_ahead : Sl) (x1_stops : Sl) (x2_to : Int) (x8_w : Option Addr) (x9_v : Option Addr) (K_e0 : Hp → Prop) (K_ret : Bool → Hp → Prop) (s : Sg.T [(10, .c (.int .i64))]) (h : Hp) (Φ : Sg.T [(10, .c (.int .i64))] → Hp → Prop) : Prop :=
  N6_l0_b x0_ahead x1_stops x2_to x8_w x9_v (fun x10_i h => Φ x10_i h) s h K_e0 K_ret
def N6_l0 (x0_ahead : Sl) (x1_stops : Sl) (x2_to : Int) (x8_w : Option Addr) (x9_v : Option Addr) (x10_i : Int) (h : Hp) (K_e0 : Hp → Prop) (K_ret : Bool → Hp → Prop) : Prop :=
  loopP (N6_l0_B x0_ahead x1_stops x2_to x8_w x9_v K_e0 K_ret) x10_i h
noncomputable def N6_l0_t : Xf := loopT [(0, .c (.slice)), (1, .c (.slice)), (2, .c (.int .i64)), (8, .c (.ptr)), (9, .c (.ptr))] [(10, .c (.int .i64))] (codeAt B6 [1, 1, 1, 1, 1, 0, 1, 0, 0]) fun F Q => N6_l0_B F.1 F.2.1 F.2.2.1 F.2.2.2.1 F.2.2.2.2 (fun h' => Q (.exit 0) (Sg.env [] ()) h') (fun o0 h' => Q .ret (Sg.env [(6, .c (.bool))] o0) h')
theorem N6_l0_ok : Sound Try.prog Try.f6.ntmps N6_l0_t (codeAt B6 [1, 1, 1, 1, 1, 0, 1, 0]) := by
  refine loop_sound (fun e => match e with | .exit 0 => [] | .ret => [6] | _ => []) (by kernel_rfl) ?_
  intro F Q s h Φ hb
  refine den_sound hE hm _ (.two .leaf (.two (.one (.two .leaf (.two .leaf (.xf N6_j1_t)))) .leaf)) _ _ _ (⟨annOk_leaf, ⟨⟨annOk_leaf, ⟨annOk_leaf, N6_j1_ok⟩⟩, annOk_leaf⟩⟩) ?_
  refine cast ?_ hb
  kernel_rfl
def N6_l2_b (x1_stops : Sl) (x2_to : Int) (x8_w : Option Addr) (x9_v : Option Addr) (Φ : Sl → Int → Hp → Prop) (x19_l : Sl) (x20_i : Int) (h : Hp) (K_e2 : Sl → Hp → Prop) : Prop :=
  bif (decide (x20_i < ((x1_stops.n : Nat) : Int))) then
    idx x20_i x1_stops.n <|
    nn x1_stops.p fun a0 =>
    xI .i64 (cell h (a0.add (x20_i.toNat * 1))) fun n0 =>
    bif (decide (n0 ≤ x2_to)) then
      idx x20_i x1_stops.n <|
      nn x1_stops.p fun a1 =>
      xI .i64 (cell h (a1.add (x20_i.toNat * 1))) fun n1 =>
      C14 x9_v n1 h fun s0 h0 =>
      apK Try.prog 44 x19_l (.slice s0.p s0.n s0.c) h0 fun s1 h1 =>
      Φ s1 (IntKind.wrap .i64 (x20_i + 1)) h1
    else
      Φ x19_l (IntKind.wrap .i64 (x20_i + 1)) h
  else
    K_e2 x19_l h
def N6_l2_B (x1_stops : Sl) (x2_to : Int) (x8_w : Option Addr) (x9_v : Option Addr) (K_e2 : Sl → Hp → Prop) (s : Sg.T [(19, .c (.slice)), (20, .c (.int .i64))]) (h : Hp) (Φ : Sg.T [(19, .c (.slice)), (20, .c (.int .i64))] → Hp → Prop) : Prop :=
  N6_l2_b x1_stops x2_to x8_w x9_v (fun x19_l x20_i h => Φ (x19_l, x20_i) h) s.1 s.2 h K_e2
def N6_l2 (x1_stops : Sl) (x2_to : Int) (x8_w : Option Addr) (x9_v : Option Addr) (x19_l : Sl) (x20_i : Int) (h : Hp) (K_e2 : Sl → Hp → Prop) : Prop :=
  loopP (N6_l2_B x1_stops x2_to x8_w x9_v K_e2) (x19_l, x20_i) h
noncomputable def N6_l2_t : Xf := loopT [(1, .c (.slice)), (2, .c (.int .i64)), (8, .c (.ptr)), (9, .c (.ptr))] [(19, .c (.slice)), (20, .c (.int .i64))] (codeAt B6 [1, 1, 1, 1, 1, 1, 1, 0, 1, 0, 0]) fun F Q => N6_l2_B F.1 F.2.1 F.2.2.1 F.2.2.2 (fun o0 h' => Q (.exit 2) (Sg.env [(19, .c (.slice))] o0) h')
theorem N6_l2_ok : Sound Try.prog Try.f6.ntmps N6_l2_t (codeAt B6 [1, 1, 1, 1, 1, 1, 1, 0, 1, 0]) := by
  refine loop_sound (fun e => match e with | .exit 2 => [19] | _ => []) (by kernel_rfl) ?_
  intro F Q s h Φ hb
  refine den_sound hE hm _ .leaf _ _ _ (annOk_leaf) ?_
  refine cast ?_ hb
  kernel_rfl
def N6 (x0 : Sl) (x1 : Sl) (x2 : Int) (h : Hp) (K : Bool → Hp → Prop) : Prop :=
  C7 h fun b0 h0 =>
  C8 h0 fun p0 h1 =>
  C8 h1 fun p1 h2 =>
  bif (!b0) then
    K false h2
  else
    peq h2 p0 none fun b1 =>
    bif b1 then
      K false h2
    else
      peq h2 p1 none fun b2 =>
      bif b2 then
        K false h2
      else
        N6_l0 x0 x1 x2 p0 p1 0 h2
          (fun h3 =>
            N6_l2 x1 x2 p0 p1 ⟨none, 0, 0⟩ 0 h3
              (fun s0 h4 =>
                C14 p1 x2 h4 fun s1 h5 =>
                apK Try.prog 44 s0 (.slice s1.p s1.n s1.c) h5 fun s2 h6 =>
                C14 p0 x2 h6 fun s3 h7 =>
                C18 s3 s2 h7 fun b3 h8 =>
                C15 p0 h8 fun n0 b4 h9 =>
                C15 p1 h9 fun n1 b5 h10 =>
                bif b3 then
                  bif (n0 == n1) then
                    bif (b4 == b5) then
                      C17 p0 h10 fun n2 h11 =>
                      C17 p1 h11 fun n3 h12 =>
                      bif (n2 == n3) then
                        C16 p0 h12 fun n4 h13 =>
                        C16 p1 h13 fun n5 h14 =>
                        K (n4 == n5) h14
                      else
                        K false h12
                    else
                      K false h10
                  else
                    K false h10
                else
                  K false h10))
          (fun b6 h15 =>
            K b6 h15)
theorem S6 {x0 : Sl} {x1 : Sl} {x2 : Int} {h : Hp} {K : Bool → Hp → Prop} (hn : N6 x0 x1 x2 h K) : C6 x0 x1 x2 h K := by
  refine calls_of_D Try.func6 (c := B6) rfl (by kernel_rfl) ?_
  refine den_sound hE hm _ (.two .leaf (.two .leaf (.two .leaf (.two .leaf (.two .leaf (.two (.two .leaf (.one (.xf N6_l0_t))) (.two .leaf (.two (.two .leaf (.one (.xf N6_l2_t))) .leaf)))))))) _ _ _ (⟨annOk_leaf, ⟨annOk_leaf, ⟨annOk_leaf, ⟨annOk_leaf, ⟨annOk_leaf, ⟨⟨annOk_leaf, N6_l0_ok⟩, ⟨annOk_leaf, ⟨⟨annOk_leaf, N6_l2_ok⟩, annOk_leaf⟩⟩⟩⟩⟩⟩⟩⟩) ?_
  refine cast ?_ hn
  kernel_rfl
end Go.Proofs.Ytfnlldbaplakoaa

set_option linter.unusedVariables false
set_option maxRecDepth 100000
namespace Go.Proofs.Ytfnlldbaplakoaa
open Go Go.Hw
/-! ### 7 slipway/slipwaylaw07.live -/
noncomputable def B7 : Code := match Try.f7.body with | some c => c | none => .skip
def N7  (h : Hp) (K : Bool → Hp → Prop) : Prop :=
  C8 h fun p0 h0 =>
  peq h0 p0 none fun b0 =>
  bif b0 then
    K false h0
  else
    C15 p0 h0 fun n0 b1 h1 =>
    C12 p0 7 70 h1 fun n1 n2 h2 =>
    C12 p0 5 50 h2 fun n3 n4 h3 =>
    C15 p0 h3 fun n5 b2 h4 =>
    C13 p0 n1 h4 fun b3 h5 =>
    C14 p0 6 h5 fun s0 h6 =>
    nw h6 (.cells ⟨[.int .i64 5, .int .i64 2, .int .i64 50]⟩ 44) fun b4 h7 =>
    C18 s0 ⟨some (bk b4), 1, 1⟩ h7 fun b5 h8 =>
    bif (!b1) then
      bif (n1 == 1) then
        bif (n2 == 0) then
          bif (n3 == 2) then
            bif (n4 == 0) then
              bif (n5 == 5) then
                bif b2 then
                  bif b3 then
                    bif b5 then
                      C17 p0 h8 fun n6 h9 =>
                      bif (n6 == 6) then
                        C16 p0 h9 fun n7 h10 =>
                        K (n7 == 0) h10
                      else
                        K false h9
                    else
                      K false h8
                  else
                    K false h8
                else
                  K false h8
              else
                K false h8
            else
              K false h8
          else
            K false h8
        else
          K false h8
      else
        K false h8
    else
      K false h8
theorem S7 {h : Hp} {K : Bool → Hp → Prop} (hn : N7 h K) : C7 h K := by
  refine calls_of_D Try.func7 (c := B7) rfl (by kernel_rfl) ?_
  refine den_sound hE hm _ .leaf _ _ _ (annOk_leaf) ?_
  refine cast ?_ hn
  kernel_rfl
end Go.Proofs.Ytfnlldbaplakoaa

set_option linter.unusedVariables false
set_option maxRecDepth 100000
namespace Go.Proofs.Ytfnlldbaplakoaa
open Go Go.Hw
/-! ### 8 slipway/wheel.New -/
noncomputable def B8 : Code := match Try.f8.body with | some c => c | none => .skip
def N8  (h : Hp) (K : Option Addr → Hp → Prop) : Prop :=
  nw h (.map #[] 0) fun b0 h0 =>
  nw h0 (.cells ⟨[.int .i64 0, .int .i64 0, .slice none 0 0, .slice none 0 0, .slice none 0 0, .slice none 0 0, .slice none 0 0, .slice none 0 0, .slice none 0 0, .slice none 0 0, .slice none 0 0, .slice none 0 0, .slice none 0 0, .slice none 0 0, .slice none 0 0, .slice none 0 0, .slice none 0 0, .slice none 0 0, .slice none 0 0, .slice none 0 0, .slice none 0 0, .slice none 0 0, .slice none 0 0, .slice none 0 0, .slice none 0 0, .slice none 0 0, .slice none 0 0, .slice none 0 0, .slice none 0 0, .slice none 0 0, .slice none 0 0, .slice none 0 0, .slice none 0 0, .slice none 0 0, .slice none 0 0, .slice none 0 0, .slice none 0 0, .slice none 0 0, .slice none 0 0, .slice none 0 0, .slice none 0 0, .slice none 0 0, .slice none 0 0, .slice none 0 0, .slice none 0 0, .slice none 0 0, .slice none 0 0, .slice none 0 0, .slice none 0 0, .slice none 0 0, .slice none 0 0, .slice none 0 0, .slice none 0 0, .slice none 0 0, .slice none 0 0, .slice none 0 0, .slice none 0 0, .slice none 0 0, .slice none 0 0, .slice none 0 0, .slice none 0 0, .slice none 0 0, .slice none 0 0, .slice none 0 0, .slice none 0 0, .slice none 0 0, .slice none 0 0, .slice none 0 0, .slice none 0 0, .slice none 0 0, .slice none 0 0, .slice none 0 0, .slice none 0 0, .slice none 0 0, .slice none 0 0, .slice none 0 0, .slice none 0 0, .slice none 0 0, .slice none 0 0, .slice none 0 0, .slice none 0 0, .slice none 0 0, .slice none 0 0, .slice none 0 0, .slice none 0 0, .slice none 0 0, .slice none 0 0, .slice none 0 0, .slice none 0 0, .slice none 0 0, .slice none 0 0, .slice none 0 0, .slice none 0 0, .slice none 0 0, .slice none 0 0, .slice none 0 0, .slice none 0 0, .slice none 0 0, .slice none 0 0, .slice none 0 0, .slice none 0 0, .slice none 0 0, .slice none 0 0, .slice none 0 0, .slice none 0 0, .slice none 0 0, .slice none 0 0, .slice none 0 0, .slice none 0 0, .slice none 0 0, .slice none 0 0, .slice none 0 0, .slice none 0 0, .slice none 0 0, .slice none 0 0, .slice none 0 0, .slice none 0 0, .slice none 0 0, .slice none 0 0, .slice none 0 0, .slice none 0 0, .slice none 0 0, .slice none 0 0, .slice none 0 0, .slice none 0 0, .slice none 0 0, .slice none 0 0, .slice none 0 0, .slice none 0 0, .slice none 0 0, .slice none 0 0, .slice none 0 0, .slice none 0 0, .slice none 0 0, .slice none 0 0, .slice none 0 0, .slice none 0 0, .slice none 0 0, .slice none 0 0, .slice none 0 0, .slice none 0 0, .slice none 0 0, .slice none 0 0, .slice none 0 0, .slice none 0 0, .slice none 0 0, .slice none 0 0, .slice none 0 0, .slice none 0 0, .slice none 0 0, .slice none 0 0, .slice none 0 0, .slice none 0 0, .slice none 0 0, .slice none 0 0, .slice none 0 0, .slice none 0 0, .slice none 0 0, .slice none 0 0, .slice none 0 0, .slice none 0 0, .slice none 0 0, .slice none 0 0, .slice none 0 0, .slice none 0 0, .slice none 0 0, .slice none 0 0, .slice none 0 0, .slice none 0 0, .slice none 0 0, .slice none 0 0, .slice none 0 0, .slice none 0 0, .slice none 0 0, .slice none 0 0, .slice none 0 0, .slice none 0 0, .slice none 0 0, .slice none 0 0, .slice none 0 0, .slice none 0 0, .slice none 0 0, .slice none 0 0, .slice none 0 0, .slice none 0 0, .slice none 0 0, .slice none 0 0, .slice none 0 0, .slice none 0 0, .slice none 0 0, .slice none 0 0, .slice none 0 0, .slice none 0 0, .slice none 0 0, .slice none 0 0, .slice none 0 0, .slice none 0 0, .slice none 0 0, .slice none 0 0, .slice none 0 0, .slice none 0 0, .slice none 0 0, .slice none 0 0, .slice none 0 0, .slice none 0 0, .slice none 0 0, .slice none 0 0, .slice none 0 0, .slice none 0 0, .slice none 0 0, .slice none 0 0, .slice none 0 0, .slice none 0 0, .slice none 0 0, .slice none 0 0, .slice none 0 0, .slice none 0 0, .slice none 0 0, .slice none 0 0, .slice none 0 0, .slice none 0 0, .slice none 0 0, .slice none 0 0, .slice none 0 0, .slice none 0 0, .slice none 0 0, .slice none 0 0, .slice none 0 0, .slice none 0 0, .slice none 0 0, .slice none 0 0, .slice none 0 0, .slice none 0 0, .slice none 0 0, .slice none 0 0, .slice none 0 0, .slice none 0 0, .slice none 0 0, .slice none 0 0, .slice none 0 0, .slice none 0 0, .slice none 0 0, .slice none 0 0, .slice none 0 0, .slice none 0 0, .slice none 0 0, .slice none 0 0, .slice none 0 0, .slice none 0 0, .slice none 0 0, .slice none 0 0, .slice none 0 0, .slice none 0 0, .slice none 0 0, .slice none 0 0, .slice none 0 0, .slice none 0 0, .slice none 0 0, .slice none 0 0, .nilFunc, .map (some b0)]⟩ 58) fun b1 h1 =>
  st h1 ((bk b1).add 259) (.func (.func 19) ⟨[.pointer (some (bk b1))]⟩ ⟨[]⟩) fun h2 =>
  K (some (bk b1)) h2
theorem S8 {h : Hp} {K : Option Addr → Hp → Prop} (hn : N8 h K) : C8 h K := by
  refine calls_of_D Try.func8 (c := B8) rfl (by kernel_rfl) ?_
  refine den_sound hE hm _ .leaf _ _ _ (annOk_leaf) ?_
  refine cast ?_ hn
  kernel_rfl
end Go.Proofs.Ytfnlldbaplakoaa

set_option linter.unusedVariables false
set_option maxRecDepth 100000
namespace Go.Proofs.Ytfnlldbaplakoaa
open Go Go.Hw
/-! ### 9 slipway/slipwayref07.New -/
noncomputable def B9 : Code := match Try.f9.body with | some c => c | none => .skip
def N9  (h : Hp) (K : Option Addr → Hp → Prop) : Prop :=
  nw h (.cells ⟨[.int .i64 0, .slice none 0 0, .int .i64 0]⟩ 60) fun b0 h0 =>
  K (some (bk b0)) h0
theorem S9 {h : Hp} {K : Option Addr → Hp → Prop} (hn : N9 h K) : C9 h K := by
  refine calls_of_D Try.func9 (c := B9) rfl (by kernel_rfl) ?_
  refine den_sound hE hm _ .leaf _ _ _ (annOk_leaf) ?_
  refine cast ?_ hn
  kernel_rfl
end Go.Proofs.Ytfnlldbaplakoaa

set_option linter.unusedVariables false
set_option maxRecDepth 100000
namespace Go.Proofs.Ytfnlldbaplakoaa
open Go Go.Hw
/-! ### 10 slipway/slipwaylaw07.step -/
noncomputable def B10 : Code := match Try.f10.body with | some c => c | none => .skip
def N10 (x0 : Option Addr) (x1 : Option Addr) (x2 : Option Addr) (x3_0 : Int) (x3_1 : Int) (x3_2 : Int) (h : Hp) (K : Bool → Hp → Prop) : Prop :=
  nw h (.cells ⟨[.int .i64 x3_0, .int .i64 x3_1, .int .i64 x3_2]⟩ 34) fun b0 h0 =>
  xI .i64 (cell h0 (bk b0)) fun n0 =>
  bif (n0 == 1) then
    xI .i64 (cell h0 ((bk b0).add 1)) fun n1 =>
    xI .i64 (cell h0 ((bk b0).add 2)) fun n2 =>
    C12 x1 n1 n2 h0 fun n3 n4 h1 =>
    xI .i64 (cell h1 ((bk b0).add 1)) fun n5 =>
    xI .i64 (cell h1 ((bk b0).add 2)) fun n6 =>
    C20 x2 n5 n6 h1 fun n7 n8 h2 =>
    bif (n3 == n7) then
      K (n4 == n8) h2
    else
      K false h2
  else
    bif (n0 == 2) then
      xI .i64 (cell h0 ((bk b0).add 1)) fun n9 =>
      xI .i64 (cell h0 ((bk b0).add 1)) fun n10 =>
      C13 x1 n9 h0 fun b1 h3 =>
      both (xI .i64 (cell h3 ((bk b0).add 1)) fun n11 => Only (.int .i64 n10) h3 (.int .i64 n11) h3) <|
      C21 x2 n10 h3 fun b2 h4 =>
      K (b1 == b2) h4
    else
      bif (n0 == 3) then
        xI .i64 (cell h0 ((bk b0).add 1)) fun n12 =>
        C14 x1 n12 h0 fun s0 h5 =>
        xI .i64 (cell h5 ((bk b0).add 1)) fun n13 =>
        C22 x2 n13 h5 fun s1 h6 =>
        C18 s0 s1 h6 fun b3 h7 =>
        C23 x0 s0 s1 h7 fun h8 =>
        K b3 h8
      else
        bif (n0 == 4) then
          C15 x1 h0 fun n14 b4 h9 =>
          C24 x2 h9 fun n15 b5 h10 =>
          bif (n14 == n15) then
            K (b4 == b5) h10
          else
            K false h10
        else
          bif (n0 == 5) then
            C17 x1 h0 fun n16 h11 =>
            C25 x2 h11 fun n17 h12 =>
            bif (n16 == n17) then
              C16 x1 h12 fun n18 h13 =>
              C26 x2 h13 fun n19 h14 =>
              K (n18 == n19) h14
            else
              K false h12
          else
            K true h0
theorem S10 {x0 : Option Addr} {x1 : Option Addr} {x2 : Option Addr} {x3_0 : Int} {x3_1 : Int} {x3_2 : Int} {h : Hp} {K : Bool → Hp → Prop} (hn : N10 x0 x1 x2 x3_0 x3_1 x3_2 h K) : C10 x0 x1 x2 x3_0 x3_1 x3_2 h K := by
  refine calls_of_D Try.func10 (c := B10) rfl (by kernel_rfl) ?_
  refine den_sound hE hm _ (.two .leaf (.two (.two .leaf (.one (.two .leaf (.two .leaf (.two .leaf (.two (.two (.ord [0, 1, 2, 4, 5, 6, 3, 7, 8, 9]) .leaf) .leaf)))))) .leaf)) _ _ _ (⟨annOk_leaf, ⟨⟨annOk_leaf, ⟨annOk_leaf, ⟨annOk_leaf, ⟨annOk_leaf, ⟨⟨trivial, annOk_leaf⟩, annOk_leaf⟩⟩⟩⟩⟩, annOk_leaf⟩⟩) ?_
  refine cast ?_ hn
  kernel_rfl
end Go.Proofs.Ytfnlldbaplakoaa

set_option linter.unusedVariables false
set_option maxRecDepth 100000
namespace Go.Proofs.Ytfnlldbaplakoaa
open Go Go.Hw
/-! ### 11 (*slipway/slipwaylaw07.kept).stands -/
noncomputable def B11 : Code := match Try.f11.body with | some c => c | none => .skip
def N11_l0_b (x0_k : Option Addr) (Φ : Int → Hp → Prop) (x3_i : Int) (h : Hp) (K_e0 : Hp → Prop) (K_ret : Bool → Hp → Prop) : Prop :=
  nn x0_k fun a0 =>
  xL (cell h a0) fun s0 =>
  bif (decide (x3_i < ((s0.n : Nat) : Int))) then
    nn x0_k fun a1 =>
    xL (cell h a1) fun s1 =>
    idx x3_i s1.n <|
    nn s1.p fun a2 =>
    xL (cell h (a2.add (x3_i.toNat * 1))) fun s2 =>
    nn x0_k fun a3 =>
    xL (cell h (a3.add 1)) fun s3 =>
    idx x3_i s3.n <|
    nn s3.p fun a4 =>
    xL (cell h (a4.add (x3_i.toNat * 1))) fun s4 =>
    C18 s2 s4 h fun b0 h0 =>
    bif (!b0) then
      K_ret false h0
    else
      Φ (IntKind.wrap .i64 (x3_i + 1)) h0
  else
    K_e0 h
def N11_l0_B (x0_k : Option Addr) (K_e0 : Hp → Prop) (K_ret : Bool → Hp → Prop) (s : Sg.T [(3, .c (.int .i64))]) (h : Hp) (Φ : Sg.T [(3, .c (.int .i64))] → Hp → Prop) : Prop :=
  N11_l0_b x0_k (fun x3_i h => Φ x3_i h) s h K_e0 K_ret
def N11_l0 (x0_k : Option Addr) (x3_i : Int) (h : Hp) (K_e0 : Hp → Prop) (K_ret : Bool → Hp → Prop) : Prop :=
  loopP (N11_l0_B x0_k K_e0 K_ret) x3_i h
noncomputable def N11_l0_t : Xf := loopT [(0, .c (.ptr))] [(3, .c (.int .i64))] (codeAt B11 [1, 0, 1, 0, 0]) fun F Q => N11_l0_B F (fun h' => Q (.exit 0) (Sg.env [] ()) h') (fun o0 h' => Q .ret (Sg.env [(2, .c (.bool))] o0) h')
theorem N11_l0_ok : Sound Try.prog Try.f11.ntmps N11_l0_t (codeAt B11 [1, 0, 1, 0]) := by
  refine loop_sound (fun e => match e with | .exit 0 => [] | .ret => [2] | _ => []) (by kernel_rfl) ?_
  intro F Q s h Φ hb
  refine den_sound hE hm _ (.two .leaf (.two (.one (.two (.ord [0, 1, 2, 3, 4, 5, 6, 7, 8, 9, 10, 11, 12, 13, 14, 15]) .leaf)) .leaf)) _ _ _ (⟨annOk_leaf, ⟨⟨trivial, annOk_leaf⟩, annOk_leaf⟩⟩) ?_
  refine cast ?_ hb
  kernel_rfl
def N11_l2_b (x0_k : Option Addr) (x5_grown : Sl) (x6_i : Int) (x7_g : Sl) (Φ : Int → Hp → Prop) (x8_n : Int) (h : Hp) (K_e4 : Hp → Prop) : Prop :=
  bif (decide (x8_n < ((x7_g.n : Nat) : Int))) then
    idx x8_n x7_g.n <|
    nn x7_g.p fun a0 =>
    st h (a0.add (x8_n.toNat * 3)) (.int .i64 (IntKind.wrap .i64 ((-1000) - x6_i))) fun h0 =>
    st h0 ((a0.add (x8_n.toNat * 3)).add 1) (.int .i64 x8_n) fun h1 =>
    st h1 ((a0.add (x8_n.toNat * 3)).add 2) (.int .i64 0) fun h2 =>
    Φ (IntKind.wrap .i64 (x8_n + 1)) h2
  else
    K_e4 h
def N11_l2_B (x0_k : Option Addr) (x5_grown : Sl) (x6_i : Int) (x7_g : Sl) (K_e4 : Hp → Prop) (s : Sg.T [(8, .c (.int .i64))]) (h : Hp) (Φ : Sg.T [(8, .c (.int .i64))] → Hp → Prop) : Prop :=
  N11_l2_b x0_k x5_grown x6_i x7_g (fun x8_n h => Φ x8_n h) s h K_e4
def N11_l2 (x0_k : Option Addr) (x5_grown : Sl) (x6_i : Int) (x7_g : Sl) (x8_n : Int) (h : Hp) (K_e4 : Hp → Prop) : Prop :=
  loopP (N11_l2_B x0_k x5_grown x6_i x7_g K_e4) x8_n h
noncomputable def N11_l2_t : Xf := loopT [(0, .c (.ptr)), (5, .c (.slice)), (6, .c (.int .i64)), (7, .c (.slice))] [(8, .c (.int .i64))] (codeAt B11 [1, 1, 1, 0, 1, 0, 0, 1, 0, 0, 1, 0, 1, 0, 0]) fun F Q => N11_l2_B F.1 F.2.1 F.2.2.1 F.2.2.2 (fun h' => Q (.exit 4) (Sg.env [] ()) h')
theorem N11_l2_ok : Sound Try.prog Try.f11.ntmps N11_l2_t (codeAt B11 [1, 1, 1, 0, 1, 0, 0, 1, 0, 0, 1, 0, 1, 0]) := by
  refine loop_sound (fun e => match e with | .exit 4 => [] | _ => []) (by kernel_rfl) ?_
  intro F Q s h Φ hb
  refine den_sound hE hm _ .leaf _ _ _ (annOk_leaf) ?_
  refine cast ?_ hb
  kernel_rfl
def N11_l3_b (x0_k : Option Addr) (x5_grown : Sl) (x6_i : Int) (Φ : Sl → Int → Hp → Prop) (x7_g : Sl) (x9_n : Int) (h : Hp) (K_e6 : Sl → Hp → Prop) : Prop :=
  bif (decide (x9_n < 9)) then
    nw h (.cells ⟨[.int .i64 (IntKind.wrap .i64 ((-1000) - x6_i)), .int .i64 ((x7_g.n : Nat) : Int), .int .i64 0]⟩ 44) fun b0 h0 =>
    apK Try.prog 44 x7_g (.slice (some (bk b0)) 1 1) h0 fun s0 h1 =>
    Φ s0 (IntKind.wrap .i64 (x9_n + 1)) h1
  else
    K_e6 x7_g h
def N11_l3_B (x0_k : Option Addr) (x5_grown : Sl) (x6_i : Int) (K_e6 : Sl → Hp → Prop) (s : Sg.T [(7, .c (.slice)), (9, .c (.int .i64))]) (h : Hp) (Φ : Sg.T [(7, .c (.slice)), (9, .c (.int .i64))] → Hp → Prop) : Prop :=
  N11_l3_b x0_k x5_grown x6_i (fun x7_g x9_n h => Φ (x7_g, x9_n) h) s.1 s.2 h K_e6
def N11_l3 (x0_k : Option Addr) (x5_grown : Sl) (x6_i : Int) (x7_g : Sl) (x9_n : Int) (h : Hp) (K_e6 : Sl → Hp → Prop) : Prop :=
  loopP (N11_l3_B x0_k x5_grown x6_i K_e6) (x7_g, x9_n) h
noncomputable def N11_l3_t : Xf := loopT [(0, .c (.ptr)), (5, .c (.slice)), (6, .c (.int .i64))] [(7, .c (.slice)), (9, .c (.int .i64))] (codeAt B11 [1, 1, 1, 0, 1, 0, 0, 1, 0, 0, 1, 1, 0, 1, 0, 0]) fun F Q => N11_l3_B F.1 F.2.1 F.2.2 (fun o0 h' => Q (.exit 6) (Sg.env [(7, .c (.slice))] o0) h')
theorem N11_l3_ok : Sound Try.prog Try.f11.ntmps N11_l3_t (codeAt B11 [1, 1, 1, 0, 1, 0, 0, 1, 0, 0, 1, 1, 0, 1, 0]) := by
  refine loop_sound (fun e => match e with | .exit 6 => [7] | _ => []) (by kernel_rfl) ?_
  intro F Q s h Φ hb
  refine den_sound hE hm _ .leaf _ _ _ (annOk_leaf) ?_
  refine cast ?_ hb
  kernel_rfl
def N11_l1_b (x0_k : Option Addr) (Φ : Sl → Int → Hp → Prop) (x5_grown : Sl) (x6_i : Int) (h : Hp) (K_e2 : Sl → Hp → Prop) : Prop :=
  nn x0_k fun a0 =>
  xL (cell h a0) fun s0 =>
  bif (decide (x6_i < ((s0.n : Nat) : Int))) then
    nn x0_k fun a1 =>
    xL (cell h a1) fun s1 =>
    idx x6_i s1.n <|
    nn s1.p fun a2 =>
    xL (cell h (a2.add (x6_i.toNat * 1))) fun s2 =>
    N11_l2 x0_k x5_grown x6_i s2 0 h
      (fun h0 =>
        N11_l3 x0_k x5_grown x6_i s2 0 h0
          (fun s3 h1 =>
            nw h1 (.cells ⟨[.slice s3.p s3.n s3.c]⟩ 41) fun b0 h2 =>
            apK Try.prog 41 x5_grown (.slice (some (bk b0)) 1 1) h2 fun s4 h3 =>
            Φ s4 (IntKind.wrap .i64 (x6_i + 1)) h3))
  else
    K_e2 x5_grown h
def N11_l1_B (x0_k : Option Addr) (K_e2 : Sl → Hp → Prop) (s : Sg.T [(5, .c (.slice)), (6, .c (.int .i64))]) (h : Hp) (Φ : Sg.T [(5, .c (.slice)), (6, .c (.int .i64))] → Hp → Prop) : Prop :=
  N11_l1_b x0_k (fun x5_grown x6_i h => Φ (x5_grown, x6_i) h) s.1 s.2 h K_e2
def N11_l1 (x0_k : Option Addr) (x5_grown : Sl) (x6_i : Int) (h : Hp) (K_e2 : Sl → Hp → Prop) : Prop :=
  loopP (N11_l1_B x0_k K_e2) (x5_grown, x6_i) h
noncomputable def N11_l1_t : Xf := loopT [(0, .c (.ptr))] [(5, .c (.slice)), (6, .c (.int .i64))] (codeAt B11 [1, 1, 1, 0, 1, 0, 0]) fun F Q => N11_l1_B F (fun o0 h' => Q (.exit 2) (Sg.env [(5, .c (.slice))] o0) h')
theorem N11_l1_ok : Sound Try.prog Try.f11.ntmps N11_l1_t (codeAt B11 [1, 1, 1, 0, 1, 0]) := by
  refine loop_sound (fun e => match e with | .exit 2 => [5] | _ => []) (by kernel_rfl) ?_
  intro F Q s h Φ hb
  refine den_sound hE hm _ (.two .leaf (.two (.one (.two .leaf (.two (.two .leaf (.one (.xf N11_l2_t))) (.two (.two .leaf (.one (.xf N11_l3_t))) .leaf)))) .leaf)) _ _ _ (⟨annOk_leaf, ⟨⟨annOk_leaf, ⟨⟨annOk_leaf, N11_l2_ok⟩, ⟨⟨annOk_leaf, N11_l3_ok⟩, annOk_leaf⟩⟩⟩, annOk_leaf⟩⟩) ?_
  refine cast ?_ hb
  kernel_rfl
def N11_l5_b (x0_k : Option Addr) (x5_grown : Sl) (x10_i : Int) (x11_l : Sl) (Φ : Int → Hp → Prop) (x12_n : Int) (h : Hp) (K_e10 : Hp → Prop) (K_ret : Bool → Hp → Prop) : Prop :=
  idx x10_i x5_grown.n <|
  nn x5_grown.p fun a0 =>
  xL (cell h (a0.add (x10_i.toNat * 1))) fun s0 =>
  bif (decide (x12_n < ((s0.n : Nat) : Int))) then
    nw h (.cells ⟨[.int .i64 0, .int .i64 0, .int .i64 0]⟩ 44) fun b0 h0 =>
    st h0 (bk b0) (.int .i64 (IntKind.wrap .i64 ((-1000) - x10_i))) fun h1 =>
    st h1 ((bk b0).add 1) (.int .i64 x12_n) fun h2 =>
    st h2 ((bk b0).add 2) (.int .i64 0) fun h3 =>
    idx x10_i x5_grown.n <|
    nn x5_grown.p fun a1 =>
    xL (cell h3 (a1.add (x10_i.toNat * 1))) fun s1 =>
    idx x12_n s1.n <|
    nn s1.p fun a2 =>
    xI .i64 (cell h3 (a2.add (x12_n.toNat * 3))) fun n0 =>
    xI .i64 (cell h3 ((a2.add (x12_n.toNat * 3)).add 1)) fun n1 =>
    xI .i64 (cell h3 ((a2.add (x12_n.toNat * 3)).add 2)) fun n2 =>
    xI .i64 (cell h3 (bk b0)) fun n3 =>
    xI .i64 (cell h3 ((bk b0).add 1)) fun n4 =>
    xI .i64 (cell h3 ((bk b0).add 2)) fun n5 =>
    bif (!((n0 == n3) && ((n1 == n4) && ((n2 == n5) && true)))) then
      K_ret false h3
    else
      bif (decide (x12_n < ((x11_l.n : Nat) : Int))) then
        idx x12_n x11_l.n <|
        nn x11_l.p fun a3 =>
        xI .i64 (cell h3 (a3.add (x12_n.toNat * 3))) fun n6 =>
        xI .i64 (cell h3 ((a3.add (x12_n.toNat * 3)).add 1)) fun n7 =>
        xI .i64 (cell h3 ((a3.add (x12_n.toNat * 3)).add 2)) fun n8 =>
        xI .i64 (cell h3 (bk b0)) fun n9 =>
        xI .i64 (cell h3 ((bk b0).add 1)) fun n10 =>
        xI .i64 (cell h3 ((bk b0).add 2)) fun n11 =>
        bif (!((n6 == n9) && ((n7 == n10) && ((n8 == n11) && true)))) then
          K_ret false h3
        else
          Φ (IntKind.wrap .i64 (x12_n + 1)) h3
      else
        Φ (IntKind.wrap .i64 (x12_n + 1)) h3
  else
    K_e10 h
def N11_l5_B (x0_k : Option Addr) (x5_grown : Sl) (x10_i : Int) (x11_l : Sl) (K_e10 : Hp → Prop) (K_ret : Bool → Hp → Prop) (s : Sg.T [(12, .c (.int .i64))]) (h : Hp) (Φ : Sg.T [(12, .c (.int .i64))] → Hp → Prop) : Prop :=
  N11_l5_b x0_k x5_grown x10_i x11_l (fun x12_n h => Φ x12_n h) s h K_e10 K_ret
def N11_l5 (x0_k : Option Addr) (x5_grown : Sl) (x10_i : Int) (x11_l : Sl) (x12_n : Int) (h : Hp) (K_e10 : Hp → Prop) (K_ret : Bool → Hp → Prop) : Prop :=
  loopP (N11_l5_B x0_k x5_grown x10_i x11_l K_e10 K_ret) x12_n h
noncomputable def N11_l5_t : Xf := loopT [(0, .c (.ptr)), (5, .c (.slice)), (10, .c (.int .i64)), (11, .c (.slice))] [(12, .c (.int .i64))] (codeAt B11 [1, 1, 1, 1, 0, 1, 0, 0, 1, 0, 0, 1, 1, 0, 0]) fun F Q => N11_l5_B F.1 F.2.1 F.2.2.1 F.2.2.2 (fun h' => Q (.exit 10) (Sg.env [] ()) h') (fun o0 h' => Q .ret (Sg.env [(2, .c (.bool))] o0) h')
theorem N11_l5_ok : Sound Try.prog Try.f11.ntmps N11_l5_t (codeAt B11 [1, 1, 1, 1, 0, 1, 0, 0, 1, 0, 0, 1, 1, 0]) := by
  refine loop_sound (fun e => match e with | .exit 10 => [] | .ret => [2] | _ => []) (by kernel_rfl) ?_
  intro F Q s h Φ hb
  refine den_sound hE hm _ (.two .leaf (.two (.one (.two .leaf (.two (.ord [0, 1, 2, 3, 4, 5, 6, 7, 8, 9, 10, 11, 12, 13, 14, 15, 16, 17, 18, 19, 20, 21, 22]) .leaf))) .leaf)) _ _ _ (⟨annOk_leaf, ⟨⟨annOk_leaf, ⟨trivial, annOk_leaf⟩⟩, annOk_leaf⟩⟩) ?_
  refine cast ?_ hb
  kernel_rfl
def N11_l4_b (x0_k : Option Addr) (x5_grown : Sl) (Φ : Int → Hp → Prop) (x10_i : Int) (h : Hp) (K_e8 : Hp → Prop) (K_ret : Bool → Hp → Prop) : Prop :=
  bif (decide (x10_i < ((x5_grown.n : Nat) : Int))) then
    nn x0_k fun a0 =>
    xL (cell h a0) fun s0 =>
    idx x10_i s0.n <|
    nn s0.p fun a1 =>
    xL (cell h (a1.add (x10_i.toNat * 1))) fun s1 =>
    N11_l5 x0_k x5_grown x10_i s1 0 h
      (fun h0 =>
        Φ (IntKind.wrap .i64 (x10_i + 1)) h0)
      (fun b0 h1 =>
        K_ret b0 h1)
  else
    K_e8 h
def N11_l4_B (x0_k : Option Addr) (x5_grown : Sl) (K_e8 : Hp → Prop) (K_ret : Bool → Hp → Prop) (s : Sg.T [(10, .c (.int .i64))]) (h : Hp) (Φ : Sg.T [(10, .c (.int .i64))] → Hp → Prop) : Prop :=
  N11_l4_b x0_k x5_grown (fun x10_i h => Φ x10_i h) s h K_e8 K_ret
def N11_l4 (x0_k : Option Addr) (x5_grown : Sl) (x10_i : Int) (h : Hp) (K_e8 : Hp → Prop) (K_ret : Bool → Hp → Prop) : Prop :=
  loopP (N11_l4_B x0_k x5_grown K_e8 K_ret) x10_i h
noncomputable def N11_l4_t : Xf := loopT [(0, .c (.ptr)), (5, .c (.slice))] [(10, .c (.int .i64))] (codeAt B11 [1, 1, 1, 1, 0, 1, 0, 0]) fun F Q => N11_l4_B F.1 F.2 (fun h' => Q (.exit 8) (Sg.env [] ()) h') (fun o0 h' => Q .ret (Sg.env [(2, .c (.bool))] o0) h')
theorem N11_l4_ok : Sound Try.prog Try.f11.ntmps N11_l4_t (codeAt B11 [1, 1, 1, 1, 0, 1, 0]) := by
  refine loop_sound (fun e => match e with | .exit 8 => [] | .ret => [2] | _ => []) (by kernel_rfl) ?_
  intro F Q s h Φ hb
  refine den_sound hE hm _ (.two .leaf (.two (.one (.two .leaf (.two .leaf (.one (.xf N11_l5_t))))) .leaf)) _ _ _ (⟨annOk_leaf, ⟨⟨annOk_leaf, ⟨annOk_leaf, N11_l5_ok⟩⟩, annOk_leaf⟩⟩) ?_
  refine cast ?_ hb
  kernel_rfl
def N11 (x0 : Option Addr) (h : Hp) (K : Bool → Hp → Prop) : Prop :=
  N11_l0 x0 0 h
    (fun h0 =>
      N11_l1 x0 ⟨none, 0, 0⟩ 0 h0
        (fun s0 h1 =>
          N11_l4 x0 s0 0 h1
            (fun h2 =>
              K true h2)
            (fun b0 h3 =>
              K b0 h3)))
    (fun b1 h4 =>
      K b1 h4)
theorem S11 {x0 : Option Addr} {h : Hp} {K : Bool → Hp → Prop} (hn : N11 x0 h K) : C11 x0 h K := by
  refine calls_of_D Try.func11 (c := B11) rfl (by kernel_rfl) ?_
  refine den_sound hE hm _ (.two .leaf (.two (.two .leaf (.one (.xf N11_l0_t))) (.two .leaf (.two (.two .leaf (.one (.xf N11_l1_t))) (.two (.two .leaf (.one (.xf N11_l4_t))) .leaf))))) _ _ _ (⟨annOk_leaf, ⟨⟨annOk_leaf, N11_l0_ok⟩, ⟨annOk_leaf, ⟨⟨annOk_leaf, N11_l1_ok⟩, ⟨⟨annOk_leaf, N11_l4_ok⟩, annOk_leaf⟩⟩⟩⟩⟩) ?_
  refine cast ?_ hn
  kernel_rfl
end Go.Proofs.Ytfnlldbaplakoaa

set_option linter.unusedVariables false
set_option maxRecDepth 100000
namespace Go.Proofs.Ytfnlldbaplakoaa
open Go Go.Hw
/-! ### 12 (*slipway/wheel.Wheel).Arm -/
noncomputable def B12 : Code := match Try.f12.body with | some c => c | none => .skip
def N12 (x0 : Option Addr) (x1 : Int) (x2 : Int) (h : Hp) (K : Int → Int → Hp → Prop) : Prop :=
  nn x0 fun a0 =>
  xM (cell h (a0.add 260)) fun m0 =>
  xMap h m0 fun es0 _ =>
  bif (decide ((es0.length : Int) ≥ 1024)) then
    K 0 70 h
  else
    nn x0 fun a1 =>
    xI .i64 (cell h (a1.add 1)) fun n0 =>
    nn x0 fun a2 =>
    st h (a2.add 1) (.int .i64 (IntKind.wrap .i64 (n0 + 1))) fun h0 =>
    nn x0 fun a3 =>
    xI .i64 (cell h0 (a3.add 1)) fun n1 =>
    C27 x0 x1 h0 fun n2 h1 =>
    both (xI .i64 (cell h1 (a3.add 1)) fun n3 => Only (.int .i64 n1) h1 (.int .i64 n3) h1) <|
    nw h1 (.cells ⟨[.int .i64 n2, .int .i64 n1, .int .i64 x2, .int .i64 0, .int .i64 0]⟩ 65) fun b0 h2 =>
    nn x0 fun a4 =>
    xM (cell h2 (a4.add 260)) fun m1 =>
    nn x0 fun a5 =>
    xI .i64 (cell h2 (a5.add 1)) fun n4 =>
    muK Try.prog 50 (.map m1) (.int .i64 n4) (.pointer (some (bk b0))) h2 fun h3 =>
    C28 x0 (some (bk b0)) h3 fun h4 =>
    nn x0 fun a6 =>
    xI .i64 (cell h4 (a6.add 1)) fun n5 =>
    K n5 0 h4
theorem S12 {x0 : Option Addr} {x1 : Int} {x2 : Int} {h : Hp} {K : Int → Int → Hp → Prop} (hn : N12 x0 x1 x2 h K) : C12 x0 x1 x2 h K := by
  refine calls_of_D Try.func12 (c := B12) rfl (by kernel_rfl) ?_
  refine den_sound hE hm _ (.two .leaf (.two .leaf (.two .leaf (.two (.ord [0, 1, 3, 4, 5, 6, 7, 2, 8, 9, 10, 11]) (.two (.ord [0, 1, 2, 3, 4, 5, 6, 7, 8, 9]) .leaf))))) _ _ _ (⟨annOk_leaf, ⟨annOk_leaf, ⟨annOk_leaf, ⟨trivial, ⟨trivial, annOk_leaf⟩⟩⟩⟩⟩) ?_
  refine cast ?_ hn
  kernel_rfl
end Go.Proofs.Ytfnlldbaplakoaa

set_option linter.unusedVariables false
set_option maxRecDepth 100000
namespace Go.Proofs.Ytfnlldbaplakoaa
open Go Go.Hw
/-! ### 13 (*slipway/wheel.Wheel).Cancel -/
noncomputable def B13 : Code := match Try.f13.body with | some c => c | none => .skip
def N13 (x0 : Option Addr) (x1 : Int) (h : Hp) (K : Bool → Hp → Prop) : Prop :=
  nn x0 fun a0 =>
  xM (cell h (a0.add 260)) fun m0 =>
  xMap h m0 fun es0 _ =>
  keyAt (.int .i64) (.int .i64 x1) es0 fun r0 =>
  xP (some (rval r0 (.pointer none))) fun p0 =>
  bif r0.isSome then
    C29 x0 p0 h fun h0 =>
    K r0.isSome h0
  else
    K r0.isSome h
theorem S13 {x0 : Option Addr} {x1 : Int} {h : Hp} {K : Bool → Hp → Prop} (hn : N13 x0 x1 h K) : C13 x0 x1 h K := by
  refine calls_of_D Try.func13 (c := B13) rfl (by kernel_rfl) ?_
  refine den_sound hE hm _ .leaf _ _ _ (annOk_leaf) ?_
  refine cast ?_ hn
  kernel_rfl
end Go.Proofs.Ytfnlldbaplakoaa

set_option linter.unusedVariables false
set_option maxRecDepth 100000
namespace Go.Proofs.Ytfnlldbaplakoaa
open Go Go.Hw
/-! ### 14 (*slipway/wheel.Wheel).Advance -/
noncomputable def B14 : Code := match Try.f14.body with | some c => c | none => .skip
def N14_l0_b (x0_w : Option Addr) (x5_to : Int) (Φ : Sl → Option Addr → Hp → Prop) (x6_l : Sl) (x7_t : Option Addr) (h : Hp) (K_e0 : Sl → Hp → Prop) : Prop :=
  peq h x7_t none fun b0 =>
  bif (!b0) then
    nn x7_t fun a0 =>
    xI .i64 (cell h a0) fun n0 =>
    bif (decide (n0 ≤ x5_to)) then
      nn x7_t fun a1 =>
      xI .i64 (cell h a1) fun n1 =>
      C31 x0_w n1 h fun h0 =>
      C29 x0_w x7_t h0 fun h1 =>
      nn x7_t fun a2 =>
      xI .i64 (cell h1 a2) fun n2 =>
      xI .i64 (cell h1 (a2.add 1)) fun n3 =>
      xI .i64 (cell h1 (a2.add 2)) fun n4 =>
      nw h1 (.cells ⟨[.int .i64 n2, .int .i64 n3, .int .i64 n4]⟩ 44) fun b1 h2 =>
      apK Try.prog 44 x6_l (.slice (some (bk b1)) 1 1) h2 fun s0 h3 =>
      C30 x0_w h3 fun p0 h4 =>
      Φ s0 p0 h4
    else
      K_e0 x6_l h
  else
    K_e0 x6_l h
def N14_l0_B (x0_w : Option Addr) (x5_to : Int) (K_e0 : Sl → Hp → Prop) (s : Sg.T [(6, .c (.slice)), (7, .c (.ptr))]) (h : Hp) (Φ : Sg.T [(6, .c (.slice)), (7, .c (.ptr))] → Hp → Prop) : Prop :=
  N14_l0_b x0_w x5_to (fun x6_l x7_t h => Φ (x6_l, x7_t) h) s.1 s.2 h K_e0
def N14_l0 (x0_w : Option Addr) (x5_to : Int) (x6_l : Sl) (x7_t : Option Addr) (h : Hp) (K_e0 : Sl → Hp → Prop) : Prop :=
  loopP (N14_l0_B x0_w x5_to K_e0) (x6_l, x7_t) h
noncomputable def N14_l0_t : Xf := loopT [(0, .c (.ptr)), (5, .c (.int .i64))] [(6, .c (.slice)), (7, .c (.ptr))] (codeAt B14 [1, 1, 1, 0, 1, 0, 0]) fun F Q => N14_l0_B F.1 F.2 (fun o0 h' => Q (.exit 0) (Sg.env [(6, .c (.slice))] o0) h')
theorem N14_l0_ok : Sound Try.prog Try.f14.ntmps N14_l0_t (codeAt B14 [1, 1, 1, 0, 1, 0]) := by
  refine loop_sound (fun e => match e with | .exit 0 => [6] | _ => []) (by kernel_rfl) ?_
  intro F Q s h Φ hb
  refine den_sound hE hm _ .leaf _ _ _ (annOk_leaf) ?_
  refine cast ?_ hb
  kernel_rfl
def N14 (x0 : Option Addr) (x1 : Int) (h : Hp) (K : Sl → Hp → Prop) : Prop :=
  C27 x0 x1 h fun n0 h0 =>
  C30 x0 h0 fun p0 h1 =>
  N14_l0 x0 n0 ⟨none, 0, 0⟩ p0 h1
    (fun s0 h2 =>
      C31 x0 n0 h2 fun h3 =>
      K s0 h3)
theorem S14 {x0 : Option Addr} {x1 : Int} {h : Hp} {K : Sl → Hp → Prop} (hn : N14 x0 x1 h K) : C14 x0 x1 h K := by
  refine calls_of_D Try.func14 (c := B14) rfl (by kernel_rfl) ?_
  refine den_sound hE hm _ (.two .leaf (.two .leaf (.two .leaf (.two (.two .leaf (.one (.xf N14_l0_t))) .leaf)))) _ _ _ (⟨annOk_leaf, ⟨annOk_leaf, ⟨annOk_leaf, ⟨⟨annOk_leaf, N14_l0_ok⟩, annOk_leaf⟩⟩⟩⟩) ?_
  refine cast ?_ hn
  kernel_rfl
end Go.Proofs.Ytfnlldbaplakoaa

set_option linter.unusedVariables false
set_option maxRecDepth 100000
namespace Go.Proofs.Ytfnlldbaplakoaa
open Go Go.Hw
/-! ### 15 (*slipway/wheel.Wheel).Next -/
noncomputable def B15 : Code := match Try.f15.body with | some c => c | none => .skip
def N15 (x0 : Option Addr) (h : Hp) (K : Int → Bool → Hp → Prop) : Prop :=
  C30 x0 h fun p0 h0 =>
  peq h0 p0 none fun b0 =>
  bif b0 then
    K 0 false h0
  else
    nn p0 fun a0 =>
    xI .i64 (cell h0 a0) fun n0 =>
    K n0 true h0
theorem S15 {x0 : Option Addr} {h : Hp} {K : Int → Bool → Hp → Prop} (hn : N15 x0 h K) : C15 x0 h K := by
  refine calls_of_D Try.func15 (c := B15) rfl (by kernel_rfl) ?_
  refine den_sound hE hm _ .leaf _ _ _ (annOk_leaf) ?_
  refine cast ?_ hn
  kernel_rfl
end Go.Proofs.Ytfnlldbaplakoaa

set_option linter.unusedVariables false
set_option maxRecDepth 100000
namespace Go.Proofs.Ytfnlldbaplakoaa
open Go Go.Hw
/-! ### 16 (*slipway/wheel.Wheel).Len -/
noncomputable def B16 : Code := match Try.f16.body with | some c => c | none => .skip
def N16 (x0 : Option Addr) (h : Hp) (K : Int → Hp → Prop) : Prop :=
  nn x0 fun a0 =>
  xM (cell h (a0.add 260)) fun m0 =>
  xMap h m0 fun es0 _ =>
  K (es0.length : Int) h
theorem S16 {x0 : Option Addr} {h : Hp} {K : Int → Hp → Prop} (hn : N16 x0 h K) : C16 x0 h K := by
  refine calls_of_D Try.func16 (c := B16) rfl (by kernel_rfl) ?_
  refine den_sound hE hm _ .leaf _ _ _ (annOk_leaf) ?_
  refine cast ?_ hn
  kernel_rfl
end Go.Proofs.Ytfnlldbaplakoaa

set_option linter.unusedVariables false
set_option maxRecDepth 100000
namespace Go.Proofs.Ytfnlldbaplakoaa
open Go Go.Hw
/-! ### 17 (*slipway/wheel.Wheel).Now -/
noncomputable def B17 : Code := match Try.f17.body with | some c => c | none => .skip
def N17 (x0 : Option Addr) (h : Hp) (K : Int → Hp → Prop) : Prop :=
  nn x0 fun a0 =>
  xI .i64 (cell h a0) fun n0 =>
  K n0 h
theorem S17 {x0 : Option Addr} {h : Hp} {K : Int → Hp → Prop} (hn : N17 x0 h K) : C17 x0 h K := by
  refine calls_of_D Try.func17 (c := B17) rfl (by kernel_rfl) ?_
  refine den_sound hE hm _ .leaf _ _ _ (annOk_leaf) ?_
  refine cast ?_ hn
  kernel_rfl
end Go.Proofs.Ytfnlldbaplakoaa

set_option linter.unusedVariables false
set_option maxRecDepth 100000
namespace Go.Proofs.Ytfnlldbaplakoaa
open Go Go.Hw
/-! ### 18 slipway/slipwayref07.Same -/
noncomputable def B18 : Code := match Try.f18.body with | some c => c | none => .skip
def N18_l0_b (x0_a : Sl) (x1_b : Sl) (Φ : Int → Hp → Prop) (x5_i : Int) (h : Hp) (K_e0 : Hp → Prop) (K_ret : Bool → Hp → Prop) : Prop :=
  bif (decide (x5_i < ((x0_a.n : Nat) : Int))) then
    idx x5_i x0_a.n <|
    nn x0_a.p fun a0 =>
    xI .i64 (cell h (a0.add (x5_i.toNat * 3))) fun n0 =>
    xI .i64 (cell h ((a0.add (x5_i.toNat * 3)).add 1)) fun n1 =>
    xI .i64 (cell h ((a0.add (x5_i.toNat * 3)).add 2)) fun n2 =>
    idx x5_i x1_b.n <|
    nn x1_b.p fun a1 =>
    xI .i64 (cell h (a1.add (x5_i.toNat * 3))) fun n3 =>
    xI .i64 (cell h ((a1.add (x5_i.toNat * 3)).add 1)) fun n4 =>
    xI .i64 (cell h ((a1.add (x5_i.toNat * 3)).add 2)) fun n5 =>
    bif (!((n0 == n3) && ((n1 == n4) && ((n2 == n5) && true)))) then
      K_ret false h
    else
      Φ (IntKind.wrap .i64 (x5_i + 1)) h
  else
    K_e0 h
def N18_l0_B (x0_a : Sl) (x1_b : Sl) (K_e0 : Hp → Prop) (K_ret : Bool → Hp → Prop) (s : Sg.T [(5, .c (.int .i64))]) (h : Hp) (Φ : Sg.T [(5, .c (.int .i64))] → Hp → Prop) : Prop :=
  N18_l0_b x0_a x1_b (fun x5_i h => Φ x5_i h) s h K_e0 K_ret
def N18_l0 (x0_a : Sl) (x1_b : Sl) (x5_i : Int) (h : Hp) (K_e0 : Hp → Prop) (K_ret : Bool → Hp → Prop) : Prop :=
  loopP (N18_l0_B x0_a x1_b K_e0 K_ret) x5_i h
noncomputable def N18_l0_t : Xf := loopT [(0, .c (.slice)), (1, .c (.slice))] [(5, .c (.int .i64))] (codeAt B18 [1, 1, 0, 1, 0, 0]) fun F Q => N18_l0_B F.1 F.2 (fun h' => Q (.exit 0) (Sg.env [] ()) h') (fun o0 h' => Q .ret (Sg.env [(4, .c (.bool))] o0) h')
theorem N18_l0_ok : Sound Try.prog Try.f18.ntmps N18_l0_t (codeAt B18 [1, 1, 0, 1, 0]) := by
  refine loop_sound (fun e => match e with | .exit 0 => [] | .ret => [4] | _ => []) (by kernel_rfl) ?_
  intro F Q s h Φ hb
  refine den_sound hE hm _ (.two .leaf (.two (.one (.two (.ord [0, 1, 2, 3, 4, 5, 6, 7, 8]) .leaf)) .leaf)) _ _ _ (⟨annOk_leaf, ⟨⟨trivial, annOk_leaf⟩, annOk_leaf⟩⟩) ?_
  refine cast ?_ hb
  kernel_rfl
def N18 (x0 : Sl) (x1 : Sl) (h : Hp) (K : Bool → Hp → Prop) : Prop :=
  bif (((x0.n : Nat) : Int) != ((x1.n : Nat) : Int)) then
    K false h
  else
    N18_l0 x0 x1 0 h
      (fun h0 =>
        K true h0)
      (fun b0 h1 =>
        K b0 h1)
theorem S18 {x0 : Sl} {x1 : Sl} {h : Hp} {K : Bool → Hp → Prop} (hn : N18 x0 x1 h K) : C18 x0 x1 h K := by
  refine calls_of_D Try.func18 (c := B18) rfl (by kernel_rfl) ?_
  refine den_sound hE hm _ (.two .leaf (.two .leaf (.two (.two .leaf (.one (.xf N18_l0_t))) .leaf))) _ _ _ (⟨annOk_leaf, ⟨annOk_leaf, ⟨⟨annOk_leaf, N18_l0_ok⟩, annOk_leaf⟩⟩⟩) ?_
  refine cast ?_ hn
  kernel_rfl
end Go.Proofs.Ytfnlldbaplakoaa

set_option linter.unusedVariables false
set_option maxRecDepth 100000
namespace Go.Proofs.Ytfnlldbaplakoaa
open Go Go.Hw
/-! ### 19 (*slipway/wheel.Wheel).first -/
noncomputable def B19 : Code := match Try.f19.body with | some c => c | none => .skip
def N19 (x0 : Option Addr) (x1 : Option Addr) (x2 : Option Addr) (h : Hp) (K : Bool → Hp → Prop) : Prop :=
  nn x1 fun a0 =>
  xI .i64 (cell h a0) fun n0 =>
  xI .i64 (cell h (a0.add 1)) fun n1 =>
  xI .i64 (cell h (a0.add 2)) fun n2 =>
  nn x2 fun a1 =>
  xI .i64 (cell h a1) fun n3 =>
  xI .i64 (cell h (a1.add 1)) fun n4 =>
  xI .i64 (cell h (a1.add 2)) fun n5 =>
  C32 n0 n1 n2 n3 n4 n5 h fun n6 h0 =>
  K (decide (n6 < 0)) h0
theorem S19 {x0 : Option Addr} {x1 : Option Addr} {x2 : Option Addr} {h : Hp} {K : Bool → Hp → Prop} (hn : N19 x0 x1 x2 h K) : C19 x0 x1 x2 h K := by
  refine calls_of_D Try.func19 (c := B19) rfl (by kernel_rfl) ?_
  refine den_sound hE hm _ (.two .leaf (.two (.ord [0, 1, 2, 3, 4, 5, 6, 7, 8, 9, 10]) .leaf)) _ _ _ (⟨annOk_leaf, ⟨trivial, annOk_leaf⟩⟩) ?_
  refine cast ?_ hn
  kernel_rfl
end Go.Proofs.Ytfnlldbaplakoaa

set_option linter.unusedVariables false
set_option maxRecDepth 100000
namespace Go.Proofs.Ytfnlldbaplakoaa
open Go Go.Hw
/-! ### 20 (*slipway/slipwayref07.Wheel).Arm -/
noncomputable def B20 : Code := match Try.f20.body with | some c => c | none => .skip
def N20 (x0 : Option Addr) (x1 : Int) (x2 : Int) (h : Hp) (K : Int → Int → Hp → Prop) : Prop :=
  nn x0 fun a0 =>
  xL (cell h (a0.add 1)) fun s0 =>
  bif (decide (((s0.n : Nat) : Int) ≥ 1024)) then
    K 0 70 h
  else
    nn x0 fun a1 =>
    xI .i64 (cell h (a1.add 2)) fun n0 =>
    nn x0 fun a2 =>
    st h (a2.add 2) (.int .i64 (IntKind.wrap .i64 (n0 + 1))) fun h0 =>
    C33 x0 x1 h0 fun n1 h1 =>
    nn x0 fun a3 =>
    xL (cell h1 (a3.add 1)) fun s1 =>
    nn x0 fun a4 =>
    xI .i64 (cell h1 (a4.add 2)) fun n2 =>
    nw h1 (.cells ⟨[.int .i64 n1, .int .i64 n2, .int .i64 x2]⟩ 44) fun b0 h2 =>
    both (xL (cell h2 (a3.add 1)) fun s2 => Only (.slice s1.p s1.n s1.c) h2 (.slice s2.p s2.n s2.c) h2) <|
    apK Try.prog 44 s1 (.slice (some (bk b0)) 1 1) h2 fun s3 h3 =>
    nn x0 fun a5 =>
    st h3 (a5.add 1) (.slice s3.p s3.n s3.c) fun h4 =>
    nn x0 fun a6 =>
    xI .i64 (cell h4 (a6.add 2)) fun n3 =>
    K n3 0 h4
theorem S20 {x0 : Option Addr} {x1 : Int} {x2 : Int} {h : Hp} {K : Int → Int → Hp → Prop} (hn : N20 x0 x1 x2 h K) : C20 x0 x1 x2 h K := by
  refine calls_of_D Try.func20 (c := B20) rfl (by kernel_rfl) ?_
  refine den_sound hE hm _ (.two .leaf (.two .leaf (.two .leaf (.two .leaf (.two (.ord [0, 1, 2, 3, 4, 5, 6, 7, 8, 9, 10, 11, 12, 13, 14, 15, 16]) .leaf))))) _ _ _ (⟨annOk_leaf, ⟨annOk_leaf, ⟨annOk_leaf, ⟨annOk_leaf, ⟨trivial, annOk_leaf⟩⟩⟩⟩⟩) ?_
  refine cast ?_ hn
  kernel_rfl
end Go.Proofs.Ytfnlldbaplakoaa

set_option linter.unusedVariables false
set_option maxRecDepth 100000
namespace Go.Proofs.Ytfnlldbaplakoaa
open Go Go.Hw
/-! ### 21 (*slipway/slipwayref07.Wheel).Cancel -/
noncomputable def B21 : Code := match Try.f21.body with | some c => c | none => .skip
def N21_l0_b (x0_w : Option Addr) (x1_id : Int) (Φ : Sl → Int → Hp → Prop) (x5_out : Sl) (x6_i : Int) (h : Hp) (K_e0 : Sl → Hp → Prop) : Prop :=
  nn x0_w fun a0 =>
  xL (cell h (a0.add 1)) fun s0 =>
  bif (decide (x6_i < ((s0.n : Nat) : Int))) then
    nn x0_w fun a1 =>
    xL (cell h (a1.add 1)) fun s1 =>
    idx x6_i s1.n <|
    nn s1.p fun a2 =>
    xI .i64 (cell h ((a2.add (x6_i.toNat * 3)).add 1)) fun n0 =>
    bif (n0 != x1_id) then
      nn x0_w fun a3 =>
      xL (cell h (a3.add 1)) fun s2 =>
      idx x6_i s2.n <|
      nn s2.p fun a4 =>
      xI .i64 (cell h (a4.add (x6_i.toNat * 3))) fun n1 =>
      xI .i64 (cell h ((a4.add (x6_i.toNat * 3)).add 1)) fun n2 =>
      xI .i64 (cell h ((a4.add (x6_i.toNat * 3)).add 2)) fun n3 =>
      nw h (.cells ⟨[.int .i64 n1, .int .i64 n2, .int .i64 n3]⟩ 44) fun b0 h0 =>
      apK Try.prog 44 x5_out (.slice (some (bk b0)) 1 1) h0 fun s3 h1 =>
      Φ s3 (IntKind.wrap .i64 (x6_i + 1)) h1
    else
      Φ x5_out (IntKind.wrap .i64 (x6_i + 1)) h
  else
    K_e0 x5_out h
def N21_l0_B (x0_w : Option Addr) (x1_id : Int) (K_e0 : Sl → Hp → Prop) (s : Sg.T [(5, .c (.slice)), (6, .c (.int .i64))]) (h : Hp) (Φ : Sg.T [(5, .c (.slice)), (6, .c (.int .i64))] → Hp → Prop) : Prop :=
  N21_l0_b x0_w x1_id (fun x5_out x6_i h => Φ (x5_out, x6_i) h) s.1 s.2 h K_e0
def N21_l0 (x0_w : Option Addr) (x1_id : Int) (x5_out : Sl) (x6_i : Int) (h : Hp) (K_e0 : Sl → Hp → Prop) : Prop :=
  loopP (N21_l0_B x0_w x1_id K_e0) (x5_out, x6_i) h
noncomputable def N21_l0_t : Xf := loopT [(0, .c (.ptr)), (1, .c (.int .i64))] [(5, .c (.slice)), (6, .c (.int .i64))] (codeAt B21 [1, 1, 0, 1, 0, 0]) fun F Q => N21_l0_B F.1 F.2 (fun o0 h' => Q (.exit 0) (Sg.env [(5, .c (.slice))] o0) h')
theorem N21_l0_ok : Sound Try.prog Try.f21.ntmps N21_l0_t (codeAt B21 [1, 1, 0, 1, 0]) := by
  refine loop_sound (fun e => match e with | .exit 0 => [5] | _ => []) (by kernel_rfl) ?_
  intro F Q s h Φ hb
  refine den_sound hE hm _ .leaf _ _ _ (annOk_leaf) ?_
  refine cast ?_ hb
  kernel_rfl
def N21 (x0 : Option Addr) (x1 : Int) (h : Hp) (K : Bool → Hp → Prop) : Prop :=
  N21_l0 x0 x1 ⟨none, 0, 0⟩ 0 h
    (fun s0 h0 =>
      nn x0 fun a0 =>
      xL (cell h0 (a0.add 1)) fun s1 =>
      nn x0 fun a1 =>
      st h0 (a1.add 1) (.slice s0.p s0.n s0.c) fun h1 =>
      K (decide (((s0.n : Nat) : Int) < ((s1.n : Nat) : Int))) h1)
theorem S21 {x0 : Option Addr} {x1 : Int} {h : Hp} {K : Bool → Hp → Prop} (hn : N21 x0 x1 h K) : C21 x0 x1 h K := by
  refine calls_of_D Try.func21 (c := B21) rfl (by kernel_rfl) ?_
  refine den_sound hE hm _ (.two .leaf (.two .leaf (.two (.two .leaf (.one (.xf N21_l0_t))) .leaf))) _ _ _ (⟨annOk_leaf, ⟨annOk_leaf, ⟨⟨annOk_leaf, N21_l0_ok⟩, annOk_leaf⟩⟩⟩) ?_
  refine cast ?_ hn
  kernel_rfl
end Go.Proofs.Ytfnlldbaplakoaa

set_option linter.unusedVariables false
set_option maxRecDepth 100000
namespace Go.Proofs.Ytfnlldbaplakoaa
open Go Go.Hw
/-! ### 22 (*slipway/slipwayref07.Wheel).Advance -/
noncomputable def B22 : Code := match Try.f22.body with | some c => c | none => .skip
def N22_l0_b (x0_w : Option Addr) (Φ : Sl → Hp → Prop) (x5_out : Sl) (h : Hp) (K_ret : Sl → Hp → Prop) : Prop :=
  C34 x0_w h fun n0 h0 =>
  bif (decide (n0 < 0)) then
    K_ret x5_out h0
  else
    nn x0_w fun a0 =>
    xL (cell h0 (a0.add 1)) fun s0 =>
    idx n0 s0.n <|
    nn s0.p fun a1 =>
    xI .i64 (cell h0 (a1.add (n0.toNat * 3))) fun n1 =>
    nn x0_w fun a2 =>
    xI .i64 (cell h0 a2) fun n2 =>
    bif (decide (n1 > n2)) then
      K_ret x5_out h0
    else
      nn x0_w fun a3 =>
      xL (cell h0 (a3.add 1)) fun s1 =>
      idx n0 s1.n <|
      nn s1.p fun a4 =>
      xI .i64 (cell h0 (a4.add (n0.toNat * 3))) fun n3 =>
      xI .i64 (cell h0 ((a4.add (n0.toNat * 3)).add 1)) fun n4 =>
      xI .i64 (cell h0 ((a4.add (n0.toNat * 3)).add 2)) fun n5 =>
      nw h0 (.cells ⟨[.int .i64 n3, .int .i64 n4, .int .i64 n5]⟩ 44) fun b0 h1 =>
      apK Try.prog 44 x5_out (.slice (some (bk b0)) 1 1) h1 fun s2 h2 =>
      nn x0_w fun a5 =>
      xL (cell h2 (a5.add 1)) fun s3 =>
      idx n0 s3.n <|
      nn s3.p fun a6 =>
      xI .i64 (cell h2 ((a6.add (n0.toNat * 3)).add 1)) fun n6 =>
      C21 x0_w n6 h2 fun b1 h3 =>
      Φ s2 h3
def N22_l0_B (x0_w : Option Addr) (K_ret : Sl → Hp → Prop) (s : Sg.T [(5, .c (.slice))]) (h : Hp) (Φ : Sg.T [(5, .c (.slice))] → Hp → Prop) : Prop :=
  N22_l0_b x0_w (fun x5_out h => Φ x5_out h) s h K_ret
def N22_l0 (x0_w : Option Addr) (x5_out : Sl) (h : Hp) (K_ret : Sl → Hp → Prop) : Prop :=
  loopP (N22_l0_B x0_w K_ret) x5_out h
noncomputable def N22_l0_t : Xf := loopT [(0, .c (.ptr))] [(5, .c (.slice))] (codeAt B22 [1, 1, 1, 0, 0]) fun F Q => N22_l0_B F (fun o0 h' => Q .ret (Sg.env [(4, .c (.slice))] o0) h')
theorem N22_l0_ok : Sound Try.prog Try.f22.ntmps N22_l0_t (codeAt B22 [1, 1, 1, 0]) := by
  refine loop_sound (fun e => match e with | .ret => [4] | _ => []) (by kernel_rfl) ?_
  intro F Q s h Φ hb
  refine den_sound hE hm _ (.one (.two .leaf (.two (.two (.ord [0, 1, 2, 3, 4, 5, 6, 7, 8, 9, 10, 11, 12, 13, 14, 15, 16]) .leaf) .leaf))) _ _ _ (⟨annOk_leaf, ⟨⟨trivial, annOk_leaf⟩, annOk_leaf⟩⟩) ?_
  refine cast ?_ hb
  kernel_rfl
def N22 (x0 : Option Addr) (x1 : Int) (h : Hp) (K : Sl → Hp → Prop) : Prop :=
  C33 x0 x1 h fun n0 h0 =>
  nn x0 fun a0 =>
  st h0 a0 (.int .i64 n0) fun h1 =>
  N22_l0 x0 ⟨none, 0, 0⟩ h1
    (fun s0 h2 =>
      K s0 h2)
theorem S22 {x0 : Option Addr} {x1 : Int} {h : Hp} {K : Sl → Hp → Prop} (hn : N22 x0 x1 h K) : C22 x0 x1 h K := by
  refine calls_of_D Try.func22 (c := B22) rfl (by kernel_rfl) ?_
  refine den_sound hE hm _ (.two .leaf (.two .leaf (.two .leaf (.one (.xf N22_l0_t))))) _ _ _ (⟨annOk_leaf, ⟨annOk_leaf, ⟨annOk_leaf, N22_l0_ok⟩⟩⟩) ?_
  refine cast ?_ hn
  kernel_rfl
end Go.Proofs.Ytfnlldbaplakoaa

set_option linter.unusedVariables false
set_option maxRecDepth 100000
namespace Go.Proofs.Ytfnlldbaplakoaa
open Go Go.Hw
/-! ### 23 (*slipway/slipwaylaw07.kept).take -/
noncomputable def B23 : Code := match Try.f23.body with | some c => c | none => .skip
def N23 (x0 : Option Addr) (x1 : Sl) (x2 : Sl) (h : Hp) (K : Hp → Prop) : Prop :=
  nn x0 fun a0 =>
  xL (cell h a0) fun s0 =>
  nw h (.cells ⟨[.slice x1.p x1.n x1.c]⟩ 41) fun b0 h0 =>
  apK Try.prog 41 s0 (.slice (some (bk b0)) 1 1) h0 fun s1 h1 =>
  nn x0 fun a1 =>
  st h1 a1 (.slice s1.p s1.n s1.c) fun h2 =>
  nn x0 fun a2 =>
  xL (cell h2 (a2.add 1)) fun s2 =>
  nw h2 (.cells ⟨[.slice x2.p x2.n x2.c]⟩ 41) fun b1 h3 =>
  apK Try.prog 41 s2 (.slice (some (bk b1)) 1 1) h3 fun s3 h4 =>
  nn x0 fun a3 =>
  st h4 (a3.add 1) (.slice s3.p s3.n s3.c) fun h5 =>
  K h5
theorem S23 {x0 : Option Addr} {x1 : Sl} {x2 : Sl} {h : Hp} {K : Hp → Prop} (hn : N23 x0 x1 x2 h K) : C23 x0 x1 x2 h K := by
  refine calls_of_D Try.func23 (c := B23) rfl (by kernel_rfl) ?_
  refine den_sound hE hm _ .leaf _ _ _ (annOk_leaf) ?_
  refine cast ?_ hn
  kernel_rfl
end Go.Proofs.Ytfnlldbaplakoaa

set_option linter.unusedVariables false
set_option maxRecDepth 100000
namespace Go.Proofs.Ytfnlldbaplakoaa
open Go Go.Hw
/-! ### 24 (*slipway/slipwayref07.Wheel).Next -/
noncomputable def B24 : Code := match Try.f24.body with | some c => c | none => .skip
def N24 (x0 : Option Addr) (h : Hp) (K : Int → Bool → Hp → Prop) : Prop :=
  C34 x0 h fun n0 h0 =>
  bif (decide (n0 < 0)) then
    K 0 false h0
  else
    nn x0 fun a0 =>
    xL (cell h0 (a0.add 1)) fun s0 =>
    idx n0 s0.n <|
    nn s0.p fun a1 =>
    xI .i64 (cell h0 (a1.add (n0.toNat * 3))) fun n1 =>
    K n1 true h0
theorem S24 {x0 : Option Addr} {h : Hp} {K : Int → Bool → Hp → Prop} (hn : N24 x0 h K) : C24 x0 h K := by
  refine calls_of_D Try.func24 (c := B24) rfl (by kernel_rfl) ?_
  refine den_sound hE hm _ .leaf _ _ _ (annOk_leaf) ?_
  refine cast ?_ hn
  kernel_rfl
end Go.Proofs.Ytfnlldbaplakoaa

set_option linter.unusedVariables false
set_option maxRecDepth 100000
namespace Go.Proofs.Ytfnlldbaplakoaa
open Go Go.Hw
/-! ### 25 (*slipway/slipwayref07.Wheel).Now -/
noncomputable def B25 : Code := match Try.f25.body with | some c => c | none => .skip
def N25 (x0 : Option Addr) (h : Hp) (K : Int → Hp → Prop) : Prop :=
  nn x0 fun a0 =>
  xI .i64 (cell h a0) fun n0 =>
  K n0 h
theorem S25 {x0 : Option Addr} {h : Hp} {K : Int → Hp → Prop} (hn : N25 x0 h K) : C25 x0 h K := by
  refine calls_of_D Try.func25 (c := B25) rfl (by kernel_rfl) ?_
  refine den_sound hE hm _ .leaf _ _ _ (annOk_leaf) ?_
  refine cast ?_ hn
  kernel_rfl
end Go.Proofs.Ytfnlldbaplakoaa

set_option linter.unusedVariables false
set_option maxRecDepth 100000
namespace Go.Proofs.Ytfnlldbaplakoaa
open Go Go.Hw
/-! ### 26 (*slipway/slipwayref07.Wheel).Len -/
noncomputable def B26 : Code := match Try.f26.body with | some c => c | none => .skip
def N26 (x0 : Option Addr) (h : Hp) (K : Int → Hp → Prop) : Prop :=
  nn x0 fun a0 =>
  xL (cell h (a0.add 1)) fun s0 =>
  K ((s0.n : Nat) : Int) h
theorem S26 {x0 : Option Addr} {h : Hp} {K : Int → Hp → Prop} (hn : N26 x0 h K) : C26 x0 h K := by
  refine calls_of_D Try.func26 (c := B26) rfl (by kernel_rfl) ?_
  refine den_sound hE hm _ .leaf _ _ _ (annOk_leaf) ?_
  refine cast ?_ hn
  kernel_rfl
end Go.Proofs.Ytfnlldbaplakoaa

set_option linter.unusedVariables false
set_option maxRecDepth 100000
namespace Go.Proofs.Ytfnlldbaplakoaa
open Go Go.Hw
/-! ### 27 (*slipway/wheel.Wheel).counts -/
noncomputable def B27 : Code := match Try.f27.body with | some c => c | none => .skip
def N27 (x0 : Option Addr) (x1 : Int) (h : Hp) (K : Int → Hp → Prop) : Prop :=
  nn x0 fun a0 =>
  xI .i64 (cell h a0) fun n0 =>
  K (mn (mx x1 n0) 1125899906842624) h
theorem S27 {x0 : Option Addr} {x1 : Int} {h : Hp} {K : Int → Hp → Prop} (hn : N27 x0 x1 h K) : C27 x0 x1 h K := by
  refine calls_of_D Try.func27 (c := B27) rfl (by kernel_rfl) ?_
  refine den_sound hE hm _ .leaf _ _ _ (annOk_leaf) ?_
  refine cast ?_ hn
  kernel_rfl
end Go.Proofs.Ytfnlldbaplakoaa

set_option linter.unusedVariables false
set_option maxRecDepth 100000
namespace Go.Proofs.Ytfnlldbaplakoaa
open Go Go.Hw
/-! ### 28 (*slipway/wheel.Wheel).lay -/
noncomputable def B28 : Code := match Try.f28.body with | some c => c | none => .skip
def N28 (x0 : Option Addr) (x1 : Option Addr) (h : Hp) (K : Hp → Prop) : Prop :=
  nn x1 fun a0 =>
  xI .i64 (cell h a0) fun n0 =>
  C35 x0 n0 h fun n1 h0 =>
  bif (n1 == (-1)) then
    nn x0 fun a1 =>
    C36 (some (a1.add 258)) x1 h0 fun h1 =>
    K h1
  else
    nn x1 fun a2 =>
    xI .i64 (cell h0 a2) fun n2 =>
    nn x0 fun a3 =>
    idx n1 4 <|
    C37 n2 n1 h0 fun n3 h2 =>
    idx n3 64 <|
    xL (cell h2 (((a3.add 2).add (n1.toNat * 64)).add (n3.toNat * 1))) fun s0 =>
    nn x1 fun a4 =>
    st h2 (a4.add 3) (.int .i64 n1) fun h3 =>
    nn x1 fun a5 =>
    st h3 (a5.add 4) (.int .i64 ((s0.n : Nat) : Int)) fun h4 =>
    xL (cell h4 (((a3.add 2).add (n1.toNat * 64)).add (n3.toNat * 1))) fun s1 =>
    nw h4 (.cells ⟨[.pointer x1]⟩ 62) fun b0 h5 =>
    apK Try.prog 62 s1 (.slice (some (bk b0)) 1 1) h5 fun s2 h6 =>
    st h6 (((a3.add 2).add (n1.toNat * 64)).add (n3.toNat * 1)) (.slice s2.p s2.n s2.c) fun h7 =>
    K h7
theorem S28 {x0 : Option Addr} {x1 : Option Addr} {h : Hp} {K : Hp → Prop} (hn : N28 x0 x1 h K) : C28 x0 x1 h K := by
  refine calls_of_D Try.func28 (c := B28) rfl (by kernel_rfl) ?_
  refine den_sound hE hm _ (.two .leaf (.two .leaf (.two (.ord [0, 1, 2, 3, 4, 5, 6, 7, 9, 10, 11, 8, 12, 13]) .leaf))) _ _ _ (⟨annOk_leaf, ⟨annOk_leaf, ⟨trivial, annOk_leaf⟩⟩⟩) ?_
  refine cast ?_ hn
  kernel_rfl
end Go.Proofs.Ytfnlldbaplakoaa

set_option linter.unusedVariables false
set_option maxRecDepth 100000
namespace Go.Proofs.Ytfnlldbaplakoaa
open Go Go.Hw
/-! ### 29 (*slipway/wheel.Wheel).take -/
noncomputable def B29 : Code := match Try.f29.body with | some c => c | none => .skip
def N29 (x0 : Option Addr) (x1 : Option Addr) (h : Hp) (K : Hp → Prop) : Prop :=
  nn x0 fun a0 =>
  xM (cell h (a0.add 260)) fun m0 =>
  nn x1 fun a1 =>
  xI .i64 (cell h (a1.add 1)) fun n0 =>
  mdK Try.prog 50 (.map m0) (.int .i64 n0) h fun h0 =>
  nn x1 fun a2 =>
  xI .i64 (cell h0 (a2.add 3)) fun n1 =>
  bif (n1 == (-1)) then
    nn x0 fun a3 =>
    C38 (some (a3.add 258)) x1 h0 fun h1 =>
    K h1
  else
    nn x1 fun a4 =>
    xI .i64 (cell h0 (a4.add 3)) fun n2 =>
    nn x1 fun a5 =>
    xI .i64 (cell h0 a5) fun n3 =>
    nn x1 fun a6 =>
    xI .i64 (cell h0 (a6.add 3)) fun n4 =>
    nn x0 fun a7 =>
    idx n2 4 <|
    C37 n3 n4 h0 fun n5 h2 =>
    both (xI .i64 (cell h2 (a4.add 3)) fun n6 => Only (.int .i64 n2) h2 (.int .i64 n6) h2) <|
    idx n5 64 <|
    xL (cell h2 (((a7.add 2).add (n2.toNat * 64)).add (n5.toNat * 1))) fun s0 =>
    xL (cell h2 (((a7.add 2).add (n2.toNat * 64)).add (n5.toNat * 1))) fun s1 =>
    idx (IntKind.wrap .i64 (((s0.n : Nat) : Int) - 1)) s1.n <|
    nn s1.p fun a8 =>
    xP (cell h2 (a8.add ((IntKind.wrap .i64 (((s0.n : Nat) : Int) - 1)).toNat * 1))) fun p0 =>
    xL (cell h2 (((a7.add 2).add (n2.toNat * 64)).add (n5.toNat * 1))) fun s2 =>
    nn x1 fun a9 =>
    xI .i64 (cell h2 (a9.add 4)) fun n7 =>
    idx n7 s2.n <|
    nn s2.p fun a10 =>
    st h2 (a10.add (n7.toNat * 1)) (.pointer p0) fun h3 =>
    nn x1 fun a11 =>
    xI .i64 (cell h3 (a11.add 4)) fun n8 =>
    nn p0 fun a12 =>
    st h3 (a12.add 4) (.int .i64 n8) fun h4 =>
    xL (cell h4 (((a7.add 2).add (n2.toNat * 64)).add (n5.toNat * 1))) fun s3 =>
    bd (IntKind.wrap .i64 (((s0.n : Nat) : Int) - 1)) s3.c fun k0 =>
    st h4 (((a7.add 2).add (n2.toNat * 64)).add (n5.toNat * 1)) (.slice (sadr s3.p s3.c 0 1) k0 s3.c) fun h5 =>
    K h5
theorem S29 {x0 : Option Addr} {x1 : Option Addr} {h : Hp} {K : Hp → Prop} (hn : N29 x0 x1 h K) : C29 x0 x1 h K := by
  refine calls_of_D Try.func29 (c := B29) rfl (by kernel_rfl) ?_
  refine den_sound hE hm _ (.two (.ord [0, 1, 2, 3, 4, 5, 6, 7, 8, 9]) (.two .leaf (.two (.ord [0, 1, 2, 3, 4, 5, 6, 7, 8, 9, 10, 11, 12, 13, 15, 16, 17, 14, 18, 19]) (.two .leaf (.two .leaf (.two (.ord [0, 1, 2, 3, 4, 5, 6, 7, 8, 9]) .leaf)))))) _ _ _ (⟨trivial, ⟨annOk_leaf, ⟨trivial, ⟨annOk_leaf, ⟨annOk_leaf, ⟨trivial, annOk_leaf⟩⟩⟩⟩⟩⟩) ?_
  refine cast ?_ hn
  kernel_rfl
end Go.Proofs.Ytfnlldbaplakoaa

set_option linter.unusedVariables false
set_option maxRecDepth 100000
namespace Go.Proofs.Ytfnlldbaplakoaa
open Go Go.Hw
/-! ### 30 (*slipway/wheel.Wheel).soonest -/
noncomputable def B30 : Code := match Try.f30.body with | some c => c | none => .skip
def N30_l1_b (x0_w : Option Addr) (x3_k : Int) (x6 : Int) (Φ : Int → Hp → Prop) (x4_i : Int) (h : Hp) (K_e2 : Hp → Prop) (K_ret : Option Addr → Hp → Prop) : Prop :=
  bif (decide (x4_i < 64)) then
    nn x0_w fun a0 =>
    idx x3_k 4 <|
    idx x4_i 64 <|
    xL (cell h (((a0.add 2).add (x3_k.toNat * 64)).add (x4_i.toNat * 1))) fun s0 =>
    bif (decide (((s0.n : Nat) : Int) > 0)) then
      C39 s0 (.func (.func 40) ⟨[]⟩ ⟨[]⟩) h fun p0 h0 =>
      K_ret p0 h0
    else
      Φ (IntKind.wrap .i64 (x4_i + 1)) h
  else
    K_e2 h
def N30_l1_B (x0_w : Option Addr) (x3_k : Int) (x6 : Int) (K_e2 : Hp → Prop) (K_ret : Option Addr → Hp → Prop) (s : Sg.T [(4, .c (.int .i64))]) (h : Hp) (Φ : Sg.T [(4, .c (.int .i64))] → Hp → Prop) : Prop :=
  N30_l1_b x0_w x3_k x6 (fun x4_i h => Φ x4_i h) s h K_e2 K_ret
def N30_l1 (x0_w : Option Addr) (x3_k : Int) (x6 : Int) (x4_i : Int) (h : Hp) (K_e2 : Hp → Prop) (K_ret : Option Addr → Hp → Prop) : Prop :=
  loopP (N30_l1_B x0_w x3_k x6 K_e2 K_ret) x4_i h
noncomputable def N30_l1_t : Xf := loopT [(0, .c (.ptr)), (3, .c (.int .i64)), (6, .c (.int .i64))] [(4, .c (.int .i64))] (codeAt B30 [1, 0, 1, 0, 0, 1, 1, 0, 0, 1, 1, 0, 0]) fun F Q => N30_l1_B F.1 F.2.1 F.2.2 (fun h' => Q (.exit 2) (Sg.env [] ()) h') (fun o0 h' => Q .ret (Sg.env [(2, .c (.ptr))] o0) h')
theorem N30_l1_ok : Sound Try.prog Try.f30.ntmps N30_l1_t (codeAt B30 [1, 0, 1, 0, 0, 1, 1, 0, 0, 1, 1, 0]) := by
  refine loop_sound (fun e => match e with | .exit 2 => [] | .ret => [2] | _ => []) (by kernel_rfl) ?_
  intro F Q s h Φ hb
  refine den_sound hE hm _ .leaf _ _ _ (annOk_leaf) ?_
  refine cast ?_ hb
  kernel_rfl
def N30_l0_b (x0_w : Option Addr) (Φ : Int → Hp → Prop) (x6 : Int) (h : Hp) (K_e0 : Hp → Prop) (K_ret : Option Addr → Hp → Prop) : Prop :=
  bif (decide (x6 < 4)) then
    nn x0_w fun a0 =>
    xI .i64 (cell h a0) fun n0 =>
    C37 n0 x6 h fun n1 h0 =>
    N30_l1 x0_w x6 x6 n1 h0
      (fun h1 =>
        Φ (IntKind.wrap .i64 (x6 + 1)) h1)
      (fun p0 h2 =>
        K_ret p0 h2)
  else
    K_e0 h
def N30_l0_B (x0_w : Option Addr) (K_e0 : Hp → Prop) (K_ret : Option Addr → Hp → Prop) (s : Sg.T [(6, .c (.int .i64))]) (h : Hp) (Φ : Sg.T [(6, .c (.int .i64))] → Hp → Prop) : Prop :=
  N30_l0_b x0_w (fun x6 h => Φ x6 h) s h K_e0 K_ret
def N30_l0 (x0_w : Option Addr) (x6 : Int) (h : Hp) (K_e0 : Hp → Prop) (K_ret : Option Addr → Hp → Prop) : Prop :=
  loopP (N30_l0_B x0_w K_e0 K_ret) x6 h
noncomputable def N30_l0_t : Xf := loopT [(0, .c (.ptr))] [(6, .c (.int .i64))] (codeAt B30 [1, 0, 1, 0, 0]) fun F Q => N30_l0_B F (fun h' => Q (.exit 0) (Sg.env [] ()) h') (fun o0 h' => Q .ret (Sg.env [(2, .c (.ptr))] o0) h')
theorem N30_l0_ok : Sound Try.prog Try.f30.ntmps N30_l0_t (codeAt B30 [1, 0, 1, 0]) := by
  refine loop_sound (fun e => match e with | .exit 0 => [] | .ret => [2] | _ => []) (by kernel_rfl) ?_
  intro F Q s h Φ hb
  refine den_sound hE hm _ (.two .leaf (.two .leaf (.two (.one (.two .leaf (.two .leaf (.one (.xf N30_l1_t))))) .leaf))) _ _ _ (⟨annOk_leaf, ⟨annOk_leaf, ⟨⟨annOk_leaf, ⟨annOk_leaf, N30_l1_ok⟩⟩, annOk_leaf⟩⟩⟩) ?_
  refine cast ?_ hb
  kernel_rfl
def N30 (x0 : Option Addr) (h : Hp) (K : Option Addr → Hp → Prop) : Prop :=
  N30_l0 x0 0 h
    (fun h0 =>
      nn x0 fun a0 =>
      xL (cell h0 (a0.add 258)) fun s0 =>
      bif (decide (((s0.n : Nat) : Int) > 0)) then
        nn x0 fun a1 =>
        xL (cell h0 (a1.add 258)) fun s1 =>
        idx 0 s1.n <|
        nn s1.p fun a2 =>
        xP (cell h0 (a2.add ((0 : Int).toNat * 1))) fun p0 =>
        K p0 h0
      else
        K none h0)
    (fun p1 h1 =>
      K p1 h1)
theorem S30 {x0 : Option Addr} {h : Hp} {K : Option Addr → Hp → Prop} (hn : N30 x0 h K) : C30 x0 h K := by
  refine calls_of_D Try.func30 (c := B30) rfl (by kernel_rfl) ?_
  refine den_sound hE hm _ (.two .leaf (.two (.two .leaf (.one (.xf N30_l0_t))) .leaf)) _ _ _ (⟨annOk_leaf, ⟨⟨annOk_leaf, N30_l0_ok⟩, annOk_leaf⟩⟩) ?_
  refine cast ?_ hn
  kernel_rfl
end Go.Proofs.Ytfnlldbaplakoaa

set_option linter.unusedVariables false
set_option maxRecDepth 100000
namespace Go.Proofs.Ytfnlldbaplakoaa
open Go Go.Hw
/-! ### 31 (*slipway/wheel.Wheel).move -/
noncomputable def B31 : Code := match Try.f31.body with | some c => c | none => .skip
def N31_l0_b (x0_w : Option Addr) (Φ : Hp → Prop)  (h : Hp) (K_e3 : Hp → Prop) : Prop :=
  nn x0_w fun a0 =>
  xL (cell h (a0.add 258)) fun s0 =>
  bif (decide (((s0.n : Nat) : Int) > 0)) then
    nn x0_w fun a1 =>
    xL (cell h (a1.add 258)) fun s1 =>
    idx 0 s1.n <|
    nn s1.p fun a2 =>
    xP (cell h (a2.add ((0 : Int).toNat * 1))) fun p0 =>
    nn p0 fun a3 =>
    xI .i64 (cell h a3) fun n0 =>
    C35 x0_w n0 h fun n1 h0 =>
    bif (n1 != (-1)) then
      nn x0_w fun a4 =>
      xL (cell h0 (a4.add 258)) fun s2 =>
      idx 0 s2.n <|
      nn s2.p fun a5 =>
      xP (cell h0 (a5.add ((0 : Int).toNat * 1))) fun p1 =>
      nn x0_w fun a6 =>
      C38 (some (a6.add 258)) p1 h0 fun h1 =>
      C28 x0_w p1 h1 fun h2 =>
      Φ h2
    else
      K_e3 h0
  else
    K_e3 h
def N31_l0_B (x0_w : Option Addr) (K_e3 : Hp → Prop) (s : Sg.T []) (h : Hp) (Φ : Sg.T [] → Hp → Prop) : Prop :=
  N31_l0_b x0_w (fun h => Φ () h)  h K_e3
def N31_l0 (x0_w : Option Addr)  (h : Hp) (K_e3 : Hp → Prop) : Prop :=
  loopP (N31_l0_B x0_w K_e3) () h
noncomputable def N31_l0_t : Xf := loopT [(0, .c (.ptr))] [] (codeAt B31 [1, 1, 1, 0, 1, 1, 1, 0, 0, 0]) fun F Q => N31_l0_B F (fun h' => Q (.exit 3) (Sg.env [] ()) h')
theorem N31_l0_ok : Sound Try.prog Try.f31.ntmps N31_l0_t (codeAt B31 [1, 1, 1, 0, 1, 1, 1, 0, 0]) := by
  refine loop_sound (fun e => match e with | .exit 3 => [] | _ => []) (by kernel_rfl) ?_
  intro F Q s h Φ hb
  refine den_sound hE hm _ .leaf _ _ _ (annOk_leaf) ?_
  refine cast ?_ hb
  kernel_rfl
def N31_l1_b (x0_w : Option Addr) (x32 : Sl) (x33 : Int) (Φ : Int → Hp → Prop) (x34 : Int) (h : Hp) (K_e1 : Hp → Prop) : Prop :=
  bif (decide (x34 < x33)) then
    idx x34 x32.n <|
    nn x32.p fun a0 =>
    xP (cell h (a0.add (x34.toNat * 1))) fun p0 =>
    C28 x0_w p0 h fun h0 =>
    Φ (IntKind.wrap .i64 (x34 + 1)) h0
  else
    K_e1 h
def N31_l1_B (x0_w : Option Addr) (x32 : Sl) (x33 : Int) (K_e1 : Hp → Prop) (s : Sg.T [(34, .c (.int .i64))]) (h : Hp) (Φ : Sg.T [(34, .c (.int .i64))] → Hp → Prop) : Prop :=
  N31_l1_b x0_w x32 x33 (fun x34 h => Φ x34 h) s h K_e1
def N31_l1 (x0_w : Option Addr) (x32 : Sl) (x33 : Int) (x34 : Int) (h : Hp) (K_e1 : Hp → Prop) : Prop :=
  loopP (N31_l1_B x0_w x32 x33 K_e1) x34 h
noncomputable def N31_l1_t : Xf := loopT [(0, .c (.ptr)), (32, .c (.slice)), (33, .c (.int .i64))] [(34, .c (.int .i64))] (codeAt B31 [1, 1, 1, 0, 1, 1, 1, 1, 1, 1, 1, 1, 0, 0]) fun F Q => N31_l1_B F.1 F.2.1 F.2.2 (fun h' => Q (.exit 1) (Sg.env [] ()) h')
theorem N31_l1_ok : Sound Try.prog Try.f31.ntmps N31_l1_t (codeAt B31 [1, 1, 1, 0, 1, 1, 1, 1, 1, 1, 1, 1, 0]) := by
  refine loop_sound (fun e => match e with | .exit 1 => [] | _ => []) (by kernel_rfl) ?_
  intro F Q s h Φ hb
  refine den_sound hE hm _ .leaf _ _ _ (annOk_leaf) ?_
  refine cast ?_ hb
  kernel_rfl
def N31 (x0 : Option Addr) (x1 : Int) (h : Hp) (K : Hp → Prop) : Prop :=
  C35 x0 x1 h fun n0 h0 =>
  nn x0 fun a0 =>
  st h0 a0 (.int .i64 x1) fun h1 =>
  bif (n0 == 0) then
    K h1
  else
    bif (n0 == (-1)) then
      N31_l0 x0 h1
        (fun h2 =>
          K h2)
    else
      nn x0 fun a1 =>
      idx n0 4 <|
      C37 x1 n0 h1 fun n1 h3 =>
      idx n1 64 <|
      xL (cell h3 (((a1.add 2).add (n0.toNat * 64)).add (n1.toNat * 1))) fun s0 =>
      st h3 (((a1.add 2).add (n0.toNat * 64)).add (n1.toNat * 1)) (.slice none 0 0) fun h4 =>
      N31_l1 x0 s0 ((s0.n : Nat) : Int) 0 h4
        (fun h5 =>
          K h5)
theorem S31 {x0 : Option Addr} {x1 : Int} {h : Hp} {K : Hp → Prop} (hn : N31 x0 x1 h K) : C31 x0 x1 h K := by
  refine calls_of_D Try.func31 (c := B31) rfl (by kernel_rfl) ?_
  refine den_sound hE hm _ (.two .leaf (.two .leaf (.two .leaf (.one (.two .leaf (.two .leaf (.two .leaf (.two (.one (.xf N31_l0_t)) (.two (.ord [0, 1, 2, 3, 5, 6, 7, 4, 8, 9]) (.two .leaf (.two .leaf (.two .leaf (.one (.xf N31_l1_t)))))))))))))) _ _ _ (⟨annOk_leaf, ⟨annOk_leaf, ⟨annOk_leaf, ⟨annOk_leaf, ⟨annOk_leaf, ⟨annOk_leaf, ⟨N31_l0_ok, ⟨trivial, ⟨annOk_leaf, ⟨annOk_leaf, ⟨annOk_leaf, N31_l1_ok⟩⟩⟩⟩⟩⟩⟩⟩⟩⟩⟩) ?_
  refine cast ?_ hn
  kernel_rfl
end Go.Proofs.Ytfnlldbaplakoaa

set_option linter.unusedVariables false
set_option maxRecDepth 100000
namespace Go.Proofs.Ytfnlldbaplakoaa
open Go Go.Hw
/-! ### 32 slipway/wheel.order -/
noncomputable def B32 : Code := match Try.f32.body with | some c => c | none => .skip
def N32 (x0_0 : Int) (x0_1 : Int) (x0_2 : Int) (x1_0 : Int) (x1_1 : Int) (x1_2 : Int) (h : Hp) (K : Int → Hp → Prop) : Prop :=
  nw h (.cells ⟨[.int .i64 x0_0, .int .i64 x0_1, .int .i64 x0_2]⟩ 44) fun b0 h0 =>
  nw h0 (.cells ⟨[.int .i64 x1_0, .int .i64 x1_1, .int .i64 x1_2]⟩ 44) fun b1 h1 =>
  xI .i64 (cell h1 (bk b0)) fun n0 =>
  xI .i64 (cell h1 (bk b1)) fun n1 =>
  xI .i64 (cell h1 ((bk b0).add 1)) fun n2 =>
  xI .i64 (cell h1 ((bk b1).add 1)) fun n3 =>
  C42 n0 n1 h1 fun n4 h2 =>
  both (xI .i64 (cell h2 ((bk b1).add 1)) fun n5 => Only (.int .i64 n3) h2 (.int .i64 n5) h2) <|
  both (xI .i64 (cell h2 ((bk b0).add 1)) fun n6 => Only (.int .i64 n2) h2 (.int .i64 n6) h2) <|
  C42 n2 n3 h2 fun n7 h3 =>
  nw h3 (.cells ⟨[.int .i64 n4, .int .i64 n7]⟩ 3) fun b2 h4 =>
  C41 ⟨some (bk b2), 2, 2⟩ h4 fun n8 h5 =>
  K n8 h5
theorem S32 {x0_0 : Int} {x0_1 : Int} {x0_2 : Int} {x1_0 : Int} {x1_1 : Int} {x1_2 : Int} {h : Hp} {K : Int → Hp → Prop} (hn : N32 x0_0 x0_1 x0_2 x1_0 x1_1 x1_2 h K) : C32 x0_0 x0_1 x0_2 x1_0 x1_1 x1_2 h K := by
  refine calls_of_D Try.func32 (c := B32) rfl (by kernel_rfl) ?_
  refine den_sound hE hm _ (.two .leaf (.two (.ord [0, 1, 2, 3, 5, 6, 7, 8, 4, 9, 10, 11, 12]) .leaf)) _ _ _ (⟨annOk_leaf, ⟨trivial, annOk_leaf⟩⟩) ?_
  refine cast ?_ hn
  kernel_rfl
end Go.Proofs.Ytfnlldbaplakoaa

set_option linter.unusedVariables false
set_option maxRecDepth 100000
namespace Go.Proofs.Ytfnlldbaplakoaa
open Go Go.Hw
/-! ### 33 (*slipway/slipwayref07.Wheel).Counts -/
noncomputable def B33 : Code := match Try.f33.body with | some c => c | none => .skip
def N33 (x0 : Option Addr) (x1 : Int) (h : Hp) (K : Int → Hp → Prop) : Prop :=
  nn x0 fun a0 =>
  xI .i64 (cell h a0) fun n0 =>
  bif (decide (x1 < n0)) then
    nn x0 fun a1 =>
    xI .i64 (cell h a1) fun n1 =>
    K n1 h
  else
    bif (decide (x1 > 1125899906842624)) then
      K 1125899906842624 h
    else
      K x1 h
theorem S33 {x0 : Option Addr} {x1 : Int} {h : Hp} {K : Int → Hp → Prop} (hn : N33 x0 x1 h K) : C33 x0 x1 h K := by
  refine calls_of_D Try.func33 (c := B33) rfl (by kernel_rfl) ?_
  refine den_sound hE hm _ .leaf _ _ _ (annOk_leaf) ?_
  refine cast ?_ hn
  kernel_rfl
end Go.Proofs.Ytfnlldbaplakoaa

set_option linter.unusedVariables false
set_option maxRecDepth 100000
namespace Go.Proofs.Ytfnlldbaplakoaa
open Go Go.Hw
/-! ### 34 (*slipway/slipwayref07.Wheel).first -/
noncomputable def B34 : Code := match Try.f34.body with | some c => c | none => .skip
def N34_l0_b (x0_w : Option Addr) (Φ : Int → Int → Hp → Prop) (x3_k : Int) (x4_i : Int) (h : Hp) (K_e0 : Int → Hp → Prop) : Prop :=
  nn x0_w fun a0 =>
  xL (cell h (a0.add 1)) fun s0 =>
  bif (decide (x4_i < ((s0.n : Nat) : Int))) then
    bif (decide (x3_k < 0)) then
      Φ x4_i (IntKind.wrap .i64 (x4_i + 1)) h
    else
      nn x0_w fun a1 =>
      xL (cell h (a1.add 1)) fun s1 =>
      idx x4_i s1.n <|
      nn s1.p fun a2 =>
      xI .i64 (cell h (a2.add (x4_i.toNat * 3))) fun n0 =>
      nn x0_w fun a3 =>
      xL (cell h (a3.add 1)) fun s2 =>
      idx x3_k s2.n <|
      nn s2.p fun a4 =>
      xI .i64 (cell h (a4.add (x3_k.toNat * 3))) fun n1 =>
      bif (decide (n0 < n1)) then
        Φ x4_i (IntKind.wrap .i64 (x4_i + 1)) h
      else
        Φ x3_k (IntKind.wrap .i64 (x4_i + 1)) h
  else
    K_e0 x3_k h
def N34_l0_B (x0_w : Option Addr) (K_e0 : Int → Hp → Prop) (s : Sg.T [(3, .c (.int .i64)), (4, .c (.int .i64))]) (h : Hp) (Φ : Sg.T [(3, .c (.int .i64)), (4, .c (.int .i64))] → Hp → Prop) : Prop :=
  N34_l0_b x0_w (fun x3_k x4_i h => Φ (x3_k, x4_i) h) s.1 s.2 h K_e0
def N34_l0 (x0_w : Option Addr) (x3_k : Int) (x4_i : Int) (h : Hp) (K_e0 : Int → Hp → Prop) : Prop :=
  loopP (N34_l0_B x0_w K_e0) (x3_k, x4_i) h
noncomputable def N34_l0_t : Xf := loopT [(0, .c (.ptr))] [(3, .c (.int .i64)), (4, .c (.int .i64))] (codeAt B34 [1, 1, 0, 1, 0, 0]) fun F Q => N34_l0_B F (fun o0 h' => Q (.exit 0) (Sg.env [(3, .c (.int .i64))] o0) h')
theorem N34_l0_ok : Sound Try.prog Try.f34.ntmps N34_l0_t (codeAt B34 [1, 1, 0, 1, 0]) := by
  refine loop_sound (fun e => match e with | .exit 0 => [3] | _ => []) (by kernel_rfl) ?_
  intro F Q s h Φ hb
  refine den_sound hE hm _ (.two .leaf (.two (.one (.two (.ord [0, 1, 2, 3, 4, 5, 6, 7, 8, 9, 10, 11, 12, 13, 14, 15, 16, 17, 18, 19, 20]) .leaf)) .leaf)) _ _ _ (⟨annOk_leaf, ⟨⟨trivial, annOk_leaf⟩, annOk_leaf⟩⟩) ?_
  refine cast ?_ hb
  kernel_rfl
def N34 (x0 : Option Addr) (h : Hp) (K : Int → Hp → Prop) : Prop :=
  N34_l0 x0 (-1) 0 h
    (fun n0 h0 =>
      K n0 h0)
theorem S34 {x0 : Option Addr} {h : Hp} {K : Int → Hp → Prop} (hn : N34 x0 h K) : C34 x0 h K := by
  refine calls_of_D Try.func34 (c := B34) rfl (by kernel_rfl) ?_
  refine den_sound hE hm _ (.two .leaf (.two .leaf (.two (.two .leaf (.one (.xf N34_l0_t))) .leaf))) _ _ _ (⟨annOk_leaf, ⟨annOk_leaf, ⟨⟨annOk_leaf, N34_l0_ok⟩, annOk_leaf⟩⟩⟩) ?_
  refine cast ?_ hn
  kernel_rfl
end Go.Proofs.Ytfnlldbaplakoaa

set_option linter.unusedVariables false
set_option maxRecDepth 100000
namespace Go.Proofs.Ytfnlldbaplakoaa
open Go Go.Hw
/-! ### 35 (*slipway/wheel.Wheel).level -/
noncomputable def B35 : Code := match Try.f35.body with | some c => c | none => .skip
def N35_l0_b (x0_w : Option Addr) (x1_t : Int) (Φ : Int → Hp → Prop) (x5_k : Int) (h : Hp) (K_e0 : Hp → Prop) (K_ret : Int → Hp → Prop) : Prop :=
  bif (decide (x5_k > 0)) then
    nn x0_w fun a0 =>
    xI .i64 (cell h a0) fun n0 =>
    C37 x1_t x5_k h fun n1 h0 =>
    both (xI .i64 (cell h0 a0) fun n2 => Only (.int .i64 n0) h0 (.int .i64 n2) h0) <|
    C37 n0 x5_k h0 fun n3 h1 =>
    bif (n1 != n3) then
      K_ret x5_k h1
    else
      Φ (IntKind.wrap .i64 (x5_k - 1)) h1
  else
    K_e0 h
def N35_l0_B (x0_w : Option Addr) (x1_t : Int) (K_e0 : Hp → Prop) (K_ret : Int → Hp → Prop) (s : Sg.T [(5, .c (.int .i64))]) (h : Hp) (Φ : Sg.T [(5, .c (.int .i64))] → Hp → Prop) : Prop :=
  N35_l0_b x0_w x1_t (fun x5_k h => Φ x5_k h) s h K_e0 K_ret
def N35_l0 (x0_w : Option Addr) (x1_t : Int) (x5_k : Int) (h : Hp) (K_e0 : Hp → Prop) (K_ret : Int → Hp → Prop) : Prop :=
  loopP (N35_l0_B x0_w x1_t K_e0 K_ret) x5_k h
noncomputable def N35_l0_t : Xf := loopT [(0, .c (.ptr)), (1, .c (.int .i64))] [(5, .c (.int .i64))] (codeAt B35 [1, 1, 0, 1, 0, 0]) fun F Q => N35_l0_B F.1 F.2 (fun h' => Q (.exit 0) (Sg.env [] ()) h') (fun o0 h' => Q .ret (Sg.env [(4, .c (.int .i64))] o0) h')
theorem N35_l0_ok : Sound Try.prog Try.f35.ntmps N35_l0_t (codeAt B35 [1, 1, 0, 1, 0]) := by
  refine loop_sound (fun e => match e with | .exit 0 => [] | .ret => [4] | _ => []) (by kernel_rfl) ?_
  intro F Q s h Φ hb
  refine den_sound hE hm _ (.two .leaf (.two (.one (.two (.ord [0, 1, 3, 4, 5, 6, 7, 2, 8, 9]) .leaf)) .leaf)) _ _ _ (⟨annOk_leaf, ⟨⟨trivial, annOk_leaf⟩, annOk_leaf⟩⟩) ?_
  refine cast ?_ hb
  kernel_rfl
def N35 (x0 : Option Addr) (x1 : Int) (h : Hp) (K : Int → Hp → Prop) : Prop :=
  nn x0 fun a0 =>
  xI .i64 (cell h a0) fun n0 =>
  bif ((Int.fdiv x1 (2 ^ 24)) != (Int.fdiv n0 (2 ^ 24))) then
    K (-1) h
  else
    N35_l0 x0 x1 3 h
      (fun h0 =>
        K 0 h0)
      (fun n1 h1 =>
        K n1 h1)
theorem S35 {x0 : Option Addr} {x1 : Int} {h : Hp} {K : Int → Hp → Prop} (hn : N35 x0 x1 h K) : C35 x0 x1 h K := by
  refine calls_of_D Try.func35 (c := B35) rfl (by kernel_rfl) ?_
  refine den_sound hE hm _ (.two .leaf (.two .leaf (.two (.two .leaf (.one (.xf N35_l0_t))) .leaf))) _ _ _ (⟨annOk_leaf, ⟨annOk_leaf, ⟨⟨annOk_leaf, N35_l0_ok⟩, annOk_leaf⟩⟩⟩) ?_
  refine cast ?_ hn
  kernel_rfl
end Go.Proofs.Ytfnlldbaplakoaa

set_option linter.unusedVariables false
set_option maxRecDepth 100000
namespace Go.Proofs.Ytfnlldbaplakoaa
open Go Go.Hw
/-! ### 36 (*slipway/wheel.heap).add -/
noncomputable def B36 : Code := match Try.f36.body with | some c => c | none => .skip
def N36 (x0 : Option Addr) (x1 : Option Addr) (h : Hp) (K : Hp → Prop) : Prop :=
  nn x0 fun a0 =>
  xL (cell h a0) fun s0 =>
  nw h (.cells ⟨[.pointer x1]⟩ 62) fun b0 h0 =>
  apK Try.prog 62 s0 (.slice (some (bk b0)) 1 1) h0 fun s1 h1 =>
  nn x0 fun a1 =>
  st h1 a1 (.slice s1.p s1.n s1.c) fun h2 =>
  nn x0 fun a2 =>
  xL (cell h2 a2) fun s2 =>
  nn x1 fun a3 =>
  st h2 (a3.add 3) (.int .i64 (-1)) fun h3 =>
  nn x1 fun a4 =>
  st h3 (a4.add 4) (.int .i64 (IntKind.wrap .i64 (((s2.n : Nat) : Int) - 1))) fun h4 =>
  C43 x0 x1 h4 fun h5 =>
  K h5
theorem S36 {x0 : Option Addr} {x1 : Option Addr} {h : Hp} {K : Hp → Prop} (hn : N36 x0 x1 h K) : C36 x0 x1 h K := by
  refine calls_of_D Try.func36 (c := B36) rfl (by kernel_rfl) ?_
  refine den_sound hE hm _ .leaf _ _ _ (annOk_leaf) ?_
  refine cast ?_ hn
  kernel_rfl
end Go.Proofs.Ytfnlldbaplakoaa

set_option linter.unusedVariables false
set_option maxRecDepth 100000
namespace Go.Proofs.Ytfnlldbaplakoaa
open Go Go.Hw
/-! ### 37 slipway/wheel.digit -/
noncomputable def B37 : Code := match Try.f37.body with | some c => c | none => .skip
def N37 (x0 : Int) (x1 : Int) (h : Hp) (K : Int → Hp → Prop) : Prop :=
  bif decide ((IntKind.wrap .i64 (6 * x1)) < 0) then False else
  K (IntKind.wrap .i64 (BitVec.ofInt 64 (Int.fdiv x0 (2 ^ (min (IntKind.wrap .i64 (6 * x1)).toNat 64))) &&& BitVec.ofInt 64 63).toNat) h
theorem S37 {x0 : Int} {x1 : Int} {h : Hp} {K : Int → Hp → Prop} (hn : N37 x0 x1 h K) : C37 x0 x1 h K := by
  refine calls_of_D Try.func37 (c := B37) rfl (by kernel_rfl) ?_
  refine den_sound hE hm _ .leaf _ _ _ (annOk_leaf) ?_
  refine cast ?_ hn
  kernel_rfl
end Go.Proofs.Ytfnlldbaplakoaa

set_option linter.unusedVariables false
set_option maxRecDepth 100000
namespace Go.Proofs.Ytfnlldbaplakoaa
open Go Go.Hw
/-! ### 38 (*slipway/wheel.heap).drop -/
noncomputable def B38 : Code := match Try.f38.body with | some c => c | none => .skip
def N38 (x0 : Option Addr) (x1 : Option Addr) (h : Hp) (K : Hp → Prop) : Prop :=
  nn x0 fun a0 =>
  xL (cell h a0) fun s0 =>
  nn x0 fun a1 =>
  xL (cell h a1) fun s1 =>
  idx (IntKind.wrap .i64 (((s0.n : Nat) : Int) - 1)) s1.n <|
  nn s1.p fun a2 =>
  xP (cell h (a2.add ((IntKind.wrap .i64 (((s0.n : Nat) : Int) - 1)).toNat * 1))) fun p0 =>
  nn x0 fun a3 =>
  xL (cell h a3) fun s2 =>
  bd (IntKind.wrap .i64 (((s0.n : Nat) : Int) - 1)) s2.c fun k0 =>
  nn x0 fun a4 =>
  st h a4 (.slice (sadr s2.p s2.c 0 1) k0 s2.c) fun h0 =>
  peq h0 p0 x1 fun b0 =>
  bif (!b0) then
    nn x1 fun a5 =>
    xI .i64 (cell h0 (a5.add 4)) fun n0 =>
    C44 x0 n0 p0 h0 fun h1 =>
    C45 x0 p0 h1 fun h2 =>
    C43 x0 p0 h2 fun h3 =>
    K h3
  else
    K h0
theorem S38 {x0 : Option Addr} {x1 : Option Addr} {h : Hp} {K : Hp → Prop} (hn : N38 x0 x1 h K) : C38 x0 x1 h K := by
  refine calls_of_D Try.func38 (c := B38) rfl (by kernel_rfl) ?_
  refine den_sound hE hm _ .leaf _ _ _ (annOk_leaf) ?_
  refine cast ?_ hn
  kernel_rfl
end Go.Proofs.Ytfnlldbaplakoaa

set_option linter.unusedVariables false
set_option maxRecDepth 100000
namespace Go.Proofs.Ytfnlldbaplakoaa
open Go Go.Hw
/-! ### 39 slices.MinFunc[[]*slipway/wheel.timer,*slipway/wheel.timer] -/
noncomputable def B39 : Code := match Try.f39.body with | some c => c | none => .skip
def N39_l1_b (x0_x : Sl) (x1_cmp : Value) (Φ : Option Addr → Int → Hp → Prop) (x5_m : Option Addr) (x6_i : Int) (h : Hp) (K_e0 : Option Addr → Hp → Prop) : Prop :=
  bif (decide (x6_i < ((x0_x.n : Nat) : Int))) then
    idx x6_i x0_x.n <|
    nn x0_x.p fun a0 =>
    xP (cell h (a0.add (x6_i.toNat * 1))) fun p0 =>
    HCallV Try.prog E (x1_cmp) [.pointer p0, .pointer x5_m] h fun v0 h0 =>
    xI .i64 (some v0) fun n0 =>
    bif (decide (n0 < 0)) then
      idx x6_i x0_x.n <|
      nn x0_x.p fun a1 =>
      xP (cell h0 (a1.add (x6_i.toNat * 1))) fun p1 =>
      Φ p1 (IntKind.wrap .i64 (x6_i + 1)) h0
    else
      Φ x5_m (IntKind.wrap .i64 (x6_i + 1)) h0
  else
    K_e0 x5_m h
def N39_l1_B (x0_x : Sl) (x1_cmp : Value) (K_e0 : Option Addr → Hp → Prop) (s : Sg.T [(5, .c (.ptr)), (6, .c (.int .i64))]) (h : Hp) (Φ : Sg.T [(5, .c (.ptr)), (6, .c (.int .i64))] → Hp → Prop) : Prop :=
  N39_l1_b x0_x x1_cmp (fun x5_m x6_i h => Φ (x5_m, x6_i) h) s.1 s.2 h K_e0
def N39_l1 (x0_x : Sl) (x1_cmp : Value) (x5_m : Option Addr) (x6_i : Int) (h : Hp) (K_e0 : Option Addr → Hp → Prop) : Prop :=
  loopP (N39_l1_B x0_x x1_cmp K_e0) (x5_m, x6_i) h
noncomputable def N39_l1_t : Xf := loopT [(0, .c (.slice)), (1, .c (.any))] [(5, .c (.ptr)), (6, .c (.int .i64))] (codeAt B39 [1, 1, 1, 0, 1, 0, 0]) fun F Q => N39_l1_B F.1 F.2 (fun o0 h' => Q (.exit 0) (Sg.env [(5, .c (.ptr))] o0) h')
theorem N39_l1_ok : Sound Try.prog Try.f39.ntmps N39_l1_t (codeAt B39 [1, 1, 1, 0, 1, 0]) := by
  refine loop_sound (fun e => match e with | .exit 0 => [5] | _ => []) (by kernel_rfl) ?_
  intro F Q s h Φ hb
  refine den_sound hE hm _ .leaf _ _ _ (annOk_leaf) ?_
  refine cast ?_ hb
  kernel_rfl
def N39_j0 (x0_x : Sl) (x1_cmp : Value) (h : Hp) (K_ret : Option Addr → Hp → Prop) : Prop :=
  idx 0 x0_x.n <|
  nn x0_x.p fun a0 =>
  xP (cell h (a0.add ((0 : Int).toNat * 1))) fun p0 =>
  N39_l1 x0_x x1_cmp p0 1 h
    (fun p1 h0 =>
      K_ret p1 h0)
noncomputable def N39_j0_t : Xf := pieceT [(0, .c (.slice)), (1, .c (.any))] (codeAt B39 [1, 1]) fun x h Q => N39_j0 x.1 x.2 h (fun o0 h' => Q .ret (Sg.env [(4, .c (.ptr))] o0) h')
theorem N39_j0_ok : Sound Try.prog Try.f39.ntmps N39_j0_t (codeAt B39 [1, 1]) := by
  refine piece_sound (fun e => match e with | .ret => [4] | _ => []) ?_
  intro x h Q hb
  refine den_sound hE hm _ (.two .leaf (.two (.two .leaf (.one (.xf N39_l1_t))) .leaf)) _ _ _ (⟨annOk_leaf, ⟨⟨annOk_leaf, N39_l1_ok⟩, annOk_leaf⟩⟩) ?_
  refine cast ?_ hb
  kernel_rfl
def N39 (x0 : Sl) (x1 : Value) (h : Hp) (K : Option Addr → Hp → Prop) : Prop :=
  bif (decide (((x0.n : Nat) : Int) < 1)) then
    False
  else
    N39_j0 x0 x1 h
      (fun p0 h0 =>
        K p0 h0)
theorem S39 {x0 : Sl} {x1 : Value} {h : Hp} {K : Option Addr → Hp → Prop} (hn : N39 x0 x1 h K) : C39 x0 x1 h K := by
  refine calls_of_D Try.func39 (c := B39) rfl (by kernel_rfl) ?_
  refine den_sound hE hm _ (.two .leaf (.two .leaf (.xf N39_j0_t))) _ _ _ (⟨annOk_leaf, ⟨annOk_leaf, N39_j0_ok⟩⟩) ?_
  refine cast ?_ hn
  kernel_rfl
end Go.Proofs.Ytfnlldbaplakoaa

set_option linter.unusedVariables false
set_option maxRecDepth 100000
namespace Go.Proofs.Ytfnlldbaplakoaa
open Go Go.Hw
/-! ### 40 (*slipway/wheel.Wheel).soonest$1 -/
noncomputable def B40 : Code := match Try.f40.body with | some c => c | none => .skip
def N40 (x0 : Option Addr) (x1 : Option Addr) (h : Hp) (K : Int → Hp → Prop) : Prop :=
  nn x0 fun a0 =>
  xI .i64 (cell h a0) fun n0 =>
  xI .i64 (cell h (a0.add 1)) fun n1 =>
  xI .i64 (cell h (a0.add 2)) fun n2 =>
  nn x1 fun a1 =>
  xI .i64 (cell h a1) fun n3 =>
  xI .i64 (cell h (a1.add 1)) fun n4 =>
  xI .i64 (cell h (a1.add 2)) fun n5 =>
  C32 n0 n1 n2 n3 n4 n5 h fun n6 h0 =>
  K n6 h0
theorem S40 {x0 : Option Addr} {x1 : Option Addr} {h : Hp} {K : Int → Hp → Prop} (hn : N40 x0 x1 h K) : C40 x0 x1 h K := by
  refine calls_of_D Try.func40 (c := B40) rfl (by kernel_rfl) ?_
  refine den_sound hE hm _ (.two .leaf (.two (.ord [0, 1, 2, 3, 4, 5, 6, 7, 8, 9]) .leaf)) _ _ _ (⟨annOk_leaf, ⟨trivial, annOk_leaf⟩⟩) ?_
  refine cast ?_ hn
  kernel_rfl
end Go.Proofs.Ytfnlldbaplakoaa

set_option linter.unusedVariables false
set_option maxRecDepth 100000
namespace Go.Proofs.Ytfnlldbaplakoaa
open Go Go.Hw
/-! ### 41 cmp.Or[int] -/
noncomputable def B41 : Code := match Try.f41.body with | some c => c | none => .skip
def N41_l0_b (x3_zero : Int) (x6 : Sl) (x7 : Int) (Φ : Int → Hp → Prop) (x8 : Int) (h : Hp) (K_e0 : Hp → Prop) (K_ret : Int → Hp → Prop) : Prop :=
  bif (decide (x8 < x7)) then
    idx x8 x6.n <|
    nn x6.p fun a0 =>
    xI .i64 (cell h (a0.add (x8.toNat * 1))) fun n0 =>
    bif (n0 != x3_zero) then
      K_ret n0 h
    else
      Φ (IntKind.wrap .i64 (x8 + 1)) h
  else
    K_e0 h
def N41_l0_B (x3_zero : Int) (x6 : Sl) (x7 : Int) (K_e0 : Hp → Prop) (K_ret : Int → Hp → Prop) (s : Sg.T [(8, .c (.int .i64))]) (h : Hp) (Φ : Sg.T [(8, .c (.int .i64))] → Hp → Prop) : Prop :=
  N41_l0_b x3_zero x6 x7 (fun x8 h => Φ x8 h) s h K_e0 K_ret
def N41_l0 (x3_zero : Int) (x6 : Sl) (x7 : Int) (x8 : Int) (h : Hp) (K_e0 : Hp → Prop) (K_ret : Int → Hp → Prop) : Prop :=
  loopP (N41_l0_B x3_zero x6 x7 K_e0 K_ret) x8 h
noncomputable def N41_l0_t : Xf := loopT [(3, .c (.int .i64)), (6, .c (.slice)), (7, .c (.int .i64))] [(8, .c (.int .i64))] (codeAt B41 [1, 1, 0, 1, 0, 0]) fun F Q => N41_l0_B F.1 F.2.1 F.2.2 (fun h' => Q (.exit 0) (Sg.env [] ()) h') (fun o0 h' => Q .ret (Sg.env [(2, .c (.int .i64))] o0) h')
theorem N41_l0_ok : Sound Try.prog Try.f41.ntmps N41_l0_t (codeAt B41 [1, 1, 0, 1, 0]) := by
  refine loop_sound (fun e => match e with | .exit 0 => [] | .ret => [2] | _ => []) (by kernel_rfl) ?_
  intro F Q s h Φ hb
  refine den_sound hE hm _ .leaf _ _ _ (annOk_leaf) ?_
  refine cast ?_ hb
  kernel_rfl
def N41 (x0 : Sl) (h : Hp) (K : Int → Hp → Prop) : Prop :=
  N41_l0 0 x0 ((x0.n : Nat) : Int) 0 h
    (fun h0 =>
      K 0 h0)
    (fun n0 h1 =>
      K n0 h1)
theorem S41 {x0 : Sl} {h : Hp} {K : Int → Hp → Prop} (hn : N41 x0 h K) : C41 x0 h K := by
  refine calls_of_D Try.func41 (c := B41) rfl (by kernel_rfl) ?_
  refine den_sound hE hm _ (.two .leaf (.two .leaf (.two (.two .leaf (.one (.xf N41_l0_t))) .leaf))) _ _ _ (⟨annOk_leaf, ⟨annOk_leaf, ⟨⟨annOk_leaf, N41_l0_ok⟩, annOk_leaf⟩⟩⟩) ?_
  refine cast ?_ hn
  kernel_rfl
end Go.Proofs.Ytfnlldbaplakoaa

set_option linter.unusedVariables false
set_option maxRecDepth 100000
namespace Go.Proofs.Ytfnlldbaplakoaa
open Go Go.Hw
/-! ### 42 cmp.Compare[int] -/
noncomputable def B42 : Code := match Try.f42.body with | some c => c | none => .skip
def N42 (x0 : Int) (x1 : Int) (h : Hp) (K : Int → Hp → Prop) : Prop :=
  C46 x0 h fun b0 h0 =>
  C46 x1 h0 fun b1 h1 =>
  bif b0 then
    bif b1 then
      K 0 h1
    else
      K (-1) h1
  else
    bif b1 then
      K 1 h1
    else
      bif (decide (x0 < x1)) then
        K (-1) h1
      else
        bif (decide (x0 > x1)) then
          K 1 h1
        else
          K 0 h1
theorem S42 {x0 : Int} {x1 : Int} {h : Hp} {K : Int → Hp → Prop} (hn : N42 x0 x1 h K) : C42 x0 x1 h K := by
  refine calls_of_D Try.func42 (c := B42) rfl (by kernel_rfl) ?_
  refine den_sound hE hm _ .leaf _ _ _ (annOk_leaf) ?_
  refine cast ?_ hn
  kernel_rfl
end Go.Proofs.Ytfnlldbaplakoaa

set_option linter.unusedVariables false
set_option maxRecDepth 100000
namespace Go.Proofs.Ytfnlldbaplakoaa
open Go Go.Hw
/-! ### 43 (*slipway/wheel.heap).up -/
noncomputable def B43 : Code := match Try.f43.body with | some c => c | none => .skip
def N43_l0_b (x0_h : Option Addr) (x1_t : Option Addr) (Φ : Int → Hp → Prop) (x4_i : Int) (h : Hp) (K_e0 : Int → Hp → Prop) : Prop :=
  bif (decide (x4_i > 0)) then
    nn x0_h fun a0 =>
    xA (cell h (a0.add 1)) fun v0 =>
    nn x0_h fun a1 =>
    xL (cell h a1) fun s0 =>
    idx (IntKind.wrap .i64 (Int.tdiv (IntKind.wrap .i64 (x4_i - 1)) 2)) s0.n <|
    nn s0.p fun a2 =>
    xP (cell h (a2.add ((IntKind.wrap .i64 (Int.tdiv (IntKind.wrap .i64 (x4_i - 1)) 2)).toNat * 1))) fun p0 =>
    HCallV Try.prog E (v0) [.pointer x1_t, .pointer p0] h fun v1 h0 =>
    xB (some v1) fun b0 =>
    bif b0 then
      nn x0_h fun a3 =>
      xL (cell h0 a3) fun s1 =>
      idx (IntKind.wrap .i64 (Int.tdiv (IntKind.wrap .i64 (x4_i - 1)) 2)) s1.n <|
      nn s1.p fun a4 =>
      xP (cell h0 (a4.add ((IntKind.wrap .i64 (Int.tdiv (IntKind.wrap .i64 (x4_i - 1)) 2)).toNat * 1))) fun p1 =>
      C44 x0_h x4_i p1 h0 fun h1 =>
      Φ (IntKind.wrap .i64 (Int.tdiv (IntKind.wrap .i64 (x4_i - 1)) 2)) h1
    else
      K_e0 x4_i h0
  else
    K_e0 x4_i h
def N43_l0_B (x0_h : Option Addr) (x1_t : Option Addr) (K_e0 : Int → Hp → Prop) (s : Sg.T [(4, .c (.int .i64))]) (h : Hp) (Φ : Sg.T [(4, .c (.int .i64))] → Hp → Prop) : Prop :=
  N43_l0_b x0_h x1_t (fun x4_i h => Φ x4_i h) s h K_e0
def N43_l0 (x0_h : Option Addr) (x1_t : Option Addr) (x4_i : Int) (h : Hp) (K_e0 : Int → Hp → Prop) : Prop :=
  loopP (N43_l0_B x0_h x1_t K_e0) x4_i h
noncomputable def N43_l0_t : Xf := loopT [(0, .c (.ptr)), (1, .c (.ptr))] [(4, .c (.int .i64))] (codeAt B43 [1, 0, 0, 0]) fun F Q => N43_l0_B F.1 F.2 (fun o0 h' => Q (.exit 0) (Sg.env [(4, .c (.int .i64))] o0) h')
theorem N43_l0_ok : Sound Try.prog Try.f43.ntmps N43_l0_t (codeAt B43 [1, 0, 0]) := by
  refine loop_sound (fun e => match e with | .exit 0 => [4] | _ => []) (by kernel_rfl) ?_
  intro F Q s h Φ hb
  refine den_sound hE hm _ (.two (.two (.ord [0, 1, 2, 3, 4, 5, 6, 7, 8, 9, 10, 11, 12, 13, 14, 15, 16, 17, 18]) .leaf) .leaf) _ _ _ (⟨⟨trivial, annOk_leaf⟩, annOk_leaf⟩) ?_
  refine cast ?_ hb
  kernel_rfl
def N43 (x0 : Option Addr) (x1 : Option Addr) (h : Hp) (K : Hp → Prop) : Prop :=
  nn x1 fun a0 =>
  xI .i64 (cell h (a0.add 4)) fun n0 =>
  N43_l0 x0 x1 n0 h
    (fun n1 h0 =>
      C44 x0 n1 x1 h0 fun h1 =>
      K h1)
theorem S43 {x0 : Option Addr} {x1 : Option Addr} {h : Hp} {K : Hp → Prop} (hn : N43 x0 x1 h K) : C43 x0 x1 h K := by
  refine calls_of_D Try.func43 (c := B43) rfl (by kernel_rfl) ?_
  refine den_sound hE hm _ (.two .leaf (.two (.one (.xf N43_l0_t)) .leaf)) _ _ _ (⟨annOk_leaf, ⟨N43_l0_ok, annOk_leaf⟩⟩) ?_
  refine cast ?_ hn
  kernel_rfl
end Go.Proofs.Ytfnlldbaplakoaa

set_option linter.unusedVariables false
set_option maxRecDepth 100000
namespace Go.Proofs.Ytfnlldbaplakoaa
open Go Go.Hw
/-! ### 44 (*slipway/wheel.heap).put -/
noncomputable def B44 : Code := match Try.f44.body with | some c => c | none => .skip
def N44 (x0 : Option Addr) (x1 : Int) (x2 : Option Addr) (h : Hp) (K : Hp → Prop) : Prop :=
  nn x0 fun a0 =>
  xL (cell h a0) fun s0 =>
  idx x1 s0.n <|
  nn s0.p fun a1 =>
  st h (a1.add (x1.toNat * 1)) (.pointer x2) fun h0 =>
  nn x2 fun a2 =>
  st h0 (a2.add 4) (.int .i64 x1) fun h1 =>
  K h1
theorem S44 {x0 : Option Addr} {x1 : Int} {x2 : Option Addr} {h : Hp} {K : Hp → Prop} (hn : N44 x0 x1 x2 h K) : C44 x0 x1 x2 h K := by
  refine calls_of_D Try.func44 (c := B44) rfl (by kernel_rfl) ?_
  refine den_sound hE hm _ .leaf _ _ _ (annOk_leaf) ?_
  refine cast ?_ hn
  kernel_rfl
end Go.Proofs.Ytfnlldbaplakoaa

set_option linter.unusedVariables false
set_option maxRecDepth 100000
namespace Go.Proofs.Ytfnlldbaplakoaa
open Go Go.Hw
/-! ### 45 (*slipway/wheel.heap).down -/
noncomputable def B45 : Code := match Try.f45.body with | some c => c | none => .skip
def N45_j1 (x0_h : Option Addr) (x1_t : Option Addr) (x4_i : Int) (x5_k : Int) (x52 : Bool) (h : Hp) (K_normal : Int → Hp → Prop) : Prop :=
  bif x52 then
    K_normal (IntKind.wrap .i64 (x5_k + 1)) h
  else
    K_normal x5_k h
noncomputable def N45_j1_t : Xf := pieceT [(0, .c (.ptr)), (1, .c (.ptr)), (4, .c (.int .i64)), (5, .c (.int .i64)), (52, .c (.bool))] (codeAt B45 [1, 0, 1, 0, 0, 1, 0, 0, 0, 1]) fun x h Q => N45_j1 x.1 x.2.1 x.2.2.1 x.2.2.2.1 x.2.2.2.2 h (fun o0 h' => Q .normal (Sg.env [(5, .c (.int .i64))] o0) h')
theorem N45_j1_ok : Sound Try.prog Try.f45.ntmps N45_j1_t (codeAt B45 [1, 0, 1, 0, 0, 1, 0, 0, 0, 1]) := by
  refine piece_sound (fun e => match e with | .normal => [5] | _ => []) ?_
  intro x h Q hb
  refine den_sound hE hm _ .leaf _ _ _ (annOk_leaf) ?_
  refine cast ?_ hb
  kernel_rfl
def N45_j2 (x0_h : Option Addr) (x1_t : Option Addr) (x4_i : Int) (x5_k : Int) (h : Hp) (K_e0 : Int → Hp → Prop) (K_normal : Int → Hp → Prop) : Prop :=
  nn x0_h fun a0 =>
  xA (cell h (a0.add 1)) fun v0 =>
  nn x0_h fun a1 =>
  xL (cell h a1) fun s0 =>
  idx x5_k s0.n <|
  nn s0.p fun a2 =>
  xP (cell h (a2.add (x5_k.toNat * 1))) fun p0 =>
  HCallV Try.prog E (v0) [.pointer p0, .pointer x1_t] h fun v1 h0 =>
  xB (some v1) fun b0 =>
  bif (!b0) then
    K_e0 x4_i h0
  else
    nn x0_h fun a3 =>
    xL (cell h0 a3) fun s1 =>
    idx x5_k s1.n <|
    nn s1.p fun a4 =>
    xP (cell h0 (a4.add (x5_k.toNat * 1))) fun p1 =>
    C44 x0_h x4_i p1 h0 fun h1 =>
    K_normal x5_k h1
noncomputable def N45_j2_t : Xf := pieceT [(0, .c (.ptr)), (1, .c (.ptr)), (4, .c (.int .i64)), (5, .c (.int .i64))] (codeAt B45 [1, 0, 1, 0, 0, 1, 0, 0, 1]) fun x h Q => N45_j2 x.1 x.2.1 x.2.2.1 x.2.2.2 h (fun o0 h' => Q (.exit 0) (Sg.env [(4, .c (.int .i64))] o0) h') (fun o0 h' => Q .normal (Sg.env [(4, .c (.int .i64))] o0) h')
theorem N45_j2_ok : Sound Try.prog Try.f45.ntmps N45_j2_t (codeAt B45 [1, 0, 1, 0, 0, 1, 0, 0, 1]) := by
  refine piece_sound (fun e => match e with | .exit 0 => [4] | .normal => [4] | _ => []) ?_
  intro x h Q hb
  refine den_sound hE hm _ (.two (.two (.ord [0, 1, 2, 3, 4, 5, 6, 7, 8, 9, 10, 11, 12, 13]) .leaf) .leaf) _ _ _ (⟨⟨trivial, annOk_leaf⟩, annOk_leaf⟩) ?_
  refine cast ?_ hb
  kernel_rfl
def N45_l0_b (x0_h : Option Addr) (x1_t : Option Addr) (Φ : Int → Int → Hp → Prop) (x4_i : Int) (x5_k : Int) (h : Hp) (K_e0 : Int → Hp → Prop) : Prop :=
  nn x0_h fun a0 =>
  xL (cell h a0) fun s0 =>
  bif (decide (x5_k < ((s0.n : Nat) : Int))) then
    nn x0_h fun a1 =>
    xL (cell h a1) fun s1 =>
    bif (decide ((IntKind.wrap .i64 (x5_k + 1)) < ((s1.n : Nat) : Int))) then
      nn x0_h fun a2 =>
      xA (cell h (a2.add 1)) fun v0 =>
      nn x0_h fun a3 =>
      xL (cell h a3) fun s2 =>
      idx (IntKind.wrap .i64 (x5_k + 1)) s2.n <|
      nn s2.p fun a4 =>
      xP (cell h (a4.add ((IntKind.wrap .i64 (x5_k + 1)).toNat * 1))) fun p0 =>
      nn x0_h fun a5 =>
      xL (cell h a5) fun s3 =>
      idx x5_k s3.n <|
      nn s3.p fun a6 =>
      xP (cell h (a6.add (x5_k.toNat * 1))) fun p1 =>
      HCallV Try.prog E (v0) [.pointer p0, .pointer p1] h fun v1 h0 =>
      xB (some v1) fun b0 =>
      N45_j1 x0_h x1_t x4_i x5_k b0 h0
        (fun n0 h1 =>
          N45_j2 x0_h x1_t x4_i n0 h1
            (fun n1 h2 =>
              K_e0 n1 h2)
            (fun n2 h3 =>
              Φ n2 (IntKind.wrap .i64 ((IntKind.wrap .i64 (2 * n2)) + 1)) h3))
    else
      N45_j1 x0_h x1_t x4_i x5_k false h
        (fun n3 h4 =>
          N45_j2 x0_h x1_t x4_i n3 h4
            (fun n4 h5 =>
              K_e0 n4 h5)
            (fun n5 h6 =>
              Φ n5 (IntKind.wrap .i64 ((IntKind.wrap .i64 (2 * n5)) + 1)) h6))
  else
    K_e0 x4_i h
def N45_l0_B (x0_h : Option Addr) (x1_t : Option Addr) (K_e0 : Int → Hp → Prop) (s : Sg.T [(4, .c (.int .i64)), (5, .c (.int .i64))]) (h : Hp) (Φ : Sg.T [(4, .c (.int .i64)), (5, .c (.int .i64))] → Hp → Prop) : Prop :=
  N45_l0_b x0_h x1_t (fun x4_i x5_k h => Φ (x4_i, x5_k) h) s.1 s.2 h K_e0
def N45_l0 (x0_h : Option Addr) (x1_t : Option Addr) (x4_i : Int) (x5_k : Int) (h : Hp) (K_e0 : Int → Hp → Prop) : Prop :=
  loopP (N45_l0_B x0_h x1_t K_e0) (x4_i, x5_k) h
noncomputable def N45_l0_t : Xf := loopT [(0, .c (.ptr)), (1, .c (.ptr))] [(4, .c (.int .i64)), (5, .c (.int .i64))] (codeAt B45 [1, 0, 1, 0, 0]) fun F Q => N45_l0_B F.1 F.2 (fun o0 h' => Q (.exit 0) (Sg.env [(4, .c (.int .i64))] o0) h')
theorem N45_l0_ok : Sound Try.prog Try.f45.ntmps N45_l0_t (codeAt B45 [1, 0, 1, 0]) := by
  refine loop_sound (fun e => match e with | .exit 0 => [4] | _ => []) (by kernel_rfl) ?_
  intro F Q s h Φ hb
  refine den_sound hE hm _ (.two .leaf (.two (.one (.two (.two (.ord [0, 1, 2, 3, 4, 5, 6, 7, 8, 9, 10, 11, 12, 13, 14, 15, 16, 17, 18, 19, 20, 21, 22, 23, 24, 25, 26, 27, 28, 29]) (.xf N45_j1_t)) (.xf N45_j2_t))) .leaf)) _ _ _ (⟨annOk_leaf, ⟨⟨⟨trivial, N45_j1_ok⟩, N45_j2_ok⟩, annOk_leaf⟩⟩) ?_
  refine cast ?_ hb
  kernel_rfl
def N45 (x0 : Option Addr) (x1 : Option Addr) (h : Hp) (K : Hp → Prop) : Prop :=
  nn x1 fun a0 =>
  xI .i64 (cell h (a0.add 4)) fun n0 =>
  N45_l0 x0 x1 n0 (IntKind.wrap .i64 ((IntKind.wrap .i64 (2 * n0)) + 1)) h
    (fun n1 h0 =>
      C44 x0 n1 x1 h0 fun h1 =>
      K h1)
theorem S45 {x0 : Option Addr} {x1 : Option Addr} {h : Hp} {K : Hp → Prop} (hn : N45 x0 x1 h K) : C45 x0 x1 h K := by
  refine calls_of_D Try.func45 (c := B45) rfl (by kernel_rfl) ?_
  refine den_sound hE hm _ (.two .leaf (.two (.two .leaf (.one (.xf N45_l0_t))) .leaf)) _ _ _ (⟨annOk_leaf, ⟨⟨annOk_leaf, N45_l0_ok⟩, annOk_leaf⟩⟩) ?_
  refine cast ?_ hn
  kernel_rfl
end Go.Proofs.Ytfnlldbaplakoaa

set_option linter.unusedVariables false
set_option maxRecDepth 100000
namespace Go.Proofs.Ytfnlldbaplakoaa
open Go Go.Hw
/-! ### 46 cmp.isNaN[int] -/
noncomputable def B46 : Code := match Try.f46.body with | some c => c | none => .skip
def N46 (x0 : Int) (h : Hp) (K : Bool → Hp → Prop) : Prop :=
  K (x0 != x0) h
theorem S46 {x0 : Int} {h : Hp} {K : Bool → Hp → Prop} (hn : N46 x0 h K) : C46 x0 h K := by
  refine calls_of_D Try.func46 (c := B46) rfl (by kernel_rfl) ?_
  refine den_sound hE hm _ .leaf _ _ _ (annOk_leaf) ?_
  refine cast ?_ hn
  kernel_rfl
end Go.Proofs.Ytfnlldbaplakoaa
