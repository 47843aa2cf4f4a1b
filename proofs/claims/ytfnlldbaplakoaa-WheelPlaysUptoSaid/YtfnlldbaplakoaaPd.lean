/- Texts of a walk over heaps, printed by program and by hand: lemmas for the law that is proved in this claim. No condition. -/
import Derived.Test.YtfnlldbaplakoaaProg
import Derived.Test.YtfnlldbaplakoaaPc
set_option linter.unusedVariables false
set_option maxRecDepth 100000
namespace Go.Proofs.Ytfnlldbaplakoaa
open Go Go.Hw

/-- the functions that have a body -/
def E : Nat → Bool := fun f => Nat.blt 2 f && Nat.blt f 47
theorem hE : EnterOk Try.prog E := by
  have all : ∀ f ∈ List.range' 3 44, (!E f || match Try.prog.funcs[f]? with | some fn => !fn.body.isNone && !(fn.name == "runtime.NumGoroutine") | none => false) = true := by
    rw [← List.all_eq_true]
    kernel_rfl
  intro f h
  have hm : f ∈ List.range' 3 44 := by
    simp only [E, Bool.and_eq_true, Bool.or_eq_true, Nat.blt_eq] at h
    simp only [List.mem_range'_1]; omega
  have := all f hm
  rw [h] at this
  simp only [Bool.not_true, Bool.false_or] at this
  split at this
  · rename_i fn hf
    simp only [Bool.and_eq_true, Bool.not_eq_true'] at this
    exact ⟨fn, hf, this.1, this.2⟩
  · cases this
theorem hm : Try.prog.follows .mixedOrders = true := by kernel_rfl
/-- gosem.cut.init -/
def C2  (h : Hp) (K : Hp → Prop) : Prop :=
  HCalls Try.prog 2 ⟨[]⟩ h fun _ h' => K h'

/-- slipway/slipwaylaw07.WheelNumbers -/
def C3  (h : Hp) (K : Bool → Hp → Prop) : Prop :=
  HCalls Try.prog 3 ⟨[]⟩ h fun v h' => VT.on (.c (.bool)) (some v) fun r => K r h'

/-- slipway/slipwaylaw07.WheelPlays -/
def C4 (x0 : Sl) (h : Hp) (K : Bool → Hp → Prop) : Prop :=
  HCalls Try.prog 4 ⟨[.slice x0.p x0.n x0.c]⟩ h fun v h' => VT.on (.c (.bool)) (some v) fun r => K r h'

/-- slipway/slipwaylaw07.WheelOnce -/
def C5 (x0 : Sl) (h : Hp) (K : Bool → Hp → Prop) : Prop :=
  HCalls Try.prog 5 ⟨[.slice x0.p x0.n x0.c]⟩ h fun v h' => VT.on (.c (.bool)) (some v) fun r => K r h'

/-- slipway/slipwaylaw07.WheelCuts -/
def C6 (x0 : Sl) (x1 : Sl) (x2 : Int) (h : Hp) (K : Bool → Hp → Prop) : Prop :=
  HCalls Try.prog 6 ⟨[.slice x0.p x0.n x0.c, .slice x1.p x1.n x1.c, .int .i64 x2]⟩ h fun v h' => VT.on (.c (.bool)) (some v) fun r => K r h'

/-- slipway/slipwaylaw07.live -/
def C7  (h : Hp) (K : Bool → Hp → Prop) : Prop :=
  HCalls Try.prog 7 ⟨[]⟩ h fun v h' => VT.on (.c (.bool)) (some v) fun r => K r h'

/-- slipway/wheel.New -/
def C8  (h : Hp) (K : Option Addr → Hp → Prop) : Prop :=
  HCalls Try.prog 8 ⟨[]⟩ h fun v h' => VT.on (.c (.ptr)) (some v) fun r => K r h'

/-- slipway/slipwayref07.New -/
def C9  (h : Hp) (K : Option Addr → Hp → Prop) : Prop :=
  HCalls Try.prog 9 ⟨[]⟩ h fun v h' => VT.on (.c (.ptr)) (some v) fun r => K r h'

/-- slipway/slipwaylaw07.step -/
def C10 (x0 : Option Addr) (x1 : Option Addr) (x2 : Option Addr) (x3_0 : Int) (x3_1 : Int) (x3_2 : Int) (h : Hp) (K : Bool → Hp → Prop) : Prop :=
  HCalls Try.prog 10 ⟨[.pointer x0, .pointer x1, .pointer x2, .agg ⟨[.int .i64 x3_0, .int .i64 x3_1, .int .i64 x3_2]⟩]⟩ h fun v h' => VT.on (.c (.bool)) (some v) fun r => K r h'

/-- (*slipway/slipwaylaw07.kept).stands -/
def C11 (x0 : Option Addr) (h : Hp) (K : Bool → Hp → Prop) : Prop :=
  HCalls Try.prog 11 ⟨[.pointer x0]⟩ h fun v h' => VT.on (.c (.bool)) (some v) fun r => K r h'

/-- (*slipway/wheel.Wheel).Arm -/
def C12 (x0 : Option Addr) (x1 : Int) (x2 : Int) (h : Hp) (K : Int → Int → Hp → Prop) : Prop :=
  HCalls Try.prog 12 ⟨[.pointer x0, .int .i64 x1, .int .i64 x2]⟩ h fun v h' => tupOn [.c (.int .i64), .c (.int .i64)] v fun r => K r.1 r.2 h'

/-- (*slipway/wheel.Wheel).Cancel -/
def C13 (x0 : Option Addr) (x1 : Int) (h : Hp) (K : Bool → Hp → Prop) : Prop :=
  HCalls Try.prog 13 ⟨[.pointer x0, .int .i64 x1]⟩ h fun v h' => VT.on (.c (.bool)) (some v) fun r => K r h'

/-- (*slipway/wheel.Wheel).Advance -/
def C14 (x0 : Option Addr) (x1 : Int) (h : Hp) (K : Sl → Hp → Prop) : Prop :=
  HCalls Try.prog 14 ⟨[.pointer x0, .int .i64 x1]⟩ h fun v h' => VT.on (.c (.slice)) (some v) fun r => K r h'

/-- (*slipway/wheel.Wheel).Next -/
def C15 (x0 : Option Addr) (h : Hp) (K : Int → Bool → Hp → Prop) : Prop :=
  HCalls Try.prog 15 ⟨[.pointer x0]⟩ h fun v h' => tupOn [.c (.int .i64), .c (.bool)] v fun r => K r.1 r.2 h'

/-- (*slipway/wheel.Wheel).Len -/
def C16 (x0 : Option Addr) (h : Hp) (K : Int → Hp → Prop) : Prop :=
  HCalls Try.prog 16 ⟨[.pointer x0]⟩ h fun v h' => VT.on (.c (.int .i64)) (some v) fun r => K r h'

/-- (*slipway/wheel.Wheel).Now -/
def C17 (x0 : Option Addr) (h : Hp) (K : Int → Hp → Prop) : Prop :=
  HCalls Try.prog 17 ⟨[.pointer x0]⟩ h fun v h' => VT.on (.c (.int .i64)) (some v) fun r => K r h'

/-- slipway/slipwayref07.Same -/
def C18 (x0 : Sl) (x1 : Sl) (h : Hp) (K : Bool → Hp → Prop) : Prop :=
  HCalls Try.prog 18 ⟨[.slice x0.p x0.n x0.c, .slice x1.p x1.n x1.c]⟩ h fun v h' => VT.on (.c (.bool)) (some v) fun r => K r h'

/-- (*slipway/wheel.Wheel).first -/
def C19 (x0 : Option Addr) (x1 : Option Addr) (x2 : Option Addr) (h : Hp) (K : Bool → Hp → Prop) : Prop :=
  HCalls Try.prog 19 ⟨[.pointer x0, .pointer x1, .pointer x2]⟩ h fun v h' => VT.on (.c (.bool)) (some v) fun r => K r h'

/-- (*slipway/slipwayref07.Wheel).Arm -/
def C20 (x0 : Option Addr) (x1 : Int) (x2 : Int) (h : Hp) (K : Int → Int → Hp → Prop) : Prop :=
  HCalls Try.prog 20 ⟨[.pointer x0, .int .i64 x1, .int .i64 x2]⟩ h fun v h' => tupOn [.c (.int .i64), .c (.int .i64)] v fun r => K r.1 r.2 h'

/-- (*slipway/slipwayref07.Wheel).Cancel -/
def C21 (x0 : Option Addr) (x1 : Int) (h : Hp) (K : Bool → Hp → Prop) : Prop :=
  HCalls Try.prog 21 ⟨[.pointer x0, .int .i64 x1]⟩ h fun v h' => VT.on (.c (.bool)) (some v) fun r => K r h'

/-- (*slipway/slipwayref07.Wheel).Advance -/
def C22 (x0 : Option Addr) (x1 : Int) (h : Hp) (K : Sl → Hp → Prop) : Prop :=
  HCalls Try.prog 22 ⟨[.pointer x0, .int .i64 x1]⟩ h fun v h' => VT.on (.c (.slice)) (some v) fun r => K r h'

/-- (*slipway/slipwaylaw07.kept).take -/
def C23 (x0 : Option Addr) (x1 : Sl) (x2 : Sl) (h : Hp) (K : Hp → Prop) : Prop :=
  HCalls Try.prog 23 ⟨[.pointer x0, .slice x1.p x1.n x1.c, .slice x2.p x2.n x2.c]⟩ h fun _ h' => K h'

/-- (*slipway/slipwayref07.Wheel).Next -/
def C24 (x0 : Option Addr) (h : Hp) (K : Int → Bool → Hp → Prop) : Prop :=
  HCalls Try.prog 24 ⟨[.pointer x0]⟩ h fun v h' => tupOn [.c (.int .i64), .c (.bool)] v fun r => K r.1 r.2 h'

/-- (*slipway/slipwayref07.Wheel).Now -/
def C25 (x0 : Option Addr) (h : Hp) (K : Int → Hp → Prop) : Prop :=
  HCalls Try.prog 25 ⟨[.pointer x0]⟩ h fun v h' => VT.on (.c (.int .i64)) (some v) fun r => K r h'

/-- (*slipway/slipwayref07.Wheel).Len -/
def C26 (x0 : Option Addr) (h : Hp) (K : Int → Hp → Prop) : Prop :=
  HCalls Try.prog 26 ⟨[.pointer x0]⟩ h fun v h' => VT.on (.c (.int .i64)) (some v) fun r => K r h'

/-- (*slipway/wheel.Wheel).counts -/
def C27 (x0 : Option Addr) (x1 : Int) (h : Hp) (K : Int → Hp → Prop) : Prop :=
  HCalls Try.prog 27 ⟨[.pointer x0, .int .i64 x1]⟩ h fun v h' => VT.on (.c (.int .i64)) (some v) fun r => K r h'

/-- (*slipway/wheel.Wheel).lay -/
def C28 (x0 : Option Addr) (x1 : Option Addr) (h : Hp) (K : Hp → Prop) : Prop :=
  HCalls Try.prog 28 ⟨[.pointer x0, .pointer x1]⟩ h fun _ h' => K h'

/-- (*slipway/wheel.Wheel).take -/
def C29 (x0 : Option Addr) (x1 : Option Addr) (h : Hp) (K : Hp → Prop) : Prop :=
  HCalls Try.prog 29 ⟨[.pointer x0, .pointer x1]⟩ h fun _ h' => K h'

/-- (*slipway/wheel.Wheel).soonest -/
def C30 (x0 : Option Addr) (h : Hp) (K : Option Addr → Hp → Prop) : Prop :=
  HCalls Try.prog 30 ⟨[.pointer x0]⟩ h fun v h' => VT.on (.c (.ptr)) (some v) fun r => K r h'

/-- (*slipway/wheel.Wheel).move -/
def C31 (x0 : Option Addr) (x1 : Int) (h : Hp) (K : Hp → Prop) : Prop :=
  HCalls Try.prog 31 ⟨[.pointer x0, .int .i64 x1]⟩ h fun _ h' => K h'

/-- slipway/wheel.order -/
def C32 (x0_0 : Int) (x0_1 : Int) (x0_2 : Int) (x1_0 : Int) (x1_1 : Int) (x1_2 : Int) (h : Hp) (K : Int → Hp → Prop) : Prop :=
  HCalls Try.prog 32 ⟨[.agg ⟨[.int .i64 x0_0, .int .i64 x0_1, .int .i64 x0_2]⟩, .agg ⟨[.int .i64 x1_0, .int .i64 x1_1, .int .i64 x1_2]⟩]⟩ h fun v h' => VT.on (.c (.int .i64)) (some v) fun r => K r h'

/-- (*slipway/slipwayref07.Wheel).Counts -/
def C33 (x0 : Option Addr) (x1 : Int) (h : Hp) (K : Int → Hp → Prop) : Prop :=
  HCalls Try.prog 33 ⟨[.pointer x0, .int .i64 x1]⟩ h fun v h' => VT.on (.c (.int .i64)) (some v) fun r => K r h'

/-- (*slipway/slipwayref07.Wheel).first -/
def C34 (x0 : Option Addr) (h : Hp) (K : Int → Hp → Prop) : Prop :=
  HCalls Try.prog 34 ⟨[.pointer x0]⟩ h fun v h' => VT.on (.c (.int .i64)) (some v) fun r => K r h'

/-- (*slipway/wheel.Wheel).level -/
def C35 (x0 : Option Addr) (x1 : Int) (h : Hp) (K : Int → Hp → Prop) : Prop :=
  HCalls Try.prog 35 ⟨[.pointer x0, .int .i64 x1]⟩ h fun v h' => VT.on (.c (.int .i64)) (some v) fun r => K r h'

/-- (*slipway/wheel.heap).add -/
def C36 (x0 : Option Addr) (x1 : Option Addr) (h : Hp) (K : Hp → Prop) : Prop :=
  HCalls Try.prog 36 ⟨[.pointer x0, .pointer x1]⟩ h fun _ h' => K h'

/-- slipway/wheel.digit -/
def C37 (x0 : Int) (x1 : Int) (h : Hp) (K : Int → Hp → Prop) : Prop :=
  HCalls Try.prog 37 ⟨[.int .i64 x0, .int .i64 x1]⟩ h fun v h' => VT.on (.c (.int .i64)) (some v) fun r => K r h'

/-- (*slipway/wheel.heap).drop -/
def C38 (x0 : Option Addr) (x1 : Option Addr) (h : Hp) (K : Hp → Prop) : Prop :=
  HCalls Try.prog 38 ⟨[.pointer x0, .pointer x1]⟩ h fun _ h' => K h'

/-- slices.MinFunc[[]*slipway/wheel.timer,*slipway/wheel.timer] -/
def C39 (x0 : Sl) (x1 : Value) (h : Hp) (K : Option Addr → Hp → Prop) : Prop :=
  HCalls Try.prog 39 ⟨[.slice x0.p x0.n x0.c, x1]⟩ h fun v h' => VT.on (.c (.ptr)) (some v) fun r => K r h'

/-- (*slipway/wheel.Wheel).soonest$1 -/
def C40 (x0 : Option Addr) (x1 : Option Addr) (h : Hp) (K : Int → Hp → Prop) : Prop :=
  HCalls Try.prog 40 ⟨[.pointer x0, .pointer x1]⟩ h fun v h' => VT.on (.c (.int .i64)) (some v) fun r => K r h'

/-- cmp.Or[int] -/
def C41 (x0 : Sl) (h : Hp) (K : Int → Hp → Prop) : Prop :=
  HCalls Try.prog 41 ⟨[.slice x0.p x0.n x0.c]⟩ h fun v h' => VT.on (.c (.int .i64)) (some v) fun r => K r h'

/-- cmp.Compare[int] -/
def C42 (x0 : Int) (x1 : Int) (h : Hp) (K : Int → Hp → Prop) : Prop :=
  HCalls Try.prog 42 ⟨[.int .i64 x0, .int .i64 x1]⟩ h fun v h' => VT.on (.c (.int .i64)) (some v) fun r => K r h'

/-- (*slipway/wheel.heap).up -/
def C43 (x0 : Option Addr) (x1 : Option Addr) (h : Hp) (K : Hp → Prop) : Prop :=
  HCalls Try.prog 43 ⟨[.pointer x0, .pointer x1]⟩ h fun _ h' => K h'

/-- (*slipway/wheel.heap).put -/
def C44 (x0 : Option Addr) (x1 : Int) (x2 : Option Addr) (h : Hp) (K : Hp → Prop) : Prop :=
  HCalls Try.prog 44 ⟨[.pointer x0, .int .i64 x1, .pointer x2]⟩ h fun _ h' => K h'

/-- (*slipway/wheel.heap).down -/
def C45 (x0 : Option Addr) (x1 : Option Addr) (h : Hp) (K : Hp → Prop) : Prop :=
  HCalls Try.prog 45 ⟨[.pointer x0, .pointer x1]⟩ h fun _ h' => K h'

/-- cmp.isNaN[int] -/
def C46 (x0 : Int) (h : Hp) (K : Bool → Hp → Prop) : Prop :=
  HCalls Try.prog 46 ⟨[.int .i64 x0]⟩ h fun v h' => VT.on (.c (.bool)) (some v) fun r => K r h'

end Go.Proofs.Ytfnlldbaplakoaa

set_option linter.unusedVariables false
set_option maxRecDepth 100000
namespace Go.Proofs.Ytfnlldbaplakoaa
open Go Go.Hw
/-! ### 11 (*slipway/slipwaylaw07.kept).stands -/
noncomputable def B11 : Code := match Try.f11.body with | some c => c | none => .skip
def N11_l0_b (x0_k : Option Addr) (Φ : Int → Hp → Prop) (x3_i : Int) (h : Hp) (K_e0 : Hp → Prop) (K_ret : Bool → Hp → Prop) : Prop :=
  nn x0_k fun a0 =>
  xL (cell h a0) fun s0 =>
  bif (decide (x3_i < ((s0.n : Nat) : Int))) then
    nn x0_k fun a1 =>
    xL (cell h a1) fun s1 =>
    idx x3_i s1.n <|
    nn s1.p fun a2 =>
    xL (cell h (a2.add (x3_i.toNat * 1))) fun s2 =>
    nn x0_k fun a3 =>
    xL (cell h (a3.add 1)) fun s3 =>
    idx x3_i s3.n <|
    nn s3.p fun a4 =>
    xL (cell h (a4.add (x3_i.toNat * 1))) fun s4 =>
    C18 s2 s4 h fun b0 h0 =>
    bif (!b0) then
      K_ret false h0
    else
      Φ (IntKind.wrap .i64 (x3_i + 1)) h0
  else
    K_e0 h
def N11_l0_B (x0_k : Option Addr) (K_e0 : Hp → Prop) (K_ret : Bool → Hp → Prop) (s : Sg.T [(3, .c (.int .i64))]) (h : Hp) (Φ : Sg.T [(3, .c (.int .i64))] → Hp → Prop) : Prop :=
  N11_l0_b x0_k (fun x3_i h => Φ x3_i h) s h K_e0 K_ret
def N11_l0 (x0_k : Option Addr) (x3_i : Int) (h : Hp) (K_e0 : Hp → Prop) (K_ret : Bool → Hp → Prop) : Prop :=
  loopP (N11_l0_B x0_k K_e0 K_ret) x3_i h
noncomputable def N11_l0_t : Xf := loopT [(0, .c (.ptr))] [(3, .c (.int .i64))] (codeAt B11 [1, 0, 1, 0, 0]) fun F Q => N11_l0_B F (fun h' => Q (.exit 0) (Sg.env [] ()) h') (fun o0 h' => Q .ret (Sg.env [(2, .c (.bool))] o0) h')
theorem N11_l0_ok : Sound Try.prog Try.f11.ntmps N11_l0_t (codeAt B11 [1, 0, 1, 0]) := by
  refine loop_sound (fun e => match e with | .exit 0 => [] | .ret => [2] | _ => []) (by kernel_rfl) ?_
  intro F Q s h Φ hb
  refine den_sound hE hm _ (.two .leaf (.two (.one (.two (.ord [0, 1, 2, 3, 4, 5, 6, 7, 8, 9, 10, 11, 12, 13, 14, 15]) .leaf)) .leaf)) _ _ _ (⟨annOk_leaf, ⟨⟨trivial, annOk_leaf⟩, annOk_leaf⟩⟩) ?_
  refine cast ?_ hb
  kernel_rfl
def N11_l2_b (x0_k : Option Addr) (x5_grown : Sl) (x6_i : Int) (x7_g : Sl) (Φ : Int → Hp → Prop) (x8_n : Int) (h : Hp) (K_e4 : Hp → Prop) : Prop :=
  bif (decide (x8_n < ((x7_g.n : Nat) : Int))) then
    idx x8_n x7_g.n <|
    nn x7_g.p fun a0 =>
    st h (a0.add (x8_n.toNat * 3)) (.int .i64 (IntKind.wrap .i64 ((-1000) - x6_i))) fun h0 =>
    st h0 ((a0.add (x8_n.toNat * 3)).add 1) (.int .i64 x8_n) fun h1 =>
    st h1 ((a0.add (x8_n.toNat * 3)).add 2) (.int .i64 0) fun h2 =>
    Φ (IntKind.wrap .i64 (x8_n + 1)) h2
  else
    K_e4 h
def N11_l2_B (x0_k : Option Addr) (x5_grown : Sl) (x6_i : Int) (x7_g : Sl) (K_e4 : Hp → Prop) (s : Sg.T [(8, .c (.int .i64))]) (h : Hp) (Φ : Sg.T [(8, .c (.int .i64))] → Hp → Prop) : Prop :=
  N11_l2_b x0_k x5_grown x6_i x7_g (fun x8_n h => Φ x8_n h) s h K_e4
def N11_l2 (x0_k : Option Addr) (x5_grown : Sl) (x6_i : Int) (x7_g : Sl) (x8_n : Int) (h : Hp) (K_e4 : Hp → Prop) : Prop :=
  loopP (N11_l2_B x0_k x5_grown x6_i x7_g K_e4) x8_n h
noncomputable def N11_l2_t : Xf := loopT [(0, .c (.ptr)), (5, .c (.slice)), (6, .c (.int .i64)), (7, .c (.slice))] [(8, .c (.int .i64))] (codeAt B11 [1, 1, 1, 0, 1, 0, 0, 1, 0, 0, 1, 0, 1, 0, 0]) fun F Q => N11_l2_B F.1 F.2.1 F.2.2.1 F.2.2.2 (fun h' => Q (.exit 4) (Sg.env [] ()) h')
theorem N11_l2_ok : Sound Try.prog Try.f11.ntmps N11_l2_t (codeAt B11 [1, 1, 1, 0, 1, 0, 0, 1, 0, 0, 1, 0, 1, 0]) := by
  refine loop_sound (fun e => match e with | .exit 4 => [] | _ => []) (by kernel_rfl) ?_
  intro F Q s h Φ hb
  refine den_sound hE hm _ .leaf _ _ _ (annOk_leaf) ?_
  refine cast ?_ hb
  kernel_rfl
def N11_l3_b (x0_k : Option Addr) (x5_grown : Sl) (x6_i : Int) (Φ : Sl → Int → Hp → Prop) (x7_g : Sl) (x9_n : Int) (h : Hp) (K_e6 : Sl → Hp → Prop) : Prop :=
  bif (decide (x9_n < 9)) then
    nw h (.cells ⟨[.int .i64 (IntKind.wrap .i64 ((-1000) - x6_i)), .int .i64 ((x7_g.n : Nat) : Int), .int .i64 0]⟩ 44) fun b0 h0 =>
    apK Try.prog 44 x7_g (.slice (some (bk b0)) 1 1) h0 fun s0 h1 =>
    Φ s0 (IntKind.wrap .i64 (x9_n + 1)) h1
  else
    K_e6 x7_g h
def N11_l3_B (x0_k : Option Addr) (x5_grown : Sl) (x6_i : Int) (K_e6 : Sl → Hp → Prop) (s : Sg.T [(7, .c (.slice)), (9, .c (.int .i64))]) (h : Hp) (Φ : Sg.T [(7, .c (.slice)), (9, .c (.int .i64))] → Hp → Prop) : Prop :=
  N11_l3_b x0_k x5_grown x6_i (fun x7_g x9_n h => Φ (x7_g, x9_n) h) s.1 s.2 h K_e6
def N11_l3 (x0_k : Option Addr) (x5_grown : Sl) (x6_i : Int) (x7_g : Sl) (x9_n : Int) (h : Hp) (K_e6 : Sl → Hp → Prop) : Prop :=
  loopP (N11_l3_B x0_k x5_grown x6_i K_e6) (x7_g, x9_n) h
noncomputable def N11_l3_t : Xf := loopT [(0, .c (.ptr)), (5, .c (.slice)), (6, .c (.int .i64))] [(7, .c (.slice)), (9, .c (.int .i64))] (codeAt B11 [1, 1, 1, 0, 1, 0, 0, 1, 0, 0, 1, 1, 0, 1, 0, 0]) fun F Q => N11_l3_B F.1 F.2.1 F.2.2 (fun o0 h' => Q (.exit 6) (Sg.env [(7, .c (.slice))] o0) h')
theorem N11_l3_ok : Sound Try.prog Try.f11.ntmps N11_l3_t (codeAt B11 [1, 1, 1, 0, 1, 0, 0, 1, 0, 0, 1, 1, 0, 1, 0]) := by
  refine loop_sound (fun e => match e with | .exit 6 => [7] | _ => []) (by kernel_rfl) ?_
  intro F Q s h Φ hb
  refine den_sound hE hm _ .leaf _ _ _ (annOk_leaf) ?_
  refine cast ?_ hb
  kernel_rfl
def N11_l1_b (x0_k : Option Addr) (Φ : Sl → Int → Hp → Prop) (x5_grown : Sl) (x6_i : Int) (h : Hp) (K_e2 : Sl → Hp → Prop) : Prop :=
  nn x0_k fun a0 =>
  xL (cell h a0) fun s0 =>
  bif (decide (x6_i < ((s0.n : Nat) : Int))) then
    nn x0_k fun a1 =>
    xL (cell h a1) fun s1 =>
    idx x6_i s1.n <|
    nn s1.p fun a2 =>
    xL (cell h (a2.add (x6_i.toNat * 1))) fun s2 =>
    N11_l2 x0_k x5_grown x6_i s2 0 h
      (fun h0 =>
        N11_l3 x0_k x5_grown x6_i s2 0 h0
          (fun s3 h1 =>
            nw h1 (.cells ⟨[.slice s3.p s3.n s3.c]⟩ 41) fun b0 h2 =>
            apK Try.prog 41 x5_grown (.slice (some (bk b0)) 1 1) h2 fun s4 h3 =>
            Φ s4 (IntKind.wrap .i64 (x6_i + 1)) h3))
  else
    K_e2 x5_grown h
def N11_l1_B (x0_k : Option Addr) (K_e2 : Sl → Hp → Prop) (s : Sg.T [(5, .c (.slice)), (6, .c (.int .i64))]) (h : Hp) (Φ : Sg.T [(5, .c (.slice)), (6, .c (.int .i64))] → Hp → Prop) : Prop :=
  N11_l1_b x0_k (fun x5_grown x6_i h => Φ (x5_grown, x6_i) h) s.1 s.2 h K_e2
def N11_l1 (x0_k : Option Addr) (x5_grown : Sl) (x6_i : Int) (h : Hp) (K_e2 : Sl → Hp → Prop) : Prop :=
  loopP (N11_l1_B x0_k K_e2) (x5_grown, x6_i) h
noncomputable def N11_l1_t : Xf := loopT [(0, .c (.ptr))] [(5, .c (.slice)), (6, .c (.int .i64))] (codeAt B11 [1, 1, 1, 0, 1, 0, 0]) fun F Q => N11_l1_B F (fun o0 h' => Q (.exit 2) (Sg.env [(5, .c (.slice))] o0) h')
theorem N11_l1_ok : Sound Try.prog Try.f11.ntmps N11_l1_t (codeAt B11 [1, 1, 1, 0, 1, 0]) := by
  refine loop_sound (fun e => match e with | .exit 2 => [5] | _ => []) (by kernel_rfl) ?_
  intro F Q s h Φ hb
  refine den_sound hE hm _ (.two .leaf (.two (.one (.two .leaf (.two (.two .leaf (.one (.xf N11_l2_t))) (.two (.two .leaf (.one (.xf N11_l3_t))) .leaf)))) .leaf)) _ _ _ (⟨annOk_leaf, ⟨⟨annOk_leaf, ⟨⟨annOk_leaf, N11_l2_ok⟩, ⟨⟨annOk_leaf, N11_l3_ok⟩, annOk_leaf⟩⟩⟩, annOk_leaf⟩⟩) ?_
  refine cast ?_ hb
  kernel_rfl
def N11_l5_b (x0_k : Option Addr) (x5_grown : Sl) (x10_i : Int) (x11_l : Sl) (Φ : Int → Hp → Prop) (x12_n : Int) (h : Hp) (K_e10 : Hp → Prop) (K_ret : Bool → Hp → Prop) : Prop :=
  idx x10_i x5_grown.n <|
  nn x5_grown.p fun a0 =>
  xL (cell h (a0.add (x10_i.toNat * 1))) fun s0 =>
  bif (decide (x12_n < ((s0.n : Nat) : Int))) then
    nw h (.cells ⟨[.int .i64 0, .int .i64 0, .int .i64 0]⟩ 44) fun b0 h0 =>
    st h0 (bk b0) (.int .i64 (IntKind.wrap .i64 ((-1000) - x10_i))) fun h1 =>
    st h1 ((bk b0).add 1) (.int .i64 x12_n) fun h2 =>
    st h2 ((bk b0).add 2) (.int .i64 0) fun h3 =>
    idx x10_i x5_grown.n <|
    nn x5_grown.p fun a1 =>
    xL (cell h3 (a1.add (x10_i.toNat * 1))) fun s1 =>
    idx x12_n s1.n <|
    nn s1.p fun a2 =>
    xI .i64 (cell h3 (a2.add (x12_n.toNat * 3))) fun n0 =>
    xI .i64 (cell h3 ((a2.add (x12_n.toNat * 3)).add 1)) fun n1 =>
    xI .i64 (cell h3 ((a2.add (x12_n.toNat * 3)).add 2)) fun n2 =>
    xI .i64 (cell h3 (bk b0)) fun n3 =>
    xI .i64 (cell h3 ((bk b0).add 1)) fun n4 =>
    xI .i64 (cell h3 ((bk b0).add 2)) fun n5 =>
    bif (!((n0 == n3) && ((n1 == n4) && ((n2 == n5) && true)))) then
      K_ret false h3
    else
      bif (decide (x12_n < ((x11_l.n : Nat) : Int))) then
        idx x12_n x11_l.n <|
        nn x11_l.p fun a3 =>
        xI .i64 (cell h3 (a3.add (x12_n.toNat * 3))) fun n6 =>
        xI .i64 (cell h3 ((a3.add (x12_n.toNat * 3)).add 1)) fun n7 =>
        xI .i64 (cell h3 ((a3.add (x12_n.toNat * 3)).add 2)) fun n8 =>
        xI .i64 (cell h3 (bk b0)) fun n9 =>
        xI .i64 (cell h3 ((bk b0).add 1)) fun n10 =>
        xI .i64 (cell h3 ((bk b0).add 2)) fun n11 =>
        bif (!((n6 == n9) && ((n7 == n10) && ((n8 == n11) && true)))) then
          K_ret false h3
        else
          Φ (IntKind.wrap .i64 (x12_n + 1)) h3
      else
        Φ (IntKind.wrap .i64 (x12_n + 1)) h3
  else
    K_e10 h
def N11_l5_B (x0_k : Option Addr) (x5_grown : Sl) (x10_i : Int) (x11_l : Sl) (K_e10 : Hp → Prop) (K_ret : Bool → Hp → Prop) (s : Sg.T [(12, .c (.int .i64))]) (h : Hp) (Φ : Sg.T [(12, .c (.int .i64))] → Hp → Prop) : Prop :=
  N11_l5_b x0_k x5_grown x10_i x11_l (fun x12_n h => Φ x12_n h) s h K_e10 K_ret
def N11_l5 (x0_k : Option Addr) (x5_grown : Sl) (x10_i : Int) (x11_l : Sl) (x12_n : Int) (h : Hp) (K_e10 : Hp → Prop) (K_ret : Bool → Hp → Prop) : Prop :=
  loopP (N11_l5_B x0_k x5_grown x10_i x11_l K_e10 K_ret) x12_n h
noncomputable def N11_l5_t : Xf := loopT [(0, .c (.ptr)), (5, .c (.slice)), (10, .c (.int .i64)), (11, .c (.slice))] [(12, .c (.int .i64))] (codeAt B11 [1, 1, 1, 1, 0, 1, 0, 0, 1, 0, 0, 1, 1, 0, 0]) fun F Q => N11_l5_B F.1 F.2.1 F.2.2.1 F.2.2.2 (fun h' => Q (.exit 10) (Sg.env [] ()) h') (fun o0 h' => Q .ret (Sg.env [(2, .c (.bool))] o0) h')
theorem N11_l5_ok : Sound Try.prog Try.f11.ntmps N11_l5_t (codeAt B11 [1, 1, 1, 1, 0, 1, 0, 0, 1, 0, 0, 1, 1, 0]) := by
  refine loop_sound (fun e => match e with | .exit 10 => [] | .ret => [2] | _ => []) (by kernel_rfl) ?_
  intro F Q s h Φ hb
  refine den_sound hE hm _ (.two .leaf (.two (.one (.two .leaf (.two (.ord [0, 1, 2, 3, 4, 5, 6, 7, 8, 9, 10, 11, 12, 13, 14, 15, 16, 17, 18, 19, 20, 21, 22]) .leaf))) .leaf)) _ _ _ (⟨annOk_leaf, ⟨⟨annOk_leaf, ⟨trivial, annOk_leaf⟩⟩, annOk_leaf⟩⟩) ?_
  refine cast ?_ hb
  kernel_rfl
def N11_l4_b (x0_k : Option Addr) (x5_grown : Sl) (Φ : Int → Hp → Prop) (x10_i : Int) (h : Hp) (K_e8 : Hp → Prop) (K_ret : Bool → Hp → Prop) : Prop :=
  bif (decide (x10_i < ((x5_grown.n : Nat) : Int))) then
    nn x0_k fun a0 =>
    xL (cell h a0) fun s0 =>
    idx x10_i s0.n <|
    nn s0.p fun a1 =>
    xL (cell h (a1.add (x10_i.toNat * 1))) fun s1 =>
    N11_l5 x0_k x5_grown x10_i s1 0 h
      (fun h0 =>
        Φ (IntKind.wrap .i64 (x10_i + 1)) h0)
      (fun b0 h1 =>
        K_ret b0 h1)
  else
    K_e8 h
def N11_l4_B (x0_k : Option Addr) (x5_grown : Sl) (K_e8 : Hp → Prop) (K_ret : Bool → Hp → Prop) (s : Sg.T [(10, .c (.int .i64))]) (h : Hp) (Φ : Sg.T [(10, .c (.int .i64))] → Hp → Prop) : Prop :=
  N11_l4_b x0_k x5_grown (fun x10_i h => Φ x10_i h) s h K_e8 K_ret
def N11_l4 (x0_k : Option Addr) (x5_grown : Sl) (x10_i : Int) (h : Hp) (K_e8 : Hp → Prop) (K_ret : Bool → Hp → Prop) : Prop :=
  loopP (N11_l4_B x0_k x5_grown K_e8 K_ret) x10_i h
noncomputable def N11_l4_t : Xf := loopT [(0, .c (.ptr)), (5, .c (.slice))] [(10, .c (.int .i64))] (codeAt B11 [1, 1, 1, 1, 0, 1, 0, 0]) fun F Q => N11_l4_B F.1 F.2 (fun h' => Q (.exit 8) (Sg.env [] ()) h') (fun o0 h' => Q .ret (Sg.env [(2, .c (.bool))] o0) h')
theorem N11_l4_ok : Sound Try.prog Try.f11.ntmps N11_l4_t (codeAt B11 [1, 1, 1, 1, 0, 1, 0]) := by
  refine loop_sound (fun e => match e with | .exit 8 => [] | .ret => [2] | _ => []) (by kernel_rfl) ?_
  intro F Q s h Φ hb
  refine den_sound hE hm _ (.two .leaf (.two (.one (.two .leaf (.two .leaf (.one (.xf N11_l5_t))))) .leaf)) _ _ _ (⟨annOk_leaf, ⟨⟨annOk_leaf, ⟨annOk_leaf, N11_l5_ok⟩⟩, annOk_leaf⟩⟩) ?_
  refine cast ?_ hb
  kernel_rfl
def N11 (x0 : Option Addr) (h : Hp) (K : Bool → Hp → Prop) : Prop :=
  N11_l0 x0 0 h
    (fun h0 =>
      N11_l1 x0 ⟨none, 0, 0⟩ 0 h0
        (fun s0 h1 =>
          N11_l4 x0 s0 0 h1
            (fun h2 =>
              K true h2)
            (fun b0 h3 =>
              K b0 h3)))
    (fun b1 h4 =>
      K b1 h4)
theorem S11 {x0 : Option Addr} {h : Hp} {K : Bool → Hp → Prop} (hn : N11 x0 h K) : C11 x0 h K := by
  refine calls_of_D Try.func11 (c := B11) rfl (by kernel_rfl) ?_
  refine den_sound hE hm _ (.two .leaf (.two (.two .leaf (.one (.xf N11_l0_t))) (.two .leaf (.two (.two .leaf (.one (.xf N11_l1_t))) (.two (.two .leaf (.one (.xf N11_l4_t))) .leaf))))) _ _ _ (⟨annOk_leaf, ⟨⟨annOk_leaf, N11_l0_ok⟩, ⟨annOk_leaf, ⟨⟨annOk_leaf, N11_l1_ok⟩, ⟨⟨annOk_leaf, N11_l4_ok⟩, annOk_leaf⟩⟩⟩⟩⟩) ?_
  refine cast ?_ hn
  kernel_rfl
end Go.Proofs.Ytfnlldbaplakoaa

/-
  Rows of bytes that may bear a mark behind their end (a string's bytes, taken as a slice): reading, writing, append.
-/
set_option linter.unusedSimpArgs false
set_option linter.unusedVariables false
namespace Go.Hw
open Go

def Blm (h : Hp) (b : Nat) (T : TypeId) (l : List Value) : Prop := ∃ z : Nat × Nat, (z.1 = z.2 ∨ l.length ≤ z.1) ∧ h b = some (.cells ⟨l⟩ T z)
theorem Blk.m {h : Hp} {b : Nat} {T : TypeId} {l : List Value} (hb : Blk h b T l) : Blm h b T l := ⟨(0, 0), .inl rfl, hb⟩
theorem Blm.cell {h : Hp} {b k : Nat} {T : TypeId} {l : List Value} (hb : Blm h b T l) : Hw.cell h ⟨b, k, none⟩ = l[k]? := by
  obtain ⟨z, _, hb⟩ := hb; exact cell_at hb
theorem Blm.st {h : Hp} {b k : Nat} {T : TypeId} {l : List Value} {v : Value} {F : Hp → Prop} (hb : Blm h b T l) (hk : k < l.length) (hp : plain v = true)
    (hF : ∀ h', Blm h' b T (l.set k v) → (∀ c, c ≠ b → h' c = h c) → F h') : Hw.st h ⟨b, k, none⟩ v F := by
  obtain ⟨⟨z1, z2⟩, hz, hb⟩ := hb
  unfold Hw.st; rw [hp]
  refine ⟨⟨by rw [cell_at hb]; simp [hk], ?_⟩, ?_⟩
  · unfold frz
    simp only [hb]
    rcases hz with hz | hz
    · have hz : z1 = z2 := hz
      subst hz
      by_cases hq : z1 ≤ k
      · have : ¬ k < z1 := by omega
        simp [this]
      · simp [hq]
    · have : ¬ z1 ≤ k := by have : l.length ≤ z1 := hz; omega
      simp [this]
  · have e : setc h ⟨b, k, none⟩ v = upd h b (.cells ⟨l.set k v⟩ T (z1, z2)) := by simp [Hw.setc, hb]
    rw [e]
    exact hF _ ⟨(z1, z2), by simpa using hz, upd_same⟩ fun c hc => upd_ne hc
theorem wrL_blm {b : Nat} {T : TypeId} {F : Hp → Prop} {o : Nat} : ∀ (l : List Value) (i : Nat) (h : Hp) (cs : List Value), Blm h b T cs → o + i + l.length ≤ cs.length → (∀ v ∈ l, plain v = true) →
    (∀ h', Blm h' b T (setL cs (o + i) l) → (∀ c, c ≠ b → h' c = h c) → F h') → wrL ⟨b, o, none⟩ i l h F := by
  intro l
  induction l with
  | nil => intro i h cs hb _ _ hF; exact hF h hb fun _ _ => rfl
  | cons v l ih =>
    intro i h cs hb hi hp hF
    simp only [List.length_cons] at hi
    simp only [wrL, add_mk]
    refine hb.st (by omega) (hp v (List.mem_cons_self ..)) ?_
    intro h1 hb1 hf1
    refine ih (i + 1) _ (cs.set (o + i) v) hb1 (by simp; omega) (fun w hw => hp w (List.mem_cons_of_mem _ hw)) ?_
    intro h' hb' hf
    refine hF h' hb' ?_
    intro c hc; rw [hf c hc, hf1 c hc]

/-- a slice of bytes that owns its row -/
def OwnB (h : Hp) (T : TypeId) (s : Sl) (l : List UInt8) : Prop :=
  l.length = s.n ∧ s.n ≤ s.c ∧
  match s.p with
  | none => s.c = 0
  | some a => a = bk a.block ∧ ∃ cs, Blm h a.block T cs ∧ cs.length = s.c ∧ cs.take l.length = bc l
theorem Own.ownB {h : Hp} {T : TypeId} {s : Sl} {l : List UInt8} (ho : Own h T 1 s (bc l)) : OwnB h T s l := by
  obtain ⟨h1, h2, h3⟩ := ho
  refine ⟨by simpa using h1, h2, ?_⟩
  cases hp : s.p with
  | none => rw [hp] at h3; exact h3
  | some a =>
    rw [hp] at h3
    obtain ⟨e, cs, hb, hl, ht⟩ := h3
    exact ⟨e, cs, hb.m, by simpa using hl, by simpa using ht⟩
theorem OwnB.rdb {h : Hp} {T : TypeId} {s : Sl} {l : List UInt8} (ho : OwnB h T s l) : RdB h s l := by
  obtain ⟨h1, h2, h3⟩ := ho
  refine ⟨h1.symm, h2, ?_⟩
  intro i v hi
  have hil := (List.getElem?_eq_some_iff.1 hi).1
  rw [bc_len] at hil
  cases hp : s.p with
  | none => rw [hp] at h3; have : s.c = 0 := h3; omega
  | some a =>
    rw [hp] at h3
    obtain ⟨e, cs, hb, hl, ht⟩ := h3
    refine ⟨a, rfl, ?_⟩
    rw [e, add_bk, hb.cell]
    rw [← ht, List.getElem?_take, if_pos hil] at hi
    exact hi
theorem OwnB.st {h : Hp} {T : TypeId} {s : Sl} {l : List UInt8} (ho : OwnB h T s l) {k : Nat} (hk : k < l.length) {v : UInt8} {F : Hp → Prop}
    (hF : ∀ b h', s.p = some (bk b) → OwnB h' T s (l.set k v) → (∀ c, c ≠ b → h' c = h c) → F h') : ∃ b, s.p = some (bk b) ∧ Hw.st h ⟨b, k, none⟩ (.int .u8 v.toNat) F := by
  obtain ⟨h1, h2, h3⟩ := ho
  cases hp : s.p with
  | none => rw [hp] at h3; have : s.c = 0 := h3; omega
  | some a =>
    rw [hp] at h3
    obtain ⟨e, cs, hb, hl, ht⟩ := h3
    refine ⟨a.block, by rw [← e], ?_⟩
    refine hb.st (by omega) rfl ?_
    intro h' hb' hf
    refine hF a.block h' (by rw [hp, ← e]) ⟨by simpa using h1, h2, ?_⟩ hf
    show match s.p with | none => _ | some a => _
    rw [hp]
    refine ⟨e, _, hb', by simpa using hl, ?_⟩
    rw [List.length_set, List.take_set, ht, bc_set]
theorem OwnB.ap {P : Program} {T : TypeId} {s : Sl} {l m : List UInt8} {y : Value} {h : Hp} {F : Sl → Hp → Prop} (ho : OwnB h T s l)
    (hsz : P.cellsOf T = 1) (hz : (zc P T).length = 1) (hln : ∀ G : Nat → Prop, lnK y G = G m.length) (hsrc : ∀ G : List Value → Prop, G (bc m) → srcK h 1 m.length y G) (hby : (s.n + m.length) * 2 * P.bytesOf T ≤ 2 ^ 48)
    (hF : ∀ s' h', OwnB h' T s' (l ++ m) → Ext (fun b => s.p = some (bk b)) h h' → (∀ b, s'.p = some (bk b) → s.p = some (bk b) ∨ h b = none) → F s' h') : apK P T s y h F := by
  have hr := ho.rdb
  unfold apK
  rw [hln]
  obtain ⟨h1, h2, h3⟩ := ho
  refine ⟨fun hc => ?_, fun hc => ⟨?_, ?_⟩⟩
  · rw [hsz]
    refine hsrc _ ?_
    cases hp : s.p with
    | none =>
      rw [hp] at h3
      have h3' : s.c = 0 := h3
      have hm : m = [] := List.length_eq_zero_iff.1 (by omega)
      subst hm
      simp only []
      refine hF ⟨none, s.n + 0, s.c⟩ h ⟨by simp; omega, by simp; omega, h3'⟩ Ext.refl (by intro b hb; cases hb)
    | some a =>
      rw [hp] at h3
      obtain ⟨e, cs, hb, hl, ht⟩ := h3
      simp only []
      rw [e, add_bk, Nat.mul_one]
      refine wrL_blm (bc m) 0 h cs hb (by rw [bc_len]; omega) bc_plain ?_
      intro h' hb' hf
      rw [Nat.add_zero, setL_eq (by rw [bc_len]; omega)] at hb'
      refine hF ⟨some (bk a.block), s.n + m.length, s.c⟩ h' ⟨by simp; omega, hc, rfl, _, hb', ?_, ?_⟩ ?_ ?_
      · simp; omega
      · rw [← h1, ht, bc_app, List.append_assoc, ← List.append_assoc (bc l)]
        exact List.take_left' (by simp)
      · intro c o hco hn
        have : c ≠ a.block := by rintro rfl; exact hn (by show s.p = some (bk a.block); rw [hp, ← e])
        rw [hf c this]; exact hco
      · intro b hb; left; rw [← hb]; rw [hp, ← e]
  · have := nextcap_le (s.n + m.length) s.c hc
    calc _ ≤ 2 * (s.n + m.length) * P.bytesOf T := Nat.mul_le_mul_right _ this
      _ = (s.n + m.length) * 2 * P.bytesOf T := by rw [Nat.mul_comm 2]
      _ ≤ 2 ^ 48 := hby
  · rw [hsz]
    refine hr.srcK (n := s.n) (by omega) ?_
    refine hsrc _ ?_
    intro c b hcb hb
    rw [← h1, List.take_length]
    have harr : (⟨bc l ++ bc m⟩ : Array Value) ++ zeros P T (c - (l.length + m.length)) = ⟨(bc l ++ bc m) ++ (zeros P T (c - (l.length + m.length))).toList⟩ := by apply Array.ext'; simp
    rw [harr]
    refine hF ⟨some (bk b), l.length + m.length, c⟩ _ ⟨by simp, by show l.length + m.length ≤ c; omega, rfl, _, ⟨(0, 0), .inl rfl, upd_same⟩, ?_, ?_⟩ (Ext.new hb) ?_
    · show _ = c
      rw [List.length_append, zeros_len, hz, List.length_append, bc_len, bc_len]; omega
    · rw [bc_app]; exact List.take_left' (by simp)
    · intro b' hb'; right
      simp only [Option.some.injEq] at hb'
      have : b = b' := congrArg Addr.block hb'
      subst this; exact hb

/-- a slice of bytes that owns its row -/
def byt (T : TypeId) (s : Sl) (l : List UInt8) : Asn :=
  ⟨fun F h => (∀ x, F x ↔ s.p = some (bk x)) ∧ OwnB h T s l,
   fun {F h h'} hl hh => ⟨hh.1, by
    obtain ⟨h1, h2, h3⟩ := hh.2
    refine ⟨h1, h2, ?_⟩
    cases hp : s.p with
    | none => rw [hp] at h3; exact h3
    | some a =>
      rw [hp] at h3
      obtain ⟨e, cs, ⟨z, hz, hb⟩, hr⟩ := h3
      exact ⟨e, cs, ⟨z, hz, (hl a.block ((hh.1 _).2 (by rw [hp, e]))).trans hb⟩, hr⟩⟩,
   fun {F h x} hh hx => by
    have hp := (hh.1 x).1 hx
    have h3 := hh.2.2.2
    rw [hp] at h3
    obtain ⟨_, cs, ⟨z, _, hb⟩, _⟩ := h3
    rw [show h x = _ from hb]; simp⟩
theorem Sat.byt {L M : List Asn} {h : Hp} (hs : Sat (L ++ M) h) (j : Nat) {T : TypeId} {s : Sl} {l : List UInt8} (hj : M[j]? = some (Hw.byt T s l)) : OwnB h T s l := let ⟨_, hF⟩ := hs.get' j hj; hF.2
theorem Sat.addB {L M : List Asn} {h h' : Hp} {T : TypeId} {s : Sl} {l : List UInt8} (hs : Sat (L ++ M) h) (he : Ext none' h h') (ho : OwnB h' T s l) (hf : ∀ b, s.p = some (bk b) → h b = none) : Sat (L ++ (M ++ [Hw.byt T s l])) h' :=
  hs.add he (F' := fun x => s.p = some (bk x)) ⟨fun _ => Iff.rfl, ho⟩ hf
/-- a string's bytes as a slice -/
theorem Sat.s2b {L M : List Asn} {h : Hp} {T : TypeId} {l : List UInt8} {F : Sl → Hp → Prop} (hs : Sat (L ++ M) h) (hF : ∀ s h', Sat (L ++ (M ++ [Hw.byt T s l])) h' → F s h') : Hw.s2b T ⟨⟨l⟩⟩ h F := by
  intro c b hc hb
  have hsz : (⟨⟨l⟩⟩ : ByteArray).size = l.length := rfl
  rw [hsz] at hc ⊢
  refine hF _ _ (hs.addB (s := ⟨some ⟨b, 0, none⟩, l.length, c⟩) (Ext.new hb) ⟨rfl, hc, rfl, _, ⟨(c, c + 1), .inr ?_, upd_same⟩, ?_, ?_⟩ ?_)
  · rw [bcells_bc]; simp; omega
  · rw [bcells_bc]; simp; omega
  · rw [bcells_bc]; exact List.take_left' (by simp)
  · intro b' hb'
    simp only [Option.some.injEq] at hb'
    have : b = b' := congrArg Addr.block hb'
    subst this; exact hb
theorem Sat.apB {P : Program} {L M : List Asn} {T : TypeId} {s : Sl} {l m : List UInt8} {y : Value} {h : Hp} {F : Sl → Hp → Prop} (hs : Sat (L ++ M) h) (j : Nat) (hj : M[j]? = some (Hw.byt T s l))
    (hsz : P.cellsOf T = 1) (hz : (zc P T).length = 1) (hln : ∀ G : Nat → Prop, lnK y G = G m.length) (hsrc : ∀ G : List Value → Prop, G (bc m) → srcK h 1 m.length y G) (hby : (s.n + m.length) * 2 * P.bytesOf T ≤ 2 ^ 48)
    (hF : ∀ s' h', Sat (L ++ M.set j (Hw.byt T s' (l ++ m))) h' → F s' h') : apK P T s y h F := by
  refine (hs.byt j hj).ap hsz hz hln hsrc hby ?_
  intro s' h' ho he hr
  refine hF s' h' (hs.at j hj fun G hG => ⟨fun x => s'.p = some (bk x), ⟨fun _ => Iff.rfl, ho⟩, fun x hx => ?_, fun x hx hne => ?_⟩)
  · rcases hr x hx with e | e
    · exact .inl ((hG.1 x).2 e)
    · exact .inr e
  · cases hq : h x with
    | none => exact (hne hq).elim
    | some o => exact he x o hq (fun e => hx ((hG.1 x).2 e))
theorem Sat.stB {L M : List Asn} {h : Hp} {T : TypeId} {k : Nat} {x n : Int} {s : Sl} {l : List UInt8} {v : UInt8} {F : Hp → Prop} (hs : Sat (L ++ M) h) (j : Nat) (hj : M[j]? = some (Hw.byt T s l)) (hx : x = k) (hk : k < l.length) (hn : n = v.toNat)
    (hF : ∀ h', Sat (L ++ M.set j (Hw.byt T s (l.set k v))) h' → F h') : idx x s.n (nn s.p fun a => Hw.st h (a.add (x.toNat * 1)) (.int .u8 n) F) := by
  have ho := hs.byt j hj
  refine idx_of (by omega) (by have := ho.1; omega) ?_
  subst hn
  obtain ⟨b, hb, hst⟩ := ho.st (F := F) hk (v := v) (fun b h' hp ho' hf => hF h' (hs.at j hj fun G hG => ⟨G, ⟨hG.1, ho'⟩, fun x hx => .inl hx, fun x hx _ => hf x (fun e => hx ((hG.1 x).2 (by rw [hp, e])))⟩))
  rw [hb]
  subst hx
  simp only [nn_some', add_bk, Int.toNat_natCast, Nat.mul_one]
  exact hst
end Go.Hw

/-
  Copy, for elements of any number of cells.
-/
set_option linter.unusedSimpArgs false
set_option linter.unusedVariables false
namespace Go.Hw
open Go

theorem Sat.cpN {P : Program} {L M : List Asn} {T : TypeId} {sz : Nat} {s : Sl} {vs ns : List Value} {y : Value} {h : Hp} {F : Nat → Hp → Prop} {n : Nat} (hs : Sat (L ++ M) h) (j : Nat) (hj : M[j]? = some (Hw.own T sz s vs))
    (hsz : P.cellsOf T = sz) (hln : ∀ G : Nat → Prop, lnK y G = G n) (hsrc : ∀ G : List Value → Prop, G ns → srcK h sz (Nat.min n s.n) y G) (hns : ns.length = Nat.min n s.n * sz) (hpl : ∀ v ∈ ns, plain v = true)
    (hF : ∀ h', Sat (L ++ M.set j (Hw.own T sz s (ns ++ vs.drop ns.length))) h' → F (Nat.min n s.n) h') : cpK P T s y h F := by
  unfold cpK
  rw [hln, hsz]
  refine hsrc _ ?_
  have hmin : ns.length ≤ s.n * sz := by rw [hns]; exact Nat.mul_le_mul_right _ (Nat.min_le_right _ _)
  obtain ⟨ho1, ho2, ho3⟩ := hs.own j hj
  have hnc : s.n * sz ≤ s.c * sz := Nat.mul_le_mul_right _ ho2
  cases hp : s.p with
  | none =>
    rw [hp] at ho3
    have hc : s.c = 0 := ho3
    rw [hc, Nat.zero_mul] at hnc
    have : ns = [] := by apply List.length_eq_zero_iff.1; omega
    subst this
    have hv : vs = [] := by apply List.length_eq_zero_iff.1; omega
    subst hv
    simp only []
    refine hF h ?_
    have := hs.imp j hj (A' := Hw.own T sz s []) (fun F h => h)
    simpa using this
  | some a =>
    rw [hp] at ho3
    obtain ⟨ea, cs, hcs, hcl, hct⟩ := ho3
    simp only []
    rw [ea]
    refine wrL_blk (b := a.block) (o := 0) ns 0 _ cs hcs (by omega) hpl ?_
    intro h2 hb2 hf2
    refine hF h2 (hs.at j hj fun G hG => ⟨G, ⟨hG.1, by simp; omega, ho2, ?_⟩, fun x hx => .inl hx, fun x hx _ => hf2 x (fun e => hx ((hG.1 x).2 (by rw [hp, ea, e])))⟩)
    rw [hp]
    refine ⟨ea, _, hb2, by rw [setL_length]; omega, ?_⟩
    rw [setL_eq (by omega)]
    simp only [Nat.zero_add, List.take_zero, List.nil_append]
    rw [← hct]
    have : (cs.take vs.length).drop ns.length = (cs.drop ns.length).take (vs.length - ns.length) := by rw [List.drop_take]
    rw [this, List.length_append, List.take_append]
    simp only [Nat.add_sub_cancel_left, List.length_take, List.length_drop]
    rw [List.take_of_length_le (l := ns) (by omega)]
    congr 1
    rw [show min (vs.length - ns.length) (cs.length - ns.length) = vs.length - ns.length by omega]
end Go.Hw

/-
  More on separate blocks: another order, loads out of rows, one of a star.
-/
set_option linter.unusedSimpArgs false
set_option linter.unusedVariables false
namespace Go.Hw
open Go

/-- some of them, in another order -/
theorem Sat.sel {L M : List Asn} {h : Hp} (hs : Sat (L ++ M) h) (is : List Nat) (hn : is.Nodup) {M' : List Asn} (hM : is.map (fun i => M[i]?) = M'.map some) : Sat (L ++ M') h := by
  have hlen : is.length = M'.length := by have := congrArg List.length hM; simpa using this
  have key : ∀ (i : Nat) (A : Asn), M'[i]? = some A → ∃ k : Nat, is[i]? = some k ∧ M[k]? = some A := by
    intro i A hA
    have h1 := congrArg (fun l => l[i]?) hM
    simp only [List.getElem?_map, hA, Option.map_some] at h1
    cases hk : is[i]? with
    | none => rw [hk] at h1; cases h1
    | some k => rw [hk] at h1; exact ⟨k, rfl, by simpa using h1⟩
  refine hs.pick (fun i => if i < L.length then i else L.length + is.getD (i - L.length) 0) ?_ ?_
  · intro i A hi
    by_cases e : i < L.length
    · rw [if_pos e]; rw [List.getElem?_append_left e] at hi ⊢; exact hi
    · rw [if_neg e]
      rw [List.getElem?_append_right (by omega)] at hi
      obtain ⟨k, hk, hA⟩ := key _ _ hi
      rw [List.getElem?_append_right (by omega), Nat.add_sub_cancel_left]
      simp only [List.getD, hk, Option.getD_some]; exact hA
  · intro i j hi hj e
    simp only [List.length_append] at hi hj
    by_cases e1 : i < L.length
    · by_cases e2 : j < L.length
      · simp only [if_pos e1, if_pos e2] at e; exact e
      · simp only [if_pos e1, if_neg e2] at e; omega
    · by_cases e2 : j < L.length
      · simp only [if_neg e1, if_pos e2] at e; omega
      · simp only [if_neg e1, if_neg e2] at e
        have hi' : i - L.length < is.length := by omega
        have hj' : j - L.length < is.length := by omega
        simp only [List.getD, List.getElem?_eq_getElem hi', List.getElem?_eq_getElem hj', Option.getD_some] at e
        have e3 : is[i - L.length] = is[j - L.length] := by omega
        have : i - L.length = j - L.length := (List.getElem_inj hn).1 e3
        omega

/-! loads out of rows -/
section
variable {L M : List Asn} {h : Hp} {b k : Nat} {T : TypeId} {cs : List Value}
theorem Sat.lI (hs : Sat (L ++ M) h) (j : Nat) {κ : IntKind} {n : Int} {F : Int → Prop} (hj : M[j]? = some (row b T cs)) (hc : cs[k]? = some (.int κ n)) (hF : F n) : xI κ (cell h ⟨b, k, none⟩) F :=
  xI_of (by rw [(hs.blk j hj).cell]; exact hc) hF
theorem Sat.lB (hs : Sat (L ++ M) h) (j : Nat) {n : Bool} {F : Bool → Prop} (hj : M[j]? = some (row b T cs)) (hc : cs[k]? = some (.bool n)) (hF : F n) : xB (cell h ⟨b, k, none⟩) F :=
  xB_of (by rw [(hs.blk j hj).cell]; exact hc) hF
theorem Sat.lS (hs : Sat (L ++ M) h) (j : Nat) {n : ByteArray} {F : ByteArray → Prop} (hj : M[j]? = some (row b T cs)) (hc : cs[k]? = some (.string n)) (hF : F n) : xS (cell h ⟨b, k, none⟩) F :=
  xS_of (by rw [(hs.blk j hj).cell]; exact hc) hF
theorem Sat.lP (hs : Sat (L ++ M) h) (j : Nat) {n : Option Addr} {F : Option Addr → Prop} (hj : M[j]? = some (row b T cs)) (hc : cs[k]? = some (.pointer n)) (hF : F n) : xP (cell h ⟨b, k, none⟩) F :=
  xP_of (by rw [(hs.blk j hj).cell]; exact hc) hF
theorem Sat.lL (hs : Sat (L ++ M) h) (j : Nat) {p : Option Addr} {n c : Nat} {F : Sl → Prop} (hj : M[j]? = some (row b T cs)) (hc : cs[k]? = some (.slice p n c)) (hF : F ⟨p, n, c⟩) : xL (cell h ⟨b, k, none⟩) F :=
  xL_of (s := ⟨p, n, c⟩) (by rw [(hs.blk j hj).cell]; exact hc) hF
theorem Sat.lM (hs : Sat (L ++ M) h) (j : Nat) {n : Option Nat} {F : Option Nat → Prop} (hj : M[j]? = some (row b T cs)) (hc : cs[k]? = some (.map n)) (hF : F n) : xM (cell h ⟨b, k, none⟩) F :=
  xM_of (by rw [(hs.blk j hj).cell]; exact hc) hF
theorem Sat.lA (hs : Sat (L ++ M) h) (j : Nat) {n : Value} {F : Value → Prop} (hj : M[j]? = some (row b T cs)) (hc : cs[k]? = some n) (hF : F n) : xA (cell h ⟨b, k, none⟩) F :=
  xA_of (by rw [(hs.blk j hj).cell]; exact hc) hF
end

/-! a slice that owns its row: elements -/
section
variable {L M : List Asn} {h : Hp} {T : TypeId} {sz : Nat} {s : Sl} {vs : List Value}
/-- where a cell of an owned row lies -/
theorem Sat.cel (hs : Sat (L ++ M) h) (j : Nat) {k : Nat} {v : Value} (hj : M[j]? = some (Hw.own T sz s vs)) (hk : vs[k]? = some v) : ∃ b, s.p = some (bk b) ∧ cell h ⟨b, k, none⟩ = some v := (hs.own j hj).get hk
theorem Sat.oI (hs : Sat (L ++ M) h) (j : Nat) {κ : IntKind} {n : Int} {k : Nat} {F : Int → Prop} (hj : M[j]? = some (Hw.own T sz s vs)) (hk : vs[k]? = some (.int κ n)) (hF : F n) : nn s.p fun a => xI κ (cell h (a.add k)) F := by
  obtain ⟨b, hp, hc⟩ := hs.cel j hj hk
  rw [hp, nn_some', add_bk]; exact xI_of hc hF
theorem Sat.oL (hs : Sat (L ++ M) h) (j : Nat) {t : Sl} {k : Nat} {F : Sl → Prop} (hj : M[j]? = some (Hw.own T sz s vs)) (hk : vs[k]? = some t.v) (hF : F t) : nn s.p fun a => xL (cell h (a.add k)) F := by
  obtain ⟨b, hp, hc⟩ := hs.cel j hj hk
  rw [hp, nn_some', add_bk]; exact xL_of hc hF
theorem Sat.oP (hs : Sat (L ++ M) h) (j : Nat) {t : Option Addr} {k : Nat} {F : Option Addr → Prop} (hj : M[j]? = some (Hw.own T sz s vs)) (hk : vs[k]? = some (.pointer t)) (hF : F t) : nn s.p fun a => xP (cell h (a.add k)) F := by
  obtain ⟨b, hp, hc⟩ := hs.cel j hj hk
  rw [hp, nn_some', add_bk]; exact xP_of hc hF
/-- a cell of an owned row is written -/
theorem Sat.stO (hs : Sat (L ++ M) h) (j : Nat) {k : Nat} {v : Value} {F : Hp → Prop} {a : Addr} (hj : M[j]? = some (Hw.own T sz s vs)) (hk : k < vs.length) (hp : plain v = true) (ha : s.p = some a)
    (hF : ∀ h', Sat (L ++ M.set j (Hw.own T sz s (vs.set k v))) h' → F h') : Hw.st h (a.add k) v F := by
  obtain ⟨r, hr, ⟨cs, hb⟩, hst⟩ := (hs.own j hj).st hk
  rw [ha] at hr; cases hr
  rw [add_bk]
  refine hst v F hp fun h' ho he => ?_
  refine hF h' (hs.at j hj fun G hG => ⟨G, ⟨hG.1, ho⟩, fun x hx => .inl hx, fun x hx hne => ?_⟩)
  cases hq : h x with
  | none => exact (hne hq).elim
  | some o => exact he x o hq fun e => hx ((hG.1 x).2 (by rw [ha, e]))
end

/-! one of a star -/
theorem Sat.out {L X : List Asn} {A : Asn} {h : Hp} (hs : Sat (L ++ [star X]) h) (j : Nat) (hj : X[j]? = some A) : Sat (L ++ [star (X.eraseIdx j), A]) h := by
  have h1 := hs.open.rot j hj
  have h2 : Sat ((L ++ [A]) ++ X.eraseIdx j) h := by
    have hlen := lt_of_get hj
    refine h1.pick (fun i => if i < L.length then i else if i = L.length then (L ++ X.eraseIdx j).length else i - 1) ?_ ?_
    · intro i B hi
      have hil := lt_of_get hi
      simp only [List.length_append, List.length_singleton] at hil
      by_cases e : i < L.length
      · simp only [if_pos e]
        rw [List.getElem?_append_left (by simp; omega), List.getElem?_append_left e] at hi
        rw [List.getElem?_append_left (by simp; omega), List.getElem?_append_left e]; exact hi
      · simp only [if_neg e]
        by_cases e2 : i = L.length
        · simp only [if_pos e2]
          rw [e2, List.getElem?_append_left (by simp), List.getElem?_append_right (Nat.le_refl _), Nat.sub_self] at hi
          rw [List.getElem?_append_right (Nat.le_refl _), Nat.sub_self]; exact hi
        · simp only [if_neg e2]
          rw [List.getElem?_append_right (by simp; omega)] at hi
          rw [List.getElem?_append_left (by simp; omega), List.getElem?_append_right (by omega)]
          rw [show i - 1 - L.length = i - (L ++ [A]).length by simp; omega]; exact hi
    · intro i k hi hk e
      simp only [List.length_append, List.length_singleton] at hi hk e
      split at e <;> split at e <;> (try split at e) <;> (try split at e) <;> omega
  have h3 := h2.close
  have h4 : Sat (L ++ [A, star (X.eraseIdx j)]) h := by simpa using h3
  exact h4.sel [1, 0] (by decide) rfl
theorem Sat.inn {L X : List Asn} {A' : Asn} {h : Hp} (j : Nat) (hs : Sat (L ++ [star (X.eraseIdx j), A']) h) (hj : j < X.length) : Sat (L ++ [star (X.set j A')]) h := by
  have h1 : Sat (L ++ [A', star (X.eraseIdx j)]) h := hs.sel [1, 0] (by decide) rfl
  have h2 : Sat ((L ++ [A']) ++ [star (X.eraseIdx j)]) h := by simpa using h1
  have h3 := h2.open
  have hel : (X.eraseIdx j).length + 1 = X.length := by rw [List.length_eraseIdx_of_lt hj]; omega
  have h4 : Sat ((L ++ X.eraseIdx j) ++ [A']) h := by
    refine h3.pick (fun i => if i < L.length then i else if i = (L ++ X.eraseIdx j).length then L.length else i + 1) ?_ ?_
    · intro i B hi
      have hil := lt_of_get hi
      simp only [List.length_append, List.length_singleton] at hil
      by_cases e : i < L.length
      · simp only [if_pos e]
        rw [List.getElem?_append_left (by simp; omega), List.getElem?_append_left e] at hi
        rw [List.getElem?_append_left (by simp; omega), List.getElem?_append_left e]; exact hi
      · simp only [if_neg e]
        by_cases e2 : i = (L ++ X.eraseIdx j).length
        · simp only [if_pos e2]
          rw [e2, List.getElem?_append_right (Nat.le_refl _), Nat.sub_self] at hi
          rw [List.getElem?_append_left (by simp), List.getElem?_append_right (Nat.le_refl _), Nat.sub_self]; exact hi
        · simp only [if_neg e2]
          simp only [List.length_append] at e2
          rw [List.getElem?_append_left (by simp; omega), List.getElem?_append_right (by omega)] at hi
          rw [List.getElem?_append_right (by simp; omega)]
          rw [show i + 1 - (L ++ [A']).length = i - L.length by simp]; exact hi
    · intro i k hi hk e
      simp only [List.length_append, List.length_singleton] at hi hk e
      split at e <;> split at e <;> (try split at e) <;> (try split at e) <;> omega
  exact (h4.back hj).close

/-- what a predicate of blocks says -/
def asnF (P : Hp → (Nat → Prop) → Prop) (hl : ∀ {F : Nat → Prop} {h h' : Hp}, (∀ x, F x → h' x = h x) → P h F → P h' F) (hd : ∀ {F : Nat → Prop} {h : Hp} {x : Nat}, P h F → F x → h x ≠ none) : Asn := ⟨fun F h => P h F, hl, hd⟩
theorem Ext.of_agree {F : Nat → Prop} {h h' : Hp} (hl : ∀ x, F x → h' x = h x) : Ext (fun x => ¬ F x) h h' := fun b o hb hn => by
  have : F b := Classical.not_not.1 hn
  rw [hl b this]; exact hb
theorem Sat.unF {L M : List Asn} {h : Hp} (hs : Sat (L ++ M) h) (j : Nat) {P : Hp → (Nat → Prop) → Prop} {hl hd} (hj : M[j]? = some (asnF P hl hd)) : ∃ F, P h F := hs.get' j hj
/-- one that is told by a predicate changes, as a contract says -/
theorem Sat.toF {L M : List Asn} {h : Hp} (hs : Sat (L ++ M) h) (j : Nat) {P P' : Hp → (Nat → Prop) → Prop} {hl hd hl' hd'} (hj : M[j]? = some (asnF P hl hd)) :
    ∃ F, P h F ∧ ∀ h' F', P' h' F' → Ext F h h' → (∀ x, F' x → F x ∨ h x = none) → Sat (L ++ M.set j (asnF P' hl' hd')) h' := by
  obtain ⟨F, h1, h2⟩ := hs
  have hjl := lt_of_get hj
  have hA := h1 (L.length + j) (asnF P hl hd) (by rw [List.getElem?_append_right (by omega)]; simpa using hj)
  refine ⟨F (L.length + j), hA, fun h' F' hp he hf => ?_⟩
  have hs : Sat (L ++ M) h := ⟨F, h1, h2⟩
  have dm : ∀ i x, i < (L ++ M).length → F i x → h x ≠ none := fun i x hi hx => let ⟨B, hB⟩ := get_of_lt hi; B.dom (h1 i B hB) hx
  refine ⟨fun i => if i = L.length + j then F' else F i, ?_, ?_⟩
  · intro i B hi
    have hil := lt_of_get hi
    simp only [List.length_append, List.length_set] at hil
    by_cases e : i = L.length + j
    · subst e
      rw [List.getElem?_append_right (by omega), Nat.add_sub_cancel_left, List.getElem?_set_self hjl] at hi
      cases hi; simp only [if_true]; exact hp
    · simp only [if_neg e]
      have hi' : (L ++ M)[i]? = some B := by
        by_cases e2 : i < L.length
        · rw [List.getElem?_append_left e2] at hi ⊢; exact hi
        · rw [List.getElem?_append_right (by omega)] at hi ⊢
          rw [List.getElem?_set_ne (by omega)] at hi; exact hi
      refine B.loc (fun x hx => ?_) (h1 i B hi')
      cases hq : h x with
      | none => exact (dm i x (lt_of_get hi') hx hq).elim
      | some o => exact he x o hq fun hfx => e (h2 i _ x (lt_of_get hi') (by simp; omega) hx hfx)
  · intro i k x hi hk hx hy
    simp only [List.length_append, List.length_set] at hi hk
    by_cases e : i = L.length + j
    · simp only [if_pos e] at hx
      by_cases e2 : k = L.length + j
      · omega
      · simp only [if_neg e2] at hy
        rcases hf x hx with q | q
        · have := h2 _ _ x (by simp; omega) (by simp; omega) q hy; omega
        · exact (dm k x (by simp; omega) hy q).elim
    · simp only [if_neg e] at hx
      by_cases e2 : k = L.length + j
      · simp only [if_pos e2] at hy
        rcases hf x hy with q | q
        · have := h2 _ _ x (by simp; omega) (by simp; omega) hx q; omega
        · exact (dm i x (by simp; omega) hx q).elim
      · simp only [if_neg e2] at hy
        exact h2 i k x (by simp; omega) (by simp; omega) hx hy
theorem Sat.addF {L M : List Asn} {h h' : Hp} {F' : Nat → Prop} {P : Hp → (Nat → Prop) → Prop} (hl hd) (hs : Sat (L ++ M) h) (he : Ext none' h h') (hp : P h' F') (hf : ∀ x, F' x → h x = none) : Sat (L ++ (M ++ [asnF P hl hd])) h' :=
  hs.add he (F' := F') hp hf
/-- one changes, as a contract says; it may fall into two -/
theorem Sat.call2 {L : List Asn} {A : Asn} {h : Hp} (hs : Sat (L ++ [A]) h) :
    ∃ F, A.on F h ∧ ∀ (h' : Hp) (A' B : Asn) (F' G : Nat → Prop), A'.on F' h' → B.on G h' → (∀ x, F' x → ¬ G x) → Ext F h h' → (∀ x, F' x → F x ∨ h x = none) → (∀ x, G x → F x ∨ h x = none) → Sat (L ++ [A', B]) h' := by
  obtain ⟨F, h1, h2⟩ := hs
  have hA := h1 L.length A (by simp)
  refine ⟨F L.length, hA, fun h' A' B F' G ha hb hd he hf hg => ?_⟩
  have dm : ∀ (i : Nat) x, i < (L ++ [A]).length → F i x → h x ≠ none := fun i x hi hx => let ⟨C, hC⟩ := get_of_lt hi; C.dom (h1 i C hC) hx
  refine ⟨fun i => if i < L.length then F i else if i = L.length then F' else G, ?_, ?_⟩
  · intro i C hi
    have hil := lt_of_get hi
    simp only [List.length_append, List.length_cons, List.length_nil] at hil
    by_cases e : i < L.length
    · simp only [if_pos e]
      rw [List.getElem?_append_left e] at hi
      have hi' : (L ++ [A])[i]? = some C := by rw [List.getElem?_append_left e]; exact hi
      refine C.loc (fun x hx => ?_) (h1 i C hi')
      cases hq : h x with
      | none => exact (dm i x (lt_of_get hi') hx hq).elim
      | some o => exact he x o hq fun hfx => by have := h2 i _ x (lt_of_get hi') (by simp) hx hfx; omega
    · simp only [if_neg e]
      rw [List.getElem?_append_right (by omega)] at hi
      by_cases e2 : i = L.length
      · simp only [if_pos e2]
        rw [show i - L.length = 0 by omega] at hi
        simp at hi; subst hi; exact ha
      · simp only [if_neg e2]
        rw [show i - L.length = 1 by omega] at hi
        simp at hi; subst hi; exact hb
  · have key : ∀ i x, i < L.length → F i x → ¬ (F L.length x ∨ h x = none) := by
      intro i x hi hx hq
      rcases hq with q | q
      · have := h2 i _ x (by simp; omega) (by simp) hx q; omega
      · exact dm i x (by simp; omega) hx q
    intro i k x hi hk hx hy
    simp only [List.length_append, List.length_cons, List.length_nil] at hi hk
    by_cases e : i < L.length
    · simp only [if_pos e] at hx
      by_cases e2 : k < L.length
      · simp only [if_pos e2] at hy
        exact h2 i k x (by simp; omega) (by simp; omega) hx hy
      · simp only [if_neg e2] at hy
        by_cases e3 : k = L.length
        · simp only [if_pos e3] at hy; exact (key i x e hx (hf x hy)).elim
        · simp only [if_neg e3] at hy; exact (key i x e hx (hg x hy)).elim
    · simp only [if_neg e] at hx
      by_cases e2 : k < L.length
      · simp only [if_pos e2] at hy
        by_cases e3 : i = L.length
        · simp only [if_pos e3] at hx; exact (key k x e2 hy (hf x hx)).elim
        · simp only [if_neg e3] at hx; exact (key k x e2 hy (hg x hx)).elim
      · simp only [if_neg e2] at hy
        by_cases e3 : i = L.length
        · simp only [if_pos e3] at hx
          by_cases e4 : k = L.length
          · omega
          · simp only [if_neg e4] at hy; exact (hd x hx hy).elim
        · simp only [if_neg e3] at hx
          by_cases e4 : k = L.length
          · simp only [if_pos e4] at hy; exact (hd x hy hx).elim
          · omega
theorem Sat.call {L : List Asn} {A : Asn} {h : Hp} (hs : Sat (L ++ [A]) h) :
    ∃ F, A.on F h ∧ ∀ (h' : Hp) (A' : Asn) (F' : Nat → Prop), A'.on F' h' → Ext F h h' → (∀ x, F' x → F x ∨ h x = none) → Sat (L ++ [A']) h' := by
  obtain ⟨F, h1, h2⟩ := hs.call2
  refine ⟨F, h1, fun h' A' F' ha he hf => ?_⟩
  have := h2 h' A' emp F' (fun _ => False) ha (fun _ e => e) (fun _ _ e => e) he hf (fun _ e => e.elim)
  exact this.sel [0] (by decide) rfl
end Go.Hw

/-
  Numbers of Go: what wraps, what bits do, in Lean's numbers.
-/
set_option linter.unusedSimpArgs false
set_option linter.unusedVariables false
namespace Go.Hw
open Go

theorem wu8 (x : Int) : IntKind.wrap .u8 x = x % 256 := by unfold IntKind.wrap; rfl
theorem wu16 (x : Int) : IntKind.wrap .u16 x = x % 65536 := by unfold IntKind.wrap; rfl
theorem wu32 (x : Int) : IntKind.wrap .u32 x = x % 4294967296 := by unfold IntKind.wrap; rfl
theorem wu64 (x : Int) : IntKind.wrap .u64 x = x % 18446744073709551616 := by unfold IntKind.wrap; rfl
theorem wu8i {x : Int} (h0 : 0 ≤ x) (h1 : x < 256) : IntKind.wrap .u8 x = x := by rw [wu8]; omega
theorem wu16i {x : Int} (h0 : 0 ≤ x) (h1 : x < 65536) : IntKind.wrap .u16 x = x := by rw [wu16]; omega
theorem wu32i {x : Int} (h0 : 0 ≤ x) (h1 : x < 4294967296) : IntKind.wrap .u32 x = x := by rw [wu32]; omega
theorem wu64i {x : Int} (h0 : 0 ≤ x) (h1 : x < 18446744073709551616) : IntKind.wrap .u64 x = x := by rw [wu64]; omega
theorem wi64i {x : Int} (h0 : -9223372036854775808 ≤ x) (h1 : x < 9223372036854775808) : IntKind.wrap .i64 x = x := wrap_id h0 (by omega)

theorem bvn (w : Nat) (n : Nat) (h : n < 2 ^ w) : (BitVec.ofInt w (n : Int)).toNat = n := by
  rw [BitVec.toNat_ofInt]
  have h2 : ((n : Int)) % ((2 ^ w : Nat) : Int) = n := Int.emod_eq_of_lt (by omega) (by exact_mod_cast h)
  simp only [h2]; simp
/-- and with ones below k -/
theorem band_low {w : Nat} {x : Int} (k : Nat) (h0 : 0 ≤ x) (h1 : x < 2 ^ w) (hk : k ≤ w) : ((BitVec.ofInt w x &&& BitVec.ofInt w (2 ^ k - 1)).toNat : Int) = x % 2 ^ k := by
  obtain ⟨n, rfl⟩ := Int.eq_ofNat_of_zero_le h0
  have hn : n < 2 ^ w := by exact_mod_cast h1
  have hm : (2 ^ k - 1 : Int) = ((2 ^ k - 1 : Nat) : Int) := by
    have : 1 ≤ 2 ^ k := Nat.one_le_two_pow
    rw [Int.natCast_sub this]; push_cast; rfl
  have hm2 : 2 ^ k - 1 < 2 ^ w := by
    have : 2 ^ k ≤ 2 ^ w := Nat.pow_le_pow_right (by omega) hk
    have : 1 ≤ 2 ^ k := Nat.one_le_two_pow
    omega
  rw [hm, BitVec.toNat_and, bvn w n hn, bvn w _ hm2, Nat.and_two_pow_sub_one_eq_mod]
  push_cast; rfl
/-- or with what is below -/
theorem bor_low {w : Nat} {x y : Int} (k : Nat) (hx0 : 0 ≤ x) (hx : x * 2 ^ k < 2 ^ w) (hy0 : 0 ≤ y) (hy : y < 2 ^ k) (hk : k ≤ w) : ((BitVec.ofInt w (x * 2 ^ k) ||| BitVec.ofInt w y).toNat : Int) = x * 2 ^ k + y := by
  obtain ⟨a, rfl⟩ := Int.eq_ofNat_of_zero_le hx0
  obtain ⟨b, rfl⟩ := Int.eq_ofNat_of_zero_le hy0
  have ha : a * 2 ^ k < 2 ^ w := by exact_mod_cast hx
  have hb : b < 2 ^ k := by exact_mod_cast hy
  have hb2 : b < 2 ^ w := Nat.lt_of_lt_of_le hb (Nat.pow_le_pow_right (by omega) hk)
  have e : ((a : Int) * 2 ^ k) = ((a * 2 ^ k : Nat) : Int) := by push_cast; rfl
  rw [e, BitVec.toNat_or, bvn w _ ha, bvn w b hb2]
  rw [← Nat.shiftLeft_eq, ← Nat.shiftLeft_add_eq_or_of_lt hb, Nat.shiftLeft_eq]
  push_cast; rfl
/-- xor with all ones -/
theorem bxor_all {w : Nat} {x : Int} (h0 : 0 ≤ x) (h1 : x < 2 ^ w) : ((BitVec.ofInt w (2 ^ w - 1) ^^^ BitVec.ofInt w x).toNat : Int) = 2 ^ w - 1 - x := by
  obtain ⟨n, rfl⟩ := Int.eq_ofNat_of_zero_le h0
  have hn : n < 2 ^ w := by exact_mod_cast h1
  have e1 : BitVec.ofInt w (2 ^ w - 1) = BitVec.allOnes w := by
    apply BitVec.eq_of_toNat_eq
    have h1 : 1 ≤ 2 ^ w := Nat.one_le_two_pow
    have hm : (2 ^ w - 1 : Int) = ((2 ^ w - 1 : Nat) : Int) := by rw [Int.natCast_sub h1]; push_cast; rfl
    rw [hm, bvn w _ (by omega), BitVec.toNat_allOnes]
  rw [e1, BitVec.allOnes_xor, BitVec.toNat_not, bvn w n hn]
  have h1 : 1 ≤ 2 ^ w := Nat.one_le_two_pow
  have : n ≤ 2 ^ w - 1 := by omega
  rw [Int.natCast_sub this, Int.natCast_sub h1]
  push_cast; rfl
theorem not16 {x : Int} (h0 : 0 ≤ x) (h1 : x < 65536) : IntKind.wrap .u16 (BitVec.ofInt 16 65535 ^^^ BitVec.ofInt 16 x).toNat = 65535 - x := by
  have := bxor_all (w := 16) h0 h1
  rw [show ((2 : Int) ^ 16 - 1) = 65535 from rfl] at this
  rw [this, wu16]; omega
theorem not32 {x : Int} (h0 : 0 ≤ x) (h1 : x < 4294967296) : IntKind.wrap .u32 (BitVec.ofInt 32 4294967295 ^^^ BitVec.ofInt 32 x).toNat = 4294967295 - x := by
  have := bxor_all (w := 32) h0 h1
  rw [show ((2 : Int) ^ 32 - 1) = 4294967295 from rfl] at this
  rw [this, wu32]; omega
theorem u8r (b : UInt8) : 0 ≤ (b.toNat : Int) ∧ (b.toNat : Int) < 256 := by have := b.toNat_lt; omega
/-- a loop over places 0 .. n -/
theorem nat_succ64 {i : Nat} (h : i < 9223372036854775807) : IntKind.wrap .i64 ((i : Int) + 1) = ((i + 1 : Nat) : Int) := by rw [wi64i (by omega) (by omega)]; omega

end Go.Hw

/-
  Lists of elements of three numbers that came out, kept: all of them are their owner's.
-/
set_option linter.unusedSimpArgs false
set_option linter.unusedVariables false
namespace Go.Proofs.Ytfnlldbaplakoaa
open Go Go.Hw

theorem e3_a : Try.prog.cellsOf 44 = 3 := by kernel_rfl
theorem e3_z : (zc Try.prog 44).length = 3 := by kernel_rfl
theorem e3_b : Try.prog.bytesOf 44 = 24 := by kernel_rfl
theorem l3_a : Try.prog.cellsOf 41 = 1 := by kernel_rfl
theorem l3_z : (zc Try.prog 41).length = 1 := by kernel_rfl
theorem l3_b : Try.prog.bytesOf 41 = 24 := by kernel_rfl

/-- a list, what it must be, and what it reads as -/
abbrev E3 := Sl × Sl × List Value
def own3 (e : E3) : Asn := Hw.own 44 3 e.1 e.2.2
def wer3 (e : E3) : Asn := Hw.own 44 3 e.2.1 e.2.2
def kept0 (k : Nat) (pre : List Value) (E : List E3) : Asn := exs fun p : Sl × Sl => star [row k 31 (pre ++ [p.1.v, p.2.v]), Hw.own 41 1 p.1 (E.map fun e => e.1.v), Hw.own 41 1 p.2 (E.map fun e => e.2.1.v)]
theorem unex3 {α : Type} {L : List Asn} {A : α → Asn} {h : Hp} (hs : Sat (L ++ [exs A]) h) : ∃ a, Sat (L ++ [A a]) h := by
  obtain ⟨F, h1, h2⟩ := hs
  obtain ⟨a, ha⟩ := h1 L.length (exs A) (by simp)
  refine ⟨a, F, fun i B hi => ?_, by simpa using h2⟩
  by_cases e : i < L.length
  · rw [List.getElem?_append_left e] at hi
    exact h1 i B (by rw [List.getElem?_append_left e]; exact hi)
  · have := lt_of_get hi
    simp at this
    have : i = L.length := by omega
    subst this
    simp at hi; subst hi; exact ha
theorem ex3 {α : Type} {L : List Asn} {A : α → Asn} {h : Hp} (a : α) (hs : Sat (L ++ [A a]) h) : Sat (L ++ [exs A]) h := hs.imp 0 rfl fun F hF => ⟨a, hF⟩
theorem kept0_open {L : List Asn} {k : Nat} {pre : List Value} {E : List E3} {h : Hp} (hs : Sat (L ++ [kept0 k pre E]) h) :
    ∃ p q : Sl, Sat (L ++ [row k 31 (pre ++ [p.v, q.v]), Hw.own 41 1 p (E.map fun e => e.1.v), Hw.own 41 1 q (E.map fun e => e.2.1.v)]) h := by
  obtain ⟨⟨p, q⟩, hs⟩ := unex3 hs
  exact ⟨p, q, hs.open⟩
theorem kept0_shut {L : List Asn} {k : Nat} {pre : List Value} {E : List E3} {h : Hp} {p q : Sl} (hs : Sat (L ++ [row k 31 (pre ++ [p.v, q.v]), Hw.own 41 1 p (E.map fun e => e.1.v), Hw.own 41 1 q (E.map fun e => e.2.1.v)]) h) : Sat (L ++ [kept0 k pre E]) h :=
  ex3 (A := fun p : Sl × Sl => star [row k 31 (pre ++ [p.1.v, p.2.v]), Hw.own 41 1 p.1 (E.map fun e => e.1.v), Hw.own 41 1 p.2 (E.map fun e => e.2.1.v)]) (p, q) hs.close

/-! ### marks -/
def mr3 (i j : Nat) : List Value := [.int .i64 (-1000 - (i : Int)), .int .i64 (j : Int), .int .i64 0]
def mk3 (i n : Nat) : List Value := (List.range n).flatMap (mr3 i)
theorem mk3_succ (i n : Nat) : mk3 i (n + 1) = mk3 i n ++ mr3 i n := by simp [mk3, List.range_succ, List.flatMap_append]
theorem mk3_len (i n : Nat) : (mk3 i n).length = n * 3 := by
  induction n with
  | zero => rfl
  | succ n ih => rw [mk3_succ, List.length_append, ih]; simp [mr3]; omega
theorem mk3_get (i : Nat) {n j : Nat} (hj : j < n) : (mk3 i n)[j * 3]? = some (.int .i64 (-1000 - (i : Int))) ∧ (mk3 i n)[j * 3 + 1]? = some (.int .i64 (j : Int)) ∧ (mk3 i n)[j * 3 + 2]? = some (.int .i64 0) := by
  induction n with
  | zero => omega
  | succ n ih =>
    rw [mk3_succ]
    by_cases e : j < n
    · have := mk3_len i n
      rw [List.getElem?_append_left (by omega), List.getElem?_append_left (by omega), List.getElem?_append_left (by omega)]
      exact ih e
    · have : j = n := by omega
      subst this
      have := mk3_len i j
      rw [List.getElem?_append_right (by omega), List.getElem?_append_right (by omega), List.getElem?_append_right (by omega)]
      rw [show j * 3 - (mk3 i j).length = 0 by omega, show j * 3 + 1 - (mk3 i j).length = 1 by omega, show j * 3 + 2 - (mk3 i j).length = 2 by omega]
      exact ⟨rfl, rfl, rfl⟩
theorem mk3_take (i : Nat) {n m : Nat} (h : m ≤ n) : (mk3 i n).take (m * 3) = mk3 i m := by
  induction n with
  | zero => have : m = 0 := by omega
            subst this; rfl
  | succ n ih =>
    by_cases e : m ≤ n
    · rw [mk3_succ, List.take_append_of_le_length (by rw [mk3_len]; omega)]; exact ih e
    · have : m = n + 1 := by omega
      subst this
      rw [List.take_of_length_le (by rw [mk3_len]; omega)]
theorem mk3_set {i n : Nat} {vs : List Value} (h : (n + 1) * 3 ≤ vs.length) :
    (((mk3 i n ++ vs.drop (n * 3)).set (n * 3) (.int .i64 (-1000 - (i : Int)))).set (n * 3 + 1) (.int .i64 (n : Int))).set (n * 3 + 2) (.int .i64 0) = mk3 i (n + 1) ++ vs.drop ((n + 1) * 3) := by
  have hl := mk3_len i n
  rw [List.drop_eq_getElem_cons (show n * 3 < vs.length by omega), List.drop_eq_getElem_cons (show n * 3 + 1 < vs.length by omega), List.drop_eq_getElem_cons (show n * 3 + 1 + 1 < vs.length by omega)]
  rw [List.set_append_right _ _ (by omega), List.set_append_right _ _ (by omega), List.set_append_right _ _ (by omega)]
  rw [show n * 3 - (mk3 i n).length = 0 by omega, show n * 3 + 1 - (mk3 i n).length = 1 by omega, show n * 3 + 2 - (mk3 i n).length = 2 by omega]
  simp only [List.set_cons_zero, List.set_cons_succ]
  rw [mk3_succ, show (n + 1) * 3 = n * 3 + 1 + 1 + 1 by omega]
  simp [mr3]
theorem wmark {i : Nat} (hi : i ≤ 1099511627776) : IntKind.wrap .i64 ((-1000) - (i : Int)) = -1000 - (i : Int) := wi64i (by omega) (by omega)

/-- one list is written over with marks -/
theorem stands2 {L : List Asn} {kk : Option Addr} {gr s : Sl} {i : Nat} {vs : List Value} {h : Hp} {Ke : Hp → Prop} (hs : Sat (L ++ [Hw.own 44 3 s vs]) h) (hi : i ≤ 1099511627776) (hl : s.n ≤ 1099511627776)
    (hK : ∀ h', Sat (L ++ [Hw.own 44 3 s (mk3 i s.n)]) h' → Ke h') : N11_l2 kk gr i s 0 h Ke := by
  unfold N11_l2
  have sn := (hs.own 0 rfl).1
  refine loopP_inv (fun (x : Int) hc => ∃ n : Nat, x = n ∧ n ≤ s.n ∧ Sat (L ++ [Hw.own 44 3 s (mk3 i n ++ vs.drop (n * 3))]) hc) (fun x _ => s.n - x.toNat) ?_ ⟨0, rfl, Nat.zero_le _, by simpa [mk3] using hs⟩
  rintro x hc ⟨n, rfl, hn, hs⟩
  unfold N11_l2_B N11_l2_b
  by_cases hlt : n < s.n
  · have : decide ((n : Int) < ((s.n : Nat) : Int)) = true := by simp; omega
    rw [this, cond_true]
    refine idx_of (by omega) (by omega) ?_
    have hle : (n + 1) * 3 ≤ vs.length := by omega
    obtain ⟨b, hb, _⟩ := hs.cel 0 (k := n * 3) (v := (mk3 i n ++ vs.drop (n * 3))[n * 3]'(by rw [List.length_append, mk3_len, List.length_drop]; omega)) rfl (List.getElem?_eq_getElem _)
    simp only [hb, nn_some', Int.toNat_natCast]
    rw [wmark hi]
    refine hs.stO 0 rfl (by rw [List.length_append, mk3_len, List.length_drop]; omega) rfl hb ?_
    intro h1 hs1
    simp only [List.set_cons_zero, addadd] at hs1 ⊢
    refine hs1.stO 0 rfl (by rw [List.length_set, List.length_append, mk3_len, List.length_drop]; omega) rfl hb ?_
    intro h2 hs2
    simp only [List.set_cons_zero] at hs2
    refine hs2.stO 0 rfl (by rw [List.length_set, List.length_set, List.length_append, mk3_len, List.length_drop]; omega) rfl hb ?_
    intro h3 hs3
    simp only [List.set_cons_zero] at hs3
    rw [mk3_set hle] at hs3
    rw [nat_succ64 (by omega)]
    exact ⟨⟨n + 1, rfl, hlt, hs3⟩, by omega⟩
  · have : decide ((n : Int) < ((s.n : Nat) : Int)) = false := by simp; omega
    rw [this, cond_false]
    have : n = s.n := by omega
    subst this
    refine hK _ ?_
    rw [← sn, List.drop_length, List.append_nil] at hs; exact hs

/-- a list that is marked and grown: in its place, or beside it -/
def dn3 (i : Nat) (e : E3) (g : Sl) : Asn :=
  orA (star [pur (g.p = e.1.p ∧ g.c = e.1.c ∧ e.1.n ≤ e.1.c), Hw.own 44 3 g (mk3 i (e.1.n + 9))]) (star [Hw.own 44 3 e.1 (mk3 i e.1.n), Hw.own 44 3 g (mk3 i (e.1.n + 9))])
theorem star3_two {A B : Asn} {F : Nat → Prop} {h : Hp} (hh : (star [A, B]).on F h) : (∃ G, A.on G h) ∧ ∃ G, B.on G h := by
  obtain ⟨G, h1, _, _⟩ := hh
  exact ⟨⟨_, h1 0 A rfl⟩, ⟨_, h1 1 B rfl⟩⟩
/-- what it reads as -/
theorem dn3_reads {i : Nat} {e : E3} {g : Sl} {F : Nat → Prop} {h : Hp} (hd : (dn3 i e g).on F h) : g.n = e.1.n + 9 ∧ Rdc h e.1.p (mk3 i e.1.n) ∧ Rdc h g.p (mk3 i (e.1.n + 9)) := by
  rcases hd with hd | hd
  · obtain ⟨⟨_, hp⟩, ⟨_, hg⟩⟩ := star3_two hd
    have hl := hg.2.1
    rw [mk3_len] at hl
    refine ⟨by omega, ?_, hg.2.rdc⟩
    have := hg.2.rdc.take (e.1.n * 3)
    rw [mk3_take i (by omega), hp.2.1] at this; exact this
  · obtain ⟨⟨_, hp⟩, ⟨_, hg⟩⟩ := star3_two hd
    have hl := hg.2.1
    rw [mk3_len] at hl
    exact ⟨by omega, hp.2.rdc, hg.2.rdc⟩

theorem stands3 {L : List Asn} {kk : Option Addr} {gr s : Sl} {i : Nat} {vs : List Value} {h : Hp} {Ke : Sl → Hp → Prop} (hs : Sat (L ++ [Hw.own 44 3 s (mk3 i s.n)]) h) (hi : i ≤ 1099511627776) (hl : s.n ≤ 1099511627776) (w : Sl)
    (hK : ∀ g h', Sat (L ++ [dn3 i (s, w, vs) g]) h' → Ke g h') : N11_l3 kk gr i s 0 h Ke := by
  unfold N11_l3
  have so := hs.own 0 rfl
  have sc := so.2.1
  refine loopP_inv (fun (x : Sl × Int) hc => ∃ n : Nat, x.2 = n ∧ n ≤ 9 ∧ x.1.n = s.n + n ∧
      ((x.1.p = s.p ∧ x.1.c = s.c ∧ Sat (L ++ [Hw.own 44 3 x.1 (mk3 i (s.n + n))]) hc) ∨ Sat (L ++ [Hw.own 44 3 s (mk3 i s.n), Hw.own 44 3 x.1 (mk3 i (s.n + n))]) hc)) (fun x _ => 9 - x.2.toNat) ?_
    ⟨0, rfl, by omega, by first | omega | (dsimp only; omega), .inl ⟨rfl, rfl, hs⟩⟩
  rintro ⟨g, x⟩ hc ⟨n, hx, hn, hgn, hs⟩
  simp only at hx hgn hs
  subst hx
  unfold N11_l3_B N11_l3_b
  dsimp only
  by_cases hlt : n < 9
  · have : decide ((n : Int) < 9) = true := by simp; omega
    rw [this, cond_true]
    rw [wmark hi, nat_succ64 (by omega)]
    have eb : mk3 i (s.n + n) ++ [Value.int .i64 (-1000 - (i : Int)), .int .i64 ((g.n : Nat) : Int), .int .i64 0] = mk3 i (s.n + (n + 1)) := by
      rw [← Nat.add_assoc, mk3_succ, hgn]; rfl
    rcases hs with ⟨hp, hc2, hs⟩ | hs
    · refine hs.push2 0 rfl (k := 1) e3_a e3_z rfl (by intro v hv; simp at hv; rcases hv with rfl | rfl | rfl <;> rfl) (by rw [e3_b]; omega) ?_ ?_
      · intro hle h' hs'
        rw [eb] at hs'
        exact ⟨⟨n + 1, rfl, hlt, by first | omega | (dsimp only; omega), .inl ⟨hp, hc2, hs'⟩⟩, by first | omega | (dsimp only; omega)⟩
      · intro s' h' hn' hs'
        rw [eb] at hs'
        refine ⟨⟨n + 1, rfl, hlt, by first | omega | (dsimp only; omega), .inr ?_⟩, by first | omega | (dsimp only; omega)⟩
        refine hs'.imp 0 rfl ?_
        rintro F ⟨f1, f2⟩
        have fcut := f2.cut (k := s.n) (by omega)
        rw [hp, hc2] at fcut
        refine ⟨fun x => by rw [← hp]; exact f1 x, ?_⟩
        have es : (⟨s.p, s.n, s.c⟩ : Sl) = s := by cases s; rfl
        rw [es, mk3_take i (by omega)] at fcut
        exact fcut
    · refine hs.push 1 rfl (k := 1) e3_a e3_z rfl (by intro v hv; simp at hv; rcases hv with rfl | rfl | rfl <;> rfl) (by rw [e3_b]; omega) ?_
      intro s' h' hs' hn'
      rw [eb] at hs'
      exact ⟨⟨n + 1, rfl, hlt, by first | omega | (dsimp only; omega), .inr hs'⟩, by first | omega | (dsimp only; omega)⟩
  · have : decide ((n : Int) < 9) = false := by simp; omega
    rw [this, cond_false]
    have : n = 9 := by omega
    subst this
    refine hK g hc ?_
    rcases hs with ⟨hp, hc2, hs⟩ | hs
    · have h1 : Sat (L ++ [star [pur (g.p = s.p ∧ g.c = s.c ∧ s.n ≤ s.c), Hw.own 44 3 g (mk3 i (s.n + 9))]]) hc := by
        refine hs.imp 0 rfl fun F hF => ?_
        refine ⟨fun j x => if j = 1 then F x else False, ?_, ?_, ?_⟩
        · intro j A hj
          match j, hj with
          | 0, hj => simp at hj; subst hj; exact ⟨fun x hx => by simp at hx, hp, hc2, sc⟩
          | 1, hj => simp at hj; subst hj; simpa using hF
          | j + 2, hj => simp at hj
        · intro j k x hj hk h1 h2
          simp at h1 h2; omega
        · intro x; constructor
          · intro hx; exact ⟨1, by simp, by simpa using hx⟩
          · rintro ⟨j, _, hx⟩; simp at hx; exact hx.2
      exact h1.imp 0 rfl fun F hF => .inl hF
    · exact hs.close.imp 0 rfl fun F hF => .inr hF

/-- the lists, of which some are done -/
def its3 (E : List E3) (G : List Sl) : List Asn := E.mapIdx fun j e => match G[j]? with
  | some g => dn3 j e g
  | none => own3 e
theorem its3_get {E : List E3} {G : List Sl} {j : Nat} {e : E3} (hj : E[j]? = some e) : (its3 E G)[j]? = some (match G[j]? with | some g => dn3 j e g | none => own3 e) := by
  simp [its3, List.getElem?_mapIdx, hj]
theorem its3_len (E : List E3) (G : List Sl) : (its3 E G).length = E.length := by simp [its3]
theorem its3_nil (E : List E3) : its3 E [] = E.map own3 := by
  apply List.ext_getElem?
  intro j
  simp [its3, List.getElem?_mapIdx]
theorem its3_set {E : List E3} {G : List Sl} {e : E3} {g : Sl} (he : E[G.length]? = some e) : (its3 E G).set G.length (dn3 G.length e g) = its3 E (G ++ [g]) := by
  apply List.ext_getElem?
  intro j
  have hl := lt_of_get he
  by_cases hj : j = G.length
  · subst hj
    rw [List.getElem?_set_self (by rw [its3_len]; exact hl), its3_get he]
    simp
  · rw [List.getElem?_set_ne (fun e => hj e.symm)]
    cases hE : E[j]? with
    | none => simp [its3, List.getElem?_mapIdx, hE]
    | some e' =>
      rw [its3_get hE, its3_get hE]
      congr 1
      by_cases h2 : j < G.length
      · rw [List.getElem?_append_left h2]
      · rw [List.getElem?_eq_none (by omega), List.getElem?_eq_none (by simp; omega)]

theorem stands_walk {L : List Asn} {k : Nat} {E : List E3} {h : Hp} {Ke : Hp → Prop} {Kr : Bool → Hp → Prop} (hs : Sat (L ++ [kept0 k [] E, star (E.map own3), star (E.map wer3)]) h) (hE : E.length ≤ 1099511627776) (hl : ∀ e ∈ E, e.1.n ≤ 1099511627776)
    (hsame : ∀ e ∈ E, ∀ h (K : Bool → Hp → Prop), Own h 44 3 e.1 e.2.2 → Own h 44 3 e.2.1 e.2.2 → (∀ h', Ext none' h h' → K true h') → C18 e.1 e.2.1 h K)
    (hK : ∀ h', Sat (L ++ [kept0 k [] E]) h' → Ke h') :
    N11_l0 (some (bk k)) 0 h (fun h0 => N11_l1 (some (bk k)) ⟨none, 0, 0⟩ 0 h0 (fun s0 h1 => N11_l4 (some (bk k)) s0 0 h1 (fun h2 => Ke h2) Kr)) Kr := by
  have hs0 : Sat ((L ++ [star (E.map own3), star (E.map wer3)]) ++ [kept0 k [] E]) h := by
    have := hs.sel [1, 2, 0] (M' := [star (E.map own3), star (E.map wer3), kept0 k [] E]) (by decide) rfl
    simpa using this
  obtain ⟨p, q, hs0⟩ := kept0_open hs0
  have hs1 : Sat (L ++ [row k 31 ([] ++ [p.v, q.v]), Hw.own 41 1 p (E.map fun e => e.1.v), Hw.own 41 1 q (E.map fun e => e.2.1.v), star (E.map own3), star (E.map wer3)]) h := by
    rw [List.append_assoc] at hs0
    exact hs0.sel [2, 3, 4, 0, 1] (by decide) rfl
  clear hs hs0
  have pn : p.n = E.length := by have := (hs1.own 1 rfl).1; simpa using this.symm
  have qn : q.n = E.length := by have := (hs1.own 2 rfl).1; simpa using this.symm
  -- the first loop: they read as they did
  unfold N11_l0
  refine loopP_inv (fun (x : Int) hc => Sat (L ++ [row k 31 ([] ++ [p.v, q.v]), Hw.own 41 1 p (E.map fun e => e.1.v), Hw.own 41 1 q (E.map fun e => e.2.1.v), star (E.map own3), star (E.map wer3)]) hc ∧ ∃ i : Nat, x = i ∧ i ≤ E.length) (fun x _ => E.length - x.toNat) ?_ ⟨hs1, 0, rfl, Nat.zero_le _⟩
  clear hs1
  rintro x hc ⟨hs1, i, rfl, hi⟩
  unfold N11_l0_B N11_l0_b
  have hk := hs1.blk 0 rfl
  have c0 : cell hc (bk k) = some p.v := by rw [hk.cell]; rfl
  have c1 : cell hc ⟨k, 1, none⟩ = some q.v := by rw [hk.cell]; rfl
  simp only [nn_some', add_bk, c0, xL_v]
  by_cases hlt : i < E.length
  · have : decide ((i : Int) < ((p.n : Nat) : Int)) = true := by simp; omega
    rw [this, cond_true]
    have he : E[i]? = some E[i] := List.getElem?_eq_getElem hlt
    obtain ⟨b, hb, hcell⟩ := hs1.cel 1 (k := i) (v := E[i].1.v) rfl (by rw [List.getElem?_map, he]; rfl)
    obtain ⟨b2, hb2, hcell2⟩ := hs1.cel 2 (k := i) (v := E[i].2.1.v) rfl (by rw [List.getElem?_map, he]; rfl)
    refine idx_of (by omega) (by omega) ?_
    rw [hb]
    simp only [nn_some', add_bk, Int.toNat_natCast, Nat.mul_one, hcell, xL_v, c1]
    refine idx_of (by omega) (by omega) ?_
    rw [hb2]
    simp only [nn_some', add_bk, Int.toNat_natCast, Nat.mul_one, hcell2, xL_v]
    have o1 : Own hc 44 3 E[i].1 E[i].2.2 := by
      have h1 : Sat ((L ++ [row k 31 ([] ++ [p.v, q.v]), Hw.own 41 1 p (E.map fun e => e.1.v), Hw.own 41 1 q (E.map fun e => e.2.1.v), star (E.map wer3)]) ++ [star (E.map own3)]) hc := by
        have := hs1.sel [0, 1, 2, 4, 3] (M' := [_, _, _, _, _]) (by decide) rfl
        simpa using this
      exact h1.open.own i (by rw [List.getElem?_map, he]; rfl)
    have o2 : Own hc 44 3 E[i].2.1 E[i].2.2 := by
      have h1 : Sat ((L ++ [row k 31 ([] ++ [p.v, q.v]), Hw.own 41 1 p (E.map fun e => e.1.v), Hw.own 41 1 q (E.map fun e => e.2.1.v), star (E.map own3)]) ++ [star (E.map wer3)]) hc := by simpa using hs1
      exact h1.open.own i (by rw [List.getElem?_map, he]; rfl)
    refine hsame _ (List.getElem_mem hlt) _ _ o1 o2 ?_
    intro h' he'
    simp only [Bool.not_true, cond_false]
    rw [nat_succ64 (by omega)]
    exact ⟨⟨hs1.ext he', i + 1, rfl, hlt⟩, by omega⟩
  · have : decide ((i : Int) < ((p.n : Nat) : Int)) = false := by simp; omega
    rw [this, cond_false]
    clear this hlt hi
    -- the second loop: marked and grown
    have hs5 : Sat (L ++ [row k 31 ([] ++ [p.v, q.v]), Hw.own 41 1 p (E.map fun e => e.1.v), Hw.own 41 1 q (E.map fun e => e.2.1.v), Hw.own 41 1 ⟨none, 0, 0⟩ [], star (its3 E [])]) hc := by
      rw [its3_nil]
      exact (Sat.addNil 41 1 hs1).sel [0, 1, 2, 5, 3] (by decide) rfl
    unfold N11_l1
    refine loopP_inv (fun (x : Sl × Int) hd => ∃ G : List Sl, x.2 = (G.length : Int) ∧ G.length ≤ E.length ∧ Sat (L ++ [row k 31 ([] ++ [p.v, q.v]), Hw.own 41 1 p (E.map fun e => e.1.v), Hw.own 41 1 q (E.map fun e => e.2.1.v), Hw.own 41 1 x.1 (G.map Sl.v), star (its3 E G)]) hd) (fun x _ => E.length - x.2.toNat) ?_
      ⟨[], rfl, Nat.zero_le _, hs5⟩
    clear hs1 hs5 c0 c1 hk
    rintro ⟨gr, x⟩ hd ⟨G, hx, hG, hs⟩
    simp only at hx hs
    subst hx
    have hk := hs.blk 0 rfl
    have c0 : cell hd (bk k) = some p.v := by rw [hk.cell]; rfl
    unfold N11_l1_B N11_l1_b
    simp only [nn_some', add_bk, c0, xL_v]
    have grn : gr.n = G.length := by have := (hs.own 3 rfl).1; simpa using this.symm
    by_cases hlt : G.length < E.length
    · have : decide ((G.length : Int) < ((p.n : Nat) : Int)) = true := by simp; omega
      rw [this, cond_true]
      have he : E[G.length]? = some E[G.length] := List.getElem?_eq_getElem hlt
      generalize hee : E[G.length] = e at he
      obtain ⟨b, hb, hcell⟩ := hs.cel 1 (k := G.length) (v := e.1.v) rfl (by rw [List.getElem?_map, he]; rfl)
      refine idx_of (by omega) (by omega) ?_
      rw [hb]
      simp only [nn_some', add_bk, Int.toNat_natCast, Nat.mul_one, hcell, xL_v]
      have hel := hl e (List.mem_of_getElem? he)
      have hit : (its3 E G)[G.length]? = some (own3 e) := by rw [its3_get he]; simp
      have h0 : Sat ((L ++ [row k 31 ([] ++ [p.v, q.v]), Hw.own 41 1 p (E.map fun e => e.1.v), Hw.own 41 1 q (E.map fun e => e.2.1.v), Hw.own 41 1 gr (G.map Sl.v)]) ++ [star (its3 E G)]) hd := by simpa using hs
      have h1 : Sat ((L ++ [row k 31 ([] ++ [p.v, q.v]), Hw.own 41 1 p (E.map fun e => e.1.v), Hw.own 41 1 q (E.map fun e => e.2.1.v), Hw.own 41 1 gr (G.map Sl.v)] ++ [star ((its3 E G).eraseIdx G.length)]) ++ [Hw.own 44 3 e.1 e.2.2]) hd := by
        have := h0.out G.length hit
        simpa [own3] using this
      refine stands2 h1 (by omega) hel ?_
      intro h2 hs2
      refine stands3 (vs := e.2.2) hs2 (by omega) hel e.2.1 ?_
      intro g h3 hs3
      have h4 : Sat ((L ++ [row k 31 ([] ++ [p.v, q.v]), Hw.own 41 1 p (E.map fun e => e.1.v), Hw.own 41 1 q (E.map fun e => e.2.1.v), Hw.own 41 1 gr (G.map Sl.v)]) ++ [star ((its3 E G).set G.length (dn3 G.length (e.1, e.2.1, e.2.2) g))]) h3 := by
        refine Sat.inn G.length ?_ (lt_of_get hit)
        simpa using hs3
      have eit : (its3 E G).set G.length (dn3 G.length (e.1, e.2.1, e.2.2) g) = its3 E (G ++ [g]) := its3_set he
      rw [eit] at h4
      have h5 : Sat (L ++ [row k 31 ([] ++ [p.v, q.v]), Hw.own 41 1 p (E.map fun e => e.1.v), Hw.own 41 1 q (E.map fun e => e.2.1.v), Hw.own 41 1 gr (G.map Sl.v), star (its3 E (G ++ [g]))]) h3 := by simpa using h4
      refine h5.push 3 rfl (k := 1) l3_a l3_z rfl (by intro v hv; simp at hv; subst hv; rfl) (by rw [l3_b]; omega) ?_
      intro gr' h6 hs6 hn6
      rw [nat_succ64 (by omega)]
      refine ⟨⟨G ++ [g], by simp, by simp; omega, ?_⟩, by first | omega | (dsimp only; omega)⟩
      have eg : (Value.slice g.p g.n g.c) = g.v := rfl
      rw [eg] at hs6
      simpa using hs6
    · have : decide ((G.length : Int) < ((p.n : Nat) : Int)) = false := by simp; omega
      rw [this, cond_false]
      have hGE : G.length = E.length := by omega
      clear this hlt
      -- the last loops: they read so
      unfold N11_l4
      refine loopP_inv (fun (x : Int) hf => Sat (L ++ [row k 31 ([] ++ [p.v, q.v]), Hw.own 41 1 p (E.map fun e => e.1.v), Hw.own 41 1 q (E.map fun e => e.2.1.v), Hw.own 41 1 gr (G.map Sl.v), star (its3 E G)]) hf ∧ ∃ i : Nat, x = i ∧ i ≤ E.length) (fun x _ => E.length - x.toNat) ?_ ⟨hs, 0, rfl, Nat.zero_le _⟩
      clear hk c0 hs
      rintro x hf ⟨hs, i, rfl, hi⟩
      have hk := hs.blk 0 rfl
      have c0 : cell hf (bk k) = some p.v := by rw [hk.cell]; rfl
      unfold N11_l4_B N11_l4_b
      by_cases hlt : i < E.length
      · have : decide ((i : Int) < ((gr.n : Nat) : Int)) = true := by simp; omega
        rw [this, cond_true]
        simp only [nn_some', add_bk, c0, xL_v]
        have he : E[i]? = some E[i] := List.getElem?_eq_getElem hlt
        have hg : G[i]? = some (G[i]'(by omega)) := List.getElem?_eq_getElem (by omega)
        generalize E[i] = e at he
        generalize (G[i]'(by omega)) = g at hg
        have hel := hl e (List.mem_of_getElem? he)
        obtain ⟨b, hb, hcell⟩ := hs.cel 1 (k := i) (v := e.1.v) rfl (by rw [List.getElem?_map, he]; rfl)
        refine idx_of (by omega) (by omega) ?_
        rw [hb]
        simp only [nn_some', add_bk, Int.toNat_natCast, Nat.mul_one, hcell, xL_v]
        clear hcell
        unfold N11_l5
        refine loopP_inv (fun (y : Int) hg => Sat (L ++ [row k 31 ([] ++ [p.v, q.v]), Hw.own 41 1 p (E.map fun e => e.1.v), Hw.own 41 1 q (E.map fun e => e.2.1.v), Hw.own 41 1 gr (G.map Sl.v), star (its3 E G)]) hg ∧ ∃ n : Nat, y = n ∧ n ≤ e.1.n + 9) (fun y _ => e.1.n + 9 - y.toNat) ?_ ⟨hs, 0, rfl, Nat.zero_le _⟩
        clear hs hk c0
        rintro y hf2 ⟨hs, n, rfl, hn⟩
        have reads : ∀ hh, Sat (L ++ [row k 31 ([] ++ [p.v, q.v]), Hw.own 41 1 p (E.map fun e => e.1.v), Hw.own 41 1 q (E.map fun e => e.2.1.v), Hw.own 41 1 gr (G.map Sl.v), star (its3 E G)]) hh → g.n = e.1.n + 9 ∧ Rdc hh e.1.p (mk3 i e.1.n) ∧ Rdc hh g.p (mk3 i (e.1.n + 9)) := by
          intro hh hs
          have h0 : Sat ((L ++ [row k 31 ([] ++ [p.v, q.v]), Hw.own 41 1 p (E.map fun e => e.1.v), Hw.own 41 1 q (E.map fun e => e.2.1.v), Hw.own 41 1 gr (G.map Sl.v)]) ++ [star (its3 E G)]) hh := by simpa using hs
          obtain ⟨F, hF⟩ := h0.open.get' i (A := dn3 i e g) (by rw [its3_get he, hg])
          exact dn3_reads hF
        obtain ⟨gn, r1, r2⟩ := reads _ hs
        obtain ⟨b2, hb2, hcell2⟩ := hs.cel 3 (k := i) (v := g.v) rfl (by rw [List.getElem?_map, hg]; rfl)
        unfold N11_l5_B N11_l5_b
        refine idx_of (by omega) (by omega) ?_
        rw [hb2]
        simp only [nn_some', add_bk, Int.toNat_natCast, Nat.mul_one, hcell2, xL_v]
        by_cases hnl : n < e.1.n + 9
        · have : decide ((n : Int) < ((g.n : Nat) : Int)) = true := by simp; omega
          rw [this, cond_true]
          rw [wmark (by omega)]
          intro b0 e0
          have hs1 := hs.new e0 (.cells ⟨[.int .i64 0, .int .i64 0, .int .i64 0]⟩ 44 (0, 0))
          revert hs1
          change Sat (L ++ [_, _, _, _, _, row b0 44 [.int .i64 0, .int .i64 0, .int .i64 0]]) (upd hf2 b0 (.cells ⟨[.int .i64 0, .int .i64 0, .int .i64 0]⟩ 44 (0, 0))) → _
          generalize upd hf2 b0 _ = h1
          intro hs1
          refine hs1.st 5 rfl (by simp) rfl ?_
          intro h2 hs2
          refine hs2.st 5 rfl (by simp) rfl ?_
          intro h3 hs3
          refine hs3.st 5 rfl (by simp) rfl ?_
          intro h4 hs4
          have hs5 : Sat (L ++ [row k 31 ([] ++ [p.v, q.v]), Hw.own 41 1 p (E.map fun e => e.1.v), Hw.own 41 1 q (E.map fun e => e.2.1.v), Hw.own 41 1 gr (G.map Sl.v), star (its3 E G)]) h4 := hs4.sel [0, 1, 2, 3, 4] (by decide) rfl
          obtain ⟨_, r1, r2⟩ := reads _ hs5
          obtain ⟨b3, hb3, hcell3⟩ := hs5.cel 3 (k := i) (v := g.v) rfl (by rw [List.getElem?_map, hg]; rfl)
          rw [hb2] at hb3; cases hb3
          have hbb := hs4.blk 5 rfl
          have q0 : cell h4 (bk b0) = some (.int .i64 (-1000 - (i : Int))) := by rw [hbb.cell]; rfl
          have q1 : cell h4 ⟨b0, 1, none⟩ = some (.int .i64 (n : Int)) := by rw [hbb.cell]; rfl
          have q2 : cell h4 ⟨b0, 2, none⟩ = some (.int .i64 0) := by rw [hbb.cell]; rfl
          refine idx_of (by omega) (by omega) ?_
          simp only [hcell3, xL_v]
          refine idx_of (by omega) (by omega) ?_
          obtain ⟨ge0, ge1, ge2⟩ := mk3_get i hnl
          obtain ⟨ga, hga, gc0⟩ := r2 _ _ ge0
          obtain ⟨_, hga1, gc1⟩ := r2 _ _ ge1
          rw [hga] at hga1; cases hga1
          obtain ⟨_, hga2, gc2⟩ := r2 _ _ ge2
          rw [hga] at hga2; cases hga2
          rw [hga]
          simp only [nn_some', addadd, gc0, gc1, gc2, xI_some, q0, q1, q2, beq_self_eq_true, Bool.and_self, Bool.not_true, cond_false]
          have nx : ((Sat (L ++ [row k 31 ([] ++ [p.v, q.v]), Hw.own 41 1 p (E.map fun e => e.1.v), Hw.own 41 1 q (E.map fun e => e.2.1.v), Hw.own 41 1 gr (G.map Sl.v), star (its3 E G)]) h4 ∧ ∃ m : Nat, IntKind.wrap .i64 ((n : Int) + 1) = (m : Int) ∧ m ≤ e.1.n + 9) ∧ e.1.n + 9 - (IntKind.wrap .i64 ((n : Int) + 1)).toNat < e.1.n + 9 - n) := by
            rw [nat_succ64 (by omega)]
            exact ⟨⟨hs5, n + 1, rfl, hnl⟩, by omega⟩
          by_cases hn2 : n < e.1.n
          · have : decide ((n : Int) < ((e.1.n : Nat) : Int)) = true := by simp; omega
            rw [this, cond_true]
            obtain ⟨ee0, ee1, ee2⟩ := mk3_get i hn2
            obtain ⟨ea, hea, ec0⟩ := r1 _ _ ee0
            obtain ⟨_, hea1, ec1⟩ := r1 _ _ ee1
            rw [hea] at hea1; cases hea1
            obtain ⟨_, hea2, ec2⟩ := r1 _ _ ee2
            rw [hea] at hea2; cases hea2
            refine idx_of (by omega) (by omega) ?_
            have hbe : some (bk b) = e.1.p ∨ True := .inr trivial
            rw [hea]
            simp only [nn_some', addadd, ec0, ec1, ec2, xI_some, q0, q1, q2, beq_self_eq_true, Bool.and_self, Bool.not_true, cond_false]
            exact nx
          · have : decide ((n : Int) < ((e.1.n : Nat) : Int)) = false := by simp; omega
            rw [this, cond_false]
            exact nx
        · have : decide ((n : Int) < ((g.n : Nat) : Int)) = false := by simp; omega
          rw [this, cond_false]
          rw [nat_succ64 (by omega)]
          exact ⟨⟨hs, i + 1, rfl, hlt⟩, by omega⟩
      · have : decide ((i : Int) < ((gr.n : Nat) : Int)) = false := by simp; omega
        rw [this, cond_false]
        refine hK _ (kept0_shut (p := p) (q := q) ?_)
        exact hs.sel [0, 1, 2] (by decide) rfl

/-- a list that came out, and what it must be, are taken -/
theorem take3 {L : List Asn} {k : Nat} {E0 E : List E3} {e : E3} {h : Hp} {Ke : Hp → Prop} (hs : Sat (L ++ [kept0 k [] (E0 ++ E), star (E.map own3), star (E.map wer3), own3 e, wer3 e]) h) (hE : (E0 ++ E).length ≤ 1099511627776) 
    (hK : ∀ h', Sat (L ++ [kept0 k [] (E0 ++ (E ++ [e])), star ((E ++ [e]).map own3), star ((E ++ [e]).map wer3)]) h' → Ke h') :
    nn (some (bk k)) fun a0 =>
  xL (cell h a0) fun s0 =>
  nw h (.cells ⟨[.slice e.1.p e.1.n e.1.c]⟩ 41) fun b0 h0 =>
  apK Try.prog 41 s0 (.slice (some (bk b0)) 1 1) h0 fun s1 h1 =>
  nn (some (bk k)) fun a1 =>
  st h1 a1 (.slice s1.p s1.n s1.c) fun h2 =>
  nn (some (bk k)) fun a2 =>
  xL (cell h2 (a2.add 1)) fun s2 =>
  nw h2 (.cells ⟨[.slice e.2.1.p e.2.1.n e.2.1.c]⟩ 41) fun b1 h3 =>
  apK Try.prog 41 s2 (.slice (some (bk b1)) 1 1) h3 fun s3 h4 =>
  nn (some (bk k)) fun a3 =>
  st h4 (a3.add 1) (.slice s3.p s3.n s3.c) fun h5 =>
  Ke h5 := by
  have hs0 : Sat ((L ++ [star (E.map own3), own3 e, star (E.map wer3), wer3 e]) ++ [kept0 k [] (E0 ++ E)]) h := by
    have := hs.sel [1, 3, 2, 4, 0] (M' := [star (E.map own3), own3 e, star (E.map wer3), wer3 e, kept0 k [] (E0 ++ E)]) (by decide) rfl
    simpa using this
  obtain ⟨p, q, hs0⟩ := kept0_open hs0
  have hs1 : Sat (L ++ [row k 31 ([] ++ [p.v, q.v]), Hw.own 41 1 p ((E0 ++ E).map fun e => e.1.v), Hw.own 41 1 q ((E0 ++ E).map fun e => e.2.1.v), star (E.map own3), own3 e, star (E.map wer3), wer3 e]) h := by
    rw [List.append_assoc] at hs0
    exact hs0.sel [4, 5, 6, 0, 1, 2, 3] (by decide) rfl
  have pn : p.n = (E0 ++ E).length := by have := (hs1.own 1 rfl).1; rw [List.length_map] at this; omega
  have qn : q.n = (E0 ++ E).length := by have := (hs1.own 2 rfl).1; rw [List.length_map] at this; omega
  simp only [nn_some', add_bk]
  refine hs1.lL 0 rfl rfl ?_
  refine hs1.push 1 rfl (k := 1) l3_a l3_z rfl (by intro v hv; simp at hv; subst hv; rfl) (by rw [l3_b]; show (p.n + 1) * 2 * 24 ≤ _; omega) ?_
  intro p' h1 hs2 pn'
  refine hs2.st 0 rfl (by simp) rfl ?_
  intro h2 hs3
  refine hs3.lL 0 rfl rfl ?_
  refine hs3.push 2 rfl (k := 1) l3_a l3_z rfl (by intro v hv; simp at hv; subst hv; rfl) (by rw [l3_b]; show (q.n + 1) * 2 * 24 ≤ _; omega) ?_
  intro q' h3 hs4 qn'
  refine hs4.st 0 rfl (by simp) rfl ?_
  intro h4 hs5
  refine hK _ ?_
  have g1 : Sat (L ++ [row k 31 ([] ++ [p'.v, q'.v]), Hw.own 41 1 p' ((E0 ++ (E ++ [e])).map fun e => e.1.v), Hw.own 41 1 q' ((E0 ++ (E ++ [e])).map fun e => e.2.1.v), star (E.map own3), own3 e, star (E.map wer3), wer3 e]) h4 := by
    rw [← List.append_assoc E0 E [e], List.map_append (l₁ := E0 ++ E), List.map_append (l₁ := E0 ++ E)]; exact hs5
  have g2 : Sat ((L ++ [row k 31 ([] ++ [p'.v, q'.v]), Hw.own 41 1 p' ((E0 ++ (E ++ [e])).map fun e => e.1.v), Hw.own 41 1 q' ((E0 ++ (E ++ [e])).map fun e => e.2.1.v), star (E.map own3), own3 e]) ++ [star (E.map wer3), wer3 e]) h4 := by simpa using g1
  have g3 := g2.into
  have g4 : Sat ((L ++ [row k 31 ([] ++ [p'.v, q'.v]), Hw.own 41 1 p' ((E0 ++ (E ++ [e])).map fun e => e.1.v), Hw.own 41 1 q' ((E0 ++ (E ++ [e])).map fun e => e.2.1.v), star ((E ++ [e]).map wer3)]) ++ [star (E.map own3), own3 e]) h4 := by
    have g4 : Sat (L ++ [row k 31 ([] ++ [p'.v, q'.v]), Hw.own 41 1 p' ((E0 ++ (E ++ [e])).map fun e => e.1.v), Hw.own 41 1 q' ((E0 ++ (E ++ [e])).map fun e => e.2.1.v), star (E.map own3), own3 e, star ((E ++ [e]).map wer3)]) h4 := by simpa using g3
    have := g4.sel [0, 1, 2, 5, 3, 4] (M' := [_, _, _, _, _, _]) (by decide) rfl
    simpa using this
  have g5 := g4.into
  have g6 : Sat ((L ++ [star ((E ++ [e]).map own3), star ((E ++ [e]).map wer3)]) ++ [row k 31 ([] ++ [p'.v, q'.v]), Hw.own 41 1 p' ((E0 ++ (E ++ [e])).map fun e => e.1.v), Hw.own 41 1 q' ((E0 ++ (E ++ [e])).map fun e => e.2.1.v)]) h4 := by
    have g6 : Sat (L ++ [row k 31 ([] ++ [p'.v, q'.v]), Hw.own 41 1 p' ((E0 ++ (E ++ [e])).map fun e => e.1.v), Hw.own 41 1 q' ((E0 ++ (E ++ [e])).map fun e => e.2.1.v), star ((E ++ [e]).map wer3), star ((E ++ [e]).map own3)]) h4 := by simpa using g5
    have := g6.sel [4, 3, 0, 1, 2] (M' := [_, _, _, _, _]) (by decide) rfl
    simpa using this
  have g7 := kept0_shut g6
  have g8 : Sat (L ++ [star ((E ++ [e]).map own3), star ((E ++ [e]).map wer3), kept0 k [] (E0 ++ (E ++ [e]))]) h4 := by simpa using g7
  exact g8.sel [2, 0, 1] (by decide) rfl

end Go.Proofs.Ytfnlldbaplakoaa

set_option linter.unusedVariables false
set_option maxRecDepth 100000
namespace Go.Proofs.Ytfnlldbaplakoaa
open Go Go.Hw
/-! ### 46 cmp.isNaN[int] -/
noncomputable def B46 : Code := match Try.f46.body with | some c => c | none => .skip
def N46 (x0 : Int) (h : Hp) (K : Bool → Hp → Prop) : Prop :=
  K (x0 != x0) h
theorem S46 {x0 : Int} {h : Hp} {K : Bool → Hp → Prop} (hn : N46 x0 h K) : C46 x0 h K := by
  refine calls_of_D Try.func46 (c := B46) rfl (by kernel_rfl) ?_
  refine den_sound hE hm _ .leaf _ _ _ (annOk_leaf) ?_
  refine cast ?_ hn
  kernel_rfl
end Go.Proofs.Ytfnlldbaplakoaa

set_option linter.unusedVariables false
set_option maxRecDepth 100000
namespace Go.Proofs.Ytfnlldbaplakoaa
open Go Go.Hw
/-! ### 42 cmp.Compare[int] -/
noncomputable def B42 : Code := match Try.f42.body with | some c => c | none => .skip
def N42 (x0 : Int) (x1 : Int) (h : Hp) (K : Int → Hp → Prop) : Prop :=
  C46 x0 h fun b0 h0 =>
  C46 x1 h0 fun b1 h1 =>
  bif b0 then
    bif b1 then
      K 0 h1
    else
      K (-1) h1
  else
    bif b1 then
      K 1 h1
    else
      bif (decide (x0 < x1)) then
        K (-1) h1
      else
        bif (decide (x0 > x1)) then
          K 1 h1
        else
          K 0 h1
theorem S42 {x0 : Int} {x1 : Int} {h : Hp} {K : Int → Hp → Prop} (hn : N42 x0 x1 h K) : C42 x0 x1 h K := by
  refine calls_of_D Try.func42 (c := B42) rfl (by kernel_rfl) ?_
  refine den_sound hE hm _ .leaf _ _ _ (annOk_leaf) ?_
  refine cast ?_ hn
  kernel_rfl
end Go.Proofs.Ytfnlldbaplakoaa

set_option linter.unusedVariables false
set_option maxRecDepth 100000
namespace Go.Proofs.Ytfnlldbaplakoaa
open Go Go.Hw
/-! ### 41 cmp.Or[int] -/
noncomputable def B41 : Code := match Try.f41.body with | some c => c | none => .skip
def N41_l0_b (x3_zero : Int) (x6 : Sl) (x7 : Int) (Φ : Int → Hp → Prop) (x8 : Int) (h : Hp) (K_e0 : Hp → Prop) (K_ret : Int → Hp → Prop) : Prop :=
  bif (decide (x8 < x7)) then
    idx x8 x6.n <|
    nn x6.p fun a0 =>
    xI .i64 (cell h (a0.add (x8.toNat * 1))) fun n0 =>
    bif (n0 != x3_zero) then
      K_ret n0 h
    else
      Φ (IntKind.wrap .i64 (x8 + 1)) h
  else
    K_e0 h
def N41_l0_B (x3_zero : Int) (x6 : Sl) (x7 : Int) (K_e0 : Hp → Prop) (K_ret : Int → Hp → Prop) (s : Sg.T [(8, .c (.int .i64))]) (h : Hp) (Φ : Sg.T [(8, .c (.int .i64))] → Hp → Prop) : Prop :=
  N41_l0_b x3_zero x6 x7 (fun x8 h => Φ x8 h) s h K_e0 K_ret
def N41_l0 (x3_zero : Int) (x6 : Sl) (x7 : Int) (x8 : Int) (h : Hp) (K_e0 : Hp → Prop) (K_ret : Int → Hp → Prop) : Prop :=
  loopP (N41_l0_B x3_zero x6 x7 K_e0 K_ret) x8 h
noncomputable def N41_l0_t : Xf := loopT [(3, .c (.int .i64)), (6, .c (.slice)), (7, .c (.int .i64))] [(8, .c (.int .i64))] (codeAt B41 [1, 1, 0, 1, 0, 0]) fun F Q => N41_l0_B F.1 F.2.1 F.2.2 (fun h' => Q (.exit 0) (Sg.env [] ()) h') (fun o0 h' => Q .ret (Sg.env [(2, .c (.int .i64))] o0) h')
theorem N41_l0_ok : Sound Try.prog Try.f41.ntmps N41_l0_t (codeAt B41 [1, 1, 0, 1, 0]) := by
  refine loop_sound (fun e => match e with | .exit 0 => [] | .ret => [2] | _ => []) (by kernel_rfl) ?_
  intro F Q s h Φ hb
  refine den_sound hE hm _ .leaf _ _ _ (annOk_leaf) ?_
  refine cast ?_ hb
  kernel_rfl
def N41 (x0 : Sl) (h : Hp) (K : Int → Hp → Prop) : Prop :=
  N41_l0 0 x0 ((x0.n : Nat) : Int) 0 h
    (fun h0 =>
      K 0 h0)
    (fun n0 h1 =>
      K n0 h1)
theorem S41 {x0 : Sl} {h : Hp} {K : Int → Hp → Prop} (hn : N41 x0 h K) : C41 x0 h K := by
  refine calls_of_D Try.func41 (c := B41) rfl (by kernel_rfl) ?_
  refine den_sound hE hm _ (.two .leaf (.two .leaf (.two (.two .leaf (.one (.xf N41_l0_t))) .leaf))) _ _ _ (⟨annOk_leaf, ⟨annOk_leaf, ⟨⟨annOk_leaf, N41_l0_ok⟩, annOk_leaf⟩⟩⟩) ?_
  refine cast ?_ hn
  kernel_rfl
end Go.Proofs.Ytfnlldbaplakoaa

set_option linter.unusedVariables false
set_option maxRecDepth 100000
namespace Go.Proofs.Ytfnlldbaplakoaa
open Go Go.Hw
/-! ### 40 (*slipway/wheel.Wheel).soonest$1 -/
noncomputable def B40 : Code := match Try.f40.body with | some c => c | none => .skip
def N40 (x0 : Option Addr) (x1 : Option Addr) (h : Hp) (K : Int → Hp → Prop) : Prop :=
  nn x0 fun a0 =>
  xI .i64 (cell h a0) fun n0 =>
  xI .i64 (cell h (a0.add 1)) fun n1 =>
  xI .i64 (cell h (a0.add 2)) fun n2 =>
  nn x1 fun a1 =>
  xI .i64 (cell h a1) fun n3 =>
  xI .i64 (cell h (a1.add 1)) fun n4 =>
  xI .i64 (cell h (a1.add 2)) fun n5 =>
  C32 n0 n1 n2 n3 n4 n5 h fun n6 h0 =>
  K n6 h0
theorem S40 {x0 : Option Addr} {x1 : Option Addr} {h : Hp} {K : Int → Hp → Prop} (hn : N40 x0 x1 h K) : C40 x0 x1 h K := by
  refine calls_of_D Try.func40 (c := B40) rfl (by kernel_rfl) ?_
  refine den_sound hE hm _ (.two .leaf (.two (.ord [0, 1, 2, 3, 4, 5, 6, 7, 8, 9]) .leaf)) _ _ _ (⟨annOk_leaf, ⟨trivial, annOk_leaf⟩⟩) ?_
  refine cast ?_ hn
  kernel_rfl
end Go.Proofs.Ytfnlldbaplakoaa

set_option linter.unusedVariables false
set_option maxRecDepth 100000
namespace Go.Proofs.Ytfnlldbaplakoaa
open Go Go.Hw
/-! ### 37 slipway/wheel.digit -/
noncomputable def B37 : Code := match Try.f37.body with | some c => c | none => .skip
def N37 (x0 : Int) (x1 : Int) (h : Hp) (K : Int → Hp → Prop) : Prop :=
  bif decide ((IntKind.wrap .i64 (6 * x1)) < 0) then False else
  K (IntKind.wrap .i64 (BitVec.ofInt 64 (Int.fdiv x0 (2 ^ (min (IntKind.wrap .i64 (6 * x1)).toNat 64))) &&& BitVec.ofInt 64 63).toNat) h
theorem S37 {x0 : Int} {x1 : Int} {h : Hp} {K : Int → Hp → Prop} (hn : N37 x0 x1 h K) : C37 x0 x1 h K := by
  refine calls_of_D Try.func37 (c := B37) rfl (by kernel_rfl) ?_
  refine den_sound hE hm _ .leaf _ _ _ (annOk_leaf) ?_
  refine cast ?_ hn
  kernel_rfl
end Go.Proofs.Ytfnlldbaplakoaa

set_option linter.unusedVariables false
set_option maxRecDepth 100000
namespace Go.Proofs.Ytfnlldbaplakoaa
open Go Go.Hw
/-! ### 35 (*slipway/wheel.Wheel).level -/
noncomputable def B35 : Code := match Try.f35.body with | some c => c | none => .skip
def N35_l0_b (x0_w : Option Addr) (x1_t : Int) (Φ : Int → Hp → Prop) (x5_k : Int) (h : Hp) (K_e0 : Hp → Prop) (K_ret : Int → Hp → Prop) : Prop :=
  bif (decide (x5_k > 0)) then
    nn x0_w fun a0 =>
    xI .i64 (cell h a0) fun n0 =>
    C37 x1_t x5_k h fun n1 h0 =>
    both (xI .i64 (cell h0 a0) fun n2 => Only (.int .i64 n0) h0 (.int .i64 n2) h0) <|
    C37 n0 x5_k h0 fun n3 h1 =>
    bif (n1 != n3) then
      K_ret x5_k h1
    else
      Φ (IntKind.wrap .i64 (x5_k - 1)) h1
  else
    K_e0 h
def N35_l0_B (x0_w : Option Addr) (x1_t : Int) (K_e0 : Hp → Prop) (K_ret : Int → Hp → Prop) (s : Sg.T [(5, .c (.int .i64))]) (h : Hp) (Φ : Sg.T [(5, .c (.int .i64))] → Hp → Prop) : Prop :=
  N35_l0_b x0_w x1_t (fun x5_k h => Φ x5_k h) s h K_e0 K_ret
def N35_l0 (x0_w : Option Addr) (x1_t : Int) (x5_k : Int) (h : Hp) (K_e0 : Hp → Prop) (K_ret : Int → Hp → Prop) : Prop :=
  loopP (N35_l0_B x0_w x1_t K_e0 K_ret) x5_k h
noncomputable def N35_l0_t : Xf := loopT [(0, .c (.ptr)), (1, .c (.int .i64))] [(5, .c (.int .i64))] (codeAt B35 [1, 1, 0, 1, 0, 0]) fun F Q => N35_l0_B F.1 F.2 (fun h' => Q (.exit 0) (Sg.env [] ()) h') (fun o0 h' => Q .ret (Sg.env [(4, .c (.int .i64))] o0) h')
theorem N35_l0_ok : Sound Try.prog Try.f35.ntmps N35_l0_t (codeAt B35 [1, 1, 0, 1, 0]) := by
  refine loop_sound (fun e => match e with | .exit 0 => [] | .ret => [4] | _ => []) (by kernel_rfl) ?_
  intro F Q s h Φ hb
  refine den_sound hE hm _ (.two .leaf (.two (.one (.two (.ord [0, 1, 3, 4, 5, 6, 7, 2, 8, 9]) .leaf)) .leaf)) _ _ _ (⟨annOk_leaf, ⟨⟨trivial, annOk_leaf⟩, annOk_leaf⟩⟩) ?_
  refine cast ?_ hb
  kernel_rfl
def N35 (x0 : Option Addr) (x1 : Int) (h : Hp) (K : Int → Hp → Prop) : Prop :=
  nn x0 fun a0 =>
  xI .i64 (cell h a0) fun n0 =>
  bif ((Int.fdiv x1 (2 ^ 24)) != (Int.fdiv n0 (2 ^ 24))) then
    K (-1) h
  else
    N35_l0 x0 x1 3 h
      (fun h0 =>
        K 0 h0)
      (fun n1 h1 =>
        K n1 h1)
theorem S35 {x0 : Option Addr} {x1 : Int} {h : Hp} {K : Int → Hp → Prop} (hn : N35 x0 x1 h K) : C35 x0 x1 h K := by
  refine calls_of_D Try.func35 (c := B35) rfl (by kernel_rfl) ?_
  refine den_sound hE hm _ (.two .leaf (.two .leaf (.two (.two .leaf (.one (.xf N35_l0_t))) .leaf))) _ _ _ (⟨annOk_leaf, ⟨annOk_leaf, ⟨⟨annOk_leaf, N35_l0_ok⟩, annOk_leaf⟩⟩⟩) ?_
  refine cast ?_ hn
  kernel_rfl
end Go.Proofs.Ytfnlldbaplakoaa

set_option linter.unusedVariables false
set_option maxRecDepth 100000
namespace Go.Proofs.Ytfnlldbaplakoaa
open Go Go.Hw
/-! ### 32 slipway/wheel.order -/
noncomputable def B32 : Code := match Try.f32.body with | some c => c | none => .skip
def N32 (x0_0 : Int) (x0_1 : Int) (x0_2 : Int) (x1_0 : Int) (x1_1 : Int) (x1_2 : Int) (h : Hp) (K : Int → Hp → Prop) : Prop :=
  nw h (.cells ⟨[.int .i64 x0_0, .int .i64 x0_1, .int .i64 x0_2]⟩ 44) fun b0 h0 =>
  nw h0 (.cells ⟨[.int .i64 x1_0, .int .i64 x1_1, .int .i64 x1_2]⟩ 44) fun b1 h1 =>
  xI .i64 (cell h1 (bk b0)) fun n0 =>
  xI .i64 (cell h1 (bk b1)) fun n1 =>
  xI .i64 (cell h1 ((bk b0).add 1)) fun n2 =>
  xI .i64 (cell h1 ((bk b1).add 1)) fun n3 =>
  C42 n0 n1 h1 fun n4 h2 =>
  both (xI .i64 (cell h2 ((bk b1).add 1)) fun n5 => Only (.int .i64 n3) h2 (.int .i64 n5) h2) <|
  both (xI .i64 (cell h2 ((bk b0).add 1)) fun n6 => Only (.int .i64 n2) h2 (.int .i64 n6) h2) <|
  C42 n2 n3 h2 fun n7 h3 =>
  nw h3 (.cells ⟨[.int .i64 n4, .int .i64 n7]⟩ 3) fun b2 h4 =>
  C41 ⟨some (bk b2), 2, 2⟩ h4 fun n8 h5 =>
  K n8 h5
theorem S32 {x0_0 : Int} {x0_1 : Int} {x0_2 : Int} {x1_0 : Int} {x1_1 : Int} {x1_2 : Int} {h : Hp} {K : Int → Hp → Prop} (hn : N32 x0_0 x0_1 x0_2 x1_0 x1_1 x1_2 h K) : C32 x0_0 x0_1 x0_2 x1_0 x1_1 x1_2 h K := by
  refine calls_of_D Try.func32 (c := B32) rfl (by kernel_rfl) ?_
  refine den_sound hE hm _ (.two .leaf (.two (.ord [0, 1, 2, 3, 5, 6, 7, 8, 4, 9, 10, 11, 12]) .leaf)) _ _ _ (⟨annOk_leaf, ⟨trivial, annOk_leaf⟩⟩) ?_
  refine cast ?_ hn
  kernel_rfl
end Go.Proofs.Ytfnlldbaplakoaa

set_option linter.unusedVariables false
set_option maxRecDepth 100000
namespace Go.Proofs.Ytfnlldbaplakoaa
open Go Go.Hw
/-! ### 27 (*slipway/wheel.Wheel).counts -/
noncomputable def B27 : Code := match Try.f27.body with | some c => c | none => .skip
def N27 (x0 : Option Addr) (x1 : Int) (h : Hp) (K : Int → Hp → Prop) : Prop :=
  nn x0 fun a0 =>
  xI .i64 (cell h a0) fun n0 =>
  K (mn (mx x1 n0) 1125899906842624) h
theorem S27 {x0 : Option Addr} {x1 : Int} {h : Hp} {K : Int → Hp → Prop} (hn : N27 x0 x1 h K) : C27 x0 x1 h K := by
  refine calls_of_D Try.func27 (c := B27) rfl (by kernel_rfl) ?_
  refine den_sound hE hm _ .leaf _ _ _ (annOk_leaf) ?_
  refine cast ?_ hn
  kernel_rfl
end Go.Proofs.Ytfnlldbaplakoaa

set_option linter.unusedVariables false
set_option maxRecDepth 100000
namespace Go.Proofs.Ytfnlldbaplakoaa
open Go Go.Hw
/-! ### 19 (*slipway/wheel.Wheel).first -/
noncomputable def B19 : Code := match Try.f19.body with | some c => c | none => .skip
def N19 (x0 : Option Addr) (x1 : Option Addr) (x2 : Option Addr) (h : Hp) (K : Bool → Hp → Prop) : Prop :=
  nn x1 fun a0 =>
  xI .i64 (cell h a0) fun n0 =>
  xI .i64 (cell h (a0.add 1)) fun n1 =>
  xI .i64 (cell h (a0.add 2)) fun n2 =>
  nn x2 fun a1 =>
  xI .i64 (cell h a1) fun n3 =>
  xI .i64 (cell h (a1.add 1)) fun n4 =>
  xI .i64 (cell h (a1.add 2)) fun n5 =>
  C32 n0 n1 n2 n3 n4 n5 h fun n6 h0 =>
  K (decide (n6 < 0)) h0
theorem S19 {x0 : Option Addr} {x1 : Option Addr} {x2 : Option Addr} {h : Hp} {K : Bool → Hp → Prop} (hn : N19 x0 x1 x2 h K) : C19 x0 x1 x2 h K := by
  refine calls_of_D Try.func19 (c := B19) rfl (by kernel_rfl) ?_
  refine den_sound hE hm _ (.two .leaf (.two (.ord [0, 1, 2, 3, 4, 5, 6, 7, 8, 9, 10]) .leaf)) _ _ _ (⟨annOk_leaf, ⟨trivial, annOk_leaf⟩⟩) ?_
  refine cast ?_ hn
  kernel_rfl
end Go.Proofs.Ytfnlldbaplakoaa

set_option linter.unusedVariables false
set_option maxRecDepth 100000
namespace Go.Proofs.Ytfnlldbaplakoaa
open Go Go.Hw
/-! ### 16 (*slipway/wheel.Wheel).Len -/
noncomputable def B16 : Code := match Try.f16.body with | some c => c | none => .skip
def N16 (x0 : Option Addr) (h : Hp) (K : Int → Hp → Prop) : Prop :=
  nn x0 fun a0 =>
  xM (cell h (a0.add 260)) fun m0 =>
  xMap h m0 fun es0 _ =>
  K (es0.length : Int) h
theorem S16 {x0 : Option Addr} {h : Hp} {K : Int → Hp → Prop} (hn : N16 x0 h K) : C16 x0 h K := by
  refine calls_of_D Try.func16 (c := B16) rfl (by kernel_rfl) ?_
  refine den_sound hE hm _ .leaf _ _ _ (annOk_leaf) ?_
  refine cast ?_ hn
  kernel_rfl
end Go.Proofs.Ytfnlldbaplakoaa

set_option linter.unusedVariables false
set_option maxRecDepth 100000
namespace Go.Proofs.Ytfnlldbaplakoaa
open Go Go.Hw
/-! ### 17 (*slipway/wheel.Wheel).Now -/
noncomputable def B17 : Code := match Try.f17.body with | some c => c | none => .skip
def N17 (x0 : Option Addr) (h : Hp) (K : Int → Hp → Prop) : Prop :=
  nn x0 fun a0 =>
  xI .i64 (cell h a0) fun n0 =>
  K n0 h
theorem S17 {x0 : Option Addr} {h : Hp} {K : Int → Hp → Prop} (hn : N17 x0 h K) : C17 x0 h K := by
  refine calls_of_D Try.func17 (c := B17) rfl (by kernel_rfl) ?_
  refine den_sound hE hm _ .leaf _ _ _ (annOk_leaf) ?_
  refine cast ?_ hn
  kernel_rfl
end Go.Proofs.Ytfnlldbaplakoaa

/-
  The wheel's small functions: comparisons, digits, levels.
-/
set_option linter.unusedSimpArgs false
set_option linter.unusedVariables false
namespace Go.Proofs.Ytfnlldbaplakoaa
open Go Go.Hw

def cmpI (x y : Int) : Int := if x < y then -1 else if y < x then 1 else 0
/-- the order of two timers: by time, then by number -/
def ordI (a i b j : Int) : Int := if cmpI a b = 0 then cmpI i j else cmpI a b

theorem c46 {x : Int} {h : Hp} {K : Bool → Hp → Prop} (hk : K false h) : C46 x h K := by
  apply S46; unfold N46; simpa using hk
theorem c42 {x y : Int} {h : Hp} {K : Int → Hp → Prop} (hk : K (cmpI x y) h) : C42 x y h K := by
  apply S42; unfold N42
  refine c46 ?_
  refine c46 ?_
  unfold cmpI at hk
  simp only [cond_false]
  by_cases h1 : x < y
  · simp only [h1, decide_true, cond_true, if_true] at hk ⊢; exact hk
  · by_cases h2 : y < x
    · simp only [h1, h2, gt_iff_lt, decide_true, decide_false, cond_true, cond_false, if_true, if_false] at hk ⊢; exact hk
    · simp only [h1, h2, gt_iff_lt, decide_false, cond_false, if_false] at hk ⊢; exact hk

theorem c41 {b : Nat} {x y : Int} {h : Hp} {K : Int → Hp → Prop} (hb : Blk h b 3 [.int .i64 x, .int .i64 y]) (hk : K (if x = 0 then y else x) h) :
    C41 ⟨some (bk b), 2, 2⟩ h K := by
  apply S41; unfold N41 N41_l0
  refine loopP_step ?_
  unfold N41_l0_B N41_l0_b
  simp only [show decide ((0 : Int) < ((2 : Nat) : Int)) = true from rfl, cond_true]
  refine idx_of (by omega) (by omega) ?_
  simp only [nn_some', add_bk, hb.cell, xI_some, List.getElem?_cons_zero, show (0 : Int).toNat * 1 = 0 from rfl]
  by_cases h1 : x = 0
  · subst h1
    simp only [bne_self_eq_false, cond_false, if_true] at hk ⊢
    refine loopP_step ?_
    have w1 : IntKind.wrap .i64 (0 + 1) = 1 := rfl
    simp only [w1]
    simp only [show decide ((1 : Int) < ((2 : Nat) : Int)) = true from rfl, cond_true]
    refine idx_of (by omega) (by omega) ?_
    simp only [nn_some', add_bk, hb.cell, xI_some, List.getElem?_cons_succ, List.getElem?_cons_zero, show (1 : Int).toNat * 1 = 1 from rfl]
    by_cases h2 : y = 0
    · subst h2
      simp only [bne_self_eq_false, cond_false]
      refine loopP_step ?_
      have w2 : IntKind.wrap .i64 (1 + 1) = 2 := rfl
      simp only [w2]
      simp only [show decide ((2 : Int) < ((2 : Nat) : Int)) = false from rfl, cond_false]
      exact hk
    · have : (y != 0) = true := by simpa using h2
      simp only [this, cond_true]; exact hk
  · have : (x != 0) = true := by simpa using h1
    simp only [this, cond_true]
    rw [if_neg h1] at hk; exact hk

theorem c32 {a i t b j u : Int} {h : Hp} {K : Int → Hp → Prop} (hk : ∀ h', Ext none' h h' → K (ordI a i b j) h') : C32 a i t b j u h K := by
  apply S32; unfold N32
  intro b0 e0 b1 e1
  have n01 : b0 ≠ b1 := by rintro rfl; rw [upd_same] at e1; cases e1
  have hb1 : Blk (upd (upd h b0 (.cells ⟨[.int .i64 a, .int .i64 i, .int .i64 t]⟩ 44 (0, 0))) b1 (.cells ⟨[.int .i64 b, .int .i64 j, .int .i64 u]⟩ 44 (0, 0))) b1 44 [.int .i64 b, .int .i64 j, .int .i64 u] := Blk.upd_same
  have hb0 : Blk (upd (upd h b0 (.cells ⟨[.int .i64 a, .int .i64 i, .int .i64 t]⟩ 44 (0, 0))) b1 (.cells ⟨[.int .i64 b, .int .i64 j, .int .i64 u]⟩ 44 (0, 0))) b0 44 [.int .i64 a, .int .i64 i, .int .i64 t] := Blk.upd_same.upd_ne n01
  have ex : Ext none' h (upd (upd h b0 (.cells ⟨[.int .i64 a, .int .i64 i, .int .i64 t]⟩ 44 (0, 0))) b1 (.cells ⟨[.int .i64 b, .int .i64 j, .int .i64 u]⟩ 44 (0, 0))) := (Ext.new e0).trans (Ext.new e1)
  revert hb1 hb0 ex
  generalize upd (upd h b0 _) b1 _ = h1
  intro hb1 hb0 ex
  simp only [add_bk, hb0.cell, hb1.cell, xI_some, List.getElem?_cons_zero, List.getElem?_cons_succ]
  refine c42 ?_
  simp only [hb0.cell, hb1.cell, xI_some, List.getElem?_cons_zero, List.getElem?_cons_succ, both_only, only_self, true_and]
  refine c42 ?_
  intro b2 e2
  refine c41 Blk.upd_same ?_
  exact hk _ (ex.trans (Ext.new e2))


/-! ### digits and levels -/
def dg (t k : Int) : Int := (t / 64 ^ k.toNat) % 64
theorem and63 (x : Int) (h0 : 0 ≤ x) (h1 : x ≤ 9223372036854775807) : ((BitVec.ofInt 64 x &&& BitVec.ofInt 64 63).toNat : Int) = x % 64 := by
  obtain ⟨n, rfl⟩ := Int.eq_ofNat_of_zero_le h0
  have h2 : n < 2 ^ 64 := by omega
  have e1 : BitVec.ofInt 64 (n : Int) = BitVec.ofNat 64 n := by simp
  have e2 : BitVec.ofInt 64 63 = BitVec.ofNat 64 63 := rfl
  rw [e1, e2]
  simp only [BitVec.toNat_and, BitVec.toNat_ofNat]
  rw [Nat.mod_eq_of_lt h2, show 63 % 2 ^ 64 = 2 ^ 6 - 1 from rfl, Nat.and_two_pow_sub_one_eq_mod]
  omega

theorem c37 {t k : Int} {h : Hp} {K : Int → Hp → Prop} (hk0 : 0 ≤ k) (hk3 : k ≤ 3) (h0 : 0 ≤ t) (h1 : t ≤ 9223372036854775807) (hk : K (dg t k) h) : C37 t k h K := by
  apply S37; unfold N37
  have e0 : IntKind.wrap .i64 (6 * k) = 6 * k := wrap64 (by omega) (by omega)
  rw [e0]
  have e1 : decide (6 * k < 0) = false := by simp; omega
  rw [e1, cond_false]
  have e2 : min (6 * k).toNat 64 = 6 * k.toNat := by omega
  have hp : (2 : Int) ^ (6 * k.toNat) = 64 ^ k.toNat := by rw [Int.pow_mul]; rfl
  have hpos : (0 : Int) < 64 ^ k.toNat := Int.pow_pos (by omega)
  have hd0 : 0 ≤ t / 64 ^ k.toNat := Int.ediv_nonneg h0 (by omega)
  have hd1 : t / 64 ^ k.toNat ≤ t := Int.ediv_le_self _ h0
  rw [e2, hp, Int.fdiv_eq_ediv_of_nonneg _ (by omega), and63 _ hd0 (by omega)]
  rw [wrap64 (by omega) (by omega)]
  exact hk

/-- the level of a time; -1: beyond the levels -/
def lev (now t : Int) : Int :=
  if t / 16777216 ≠ now / 16777216 then -1 else if dg t 3 ≠ dg now 3 then 3 else if dg t 2 ≠ dg now 2 then 2 else if dg t 1 ≠ dg now 1 then 1 else 0

theorem c35 {W : Nat} {l : List Value} {now t : Int} {h : Hp} {K : Int → Hp → Prop} (hW : Blk h W 58 l) (hl : l[0]? = some (.int .i64 now)) (hn0 : 0 ≤ now) (hn1 : now ≤ 1125899906842624)
    (h0 : 0 ≤ t) (h1 : t ≤ 1125899906842624) (hk : K (lev now t) h) : C35 (some (bk W)) t h K := by
  have hc : cell h (bk W) = some (.int .i64 now) := by rw [hW.cell, hl]
  apply S35; unfold N35
  simp only [nn_some', hc, xI_some]
  have f1 : Int.fdiv t (2 ^ 24) = t / 16777216 := by rw [Int.fdiv_eq_ediv_of_nonneg _ (by omega)]; rfl
  have f2 : Int.fdiv now (2 ^ 24) = now / 16777216 := by rw [Int.fdiv_eq_ediv_of_nonneg _ (by omega)]; rfl
  rw [f1, f2]
  unfold lev at hk
  by_cases e : t / 16777216 = now / 16777216
  · rw [e] at hk ⊢
    simp only [bne_self_eq_false, cond_false, ne_eq, not_true_eq_false, if_false] at hk ⊢
    have round : ∀ (k : Int) (Ke : Hp → Prop) (Kr : Int → Hp → Prop), 1 ≤ k → k ≤ 3 →
        (if dg t k ≠ dg now k then Kr k h else N35_l0 (some (bk W)) t (k - 1) h Ke Kr) → N35_l0 (some (bk W)) t k h Ke Kr := by
      intro k Ke Kr hk1 hk3 hh
      unfold N35_l0 at hh ⊢
      refine loopP_step ?_
      unfold N35_l0_B N35_l0_b
      have : decide (k > 0) = true := by simp; omega
      simp only [this, cond_true, nn_some', hc, xI_some]
      refine c37 (by omega) hk3 h0 (by omega) ?_
      simp only [hc, xI_some, both_only, only_self, true_and]
      refine c37 (by omega) hk3 hn0 (by omega) ?_
      by_cases hd : dg t k = dg now k
      · rw [hd] at hh ⊢
        simp only [bne_self_eq_false, cond_false, ne_eq, not_true_eq_false, if_false] at hh ⊢
        rw [wrap64 (by omega) (by omega)]
        exact hh
      · have : (dg t k != dg now k) = true := by simpa using hd
        simp only [this, cond_true]
        rw [if_pos hd] at hh; exact hh
    have last : ∀ (Ke : Hp → Prop) (Kr : Int → Hp → Prop), Ke h → N35_l0 (some (bk W)) t 0 h Ke Kr := by
      intro Ke Kr hh
      unfold N35_l0
      refine loopP_step ?_
      unfold N35_l0_B N35_l0_b
      exact hh
    refine round 3 _ _ (by omega) (by omega) ?_
    by_cases h3 : dg t 3 = dg now 3
    · rw [h3] at hk ⊢
      simp only [ne_eq, not_true_eq_false, if_false] at hk ⊢
      refine round 2 _ _ (by omega) (by omega) ?_
      by_cases h2 : dg t 2 = dg now 2
      · rw [h2] at hk ⊢
        simp only [ne_eq, not_true_eq_false, if_false] at hk ⊢
        refine round 1 _ _ (by omega) (by omega) ?_
        by_cases h1 : dg t 1 = dg now 1
        · rw [h1] at hk ⊢
          simp only [ne_eq, not_true_eq_false, if_false] at hk ⊢
          exact last _ _ hk
        · rw [if_pos h1] at hk ⊢; exact hk
      · rw [if_pos h2] at hk ⊢; exact hk
    · rw [if_pos h3] at hk ⊢; exact hk
  · have : (t / 16777216 != now / 16777216) = true := by simpa using e
    simp only [this, cond_true]
    rw [if_pos e] at hk; exact hk

def MaxT : Int := 1125899906842624
/-- what a time counts as -/
def clampT (now t : Int) : Int := if t < now then now else if MaxT < t then MaxT else t
theorem c27 {W : Nat} {l : List Value} {now t : Int} {h : Hp} {K : Int → Hp → Prop} (hW : Blk h W 58 l) (hl : l[0]? = some (.int .i64 now)) (hn1 : now ≤ MaxT)
    (hk : K (clampT now t) h) : C27 (some (bk W)) t h K := by
  apply S27; unfold N27
  have hc : cell h (bk W) = some (.int .i64 now) := by rw [hW.cell, hl]
  simp only [nn_some', hc, xI_some]
  have : mn (mx t now) 1125899906842624 = clampT now t := by
    unfold mn mx clampT MaxT at *
    repeat' split
    all_goals omega
  rw [this]; exact hk

theorem c19 {W : Option Addr} {b c : Nat} {p q : List Value} {a i t a' i' t' : Int} {h : Hp} {K : Bool → Hp → Prop} (hb : Blk h b 65 ([.int .i64 a, .int .i64 i, .int .i64 t] ++ p)) (hc : Blk h c 65 ([.int .i64 a', .int .i64 i', .int .i64 t'] ++ q))
    (hk : ∀ h', Ext none' h h' → K (decide (ordI a i a' i' < 0)) h') : C19 W (some (bk b)) (some (bk c)) h K := by
  apply S19; unfold N19
  simp only [nn_some', add_bk, hb.cell, hc.cell, List.cons_append, List.getElem?_cons_zero, List.getElem?_cons_succ, xI_some]
  exact c32 fun h' he => hk h' he
theorem c40 {b c : Nat} {p q : List Value} {a i t a' i' t' : Int} {h : Hp} {K : Int → Hp → Prop} (hb : Blk h b 65 ([.int .i64 a, .int .i64 i, .int .i64 t] ++ p)) (hc : Blk h c 65 ([.int .i64 a', .int .i64 i', .int .i64 t'] ++ q))
    (hk : ∀ h', Ext none' h h' → K (ordI a i a' i') h') : C40 (some (bk b)) (some (bk c)) h K := by
  apply S40; unfold N40
  simp only [nn_some', add_bk, hb.cell, hc.cell, List.cons_append, List.getElem?_cons_zero, List.getElem?_cons_succ, xI_some]
  exact c32 fun h' he => hk h' he

end Go.Proofs.Ytfnlldbaplakoaa

/-
  Heaps asy lists: a hole that moves up or down. No program here.
-/
namespace Go.Hw.Pq

section
variable {lt : Nat → Nat → Bool}

/-- what a hole at i leaves, when t comes there: all else is a heap -/
structure Hole (lt : Nat → Nat → Bool) (L : List Nat) (i t : Nat) : Prop where
  rest : ∀ j, 0 < j → j < L.length → j ≠ i → (j - 1) / 2 ≠ i → lt (L.getD j 0) (L.getD ((j - 1) / 2) 0) = false
  over : ∀ j, 0 < j → j < L.length → (j - 1) / 2 = i → 0 < i → lt (L.getD j 0) (L.getD ((i - 1) / 2) 0) = false
/-- the hole's children do not come ahead of t -/
def Kids (lt : Nat → Nat → Bool) (L : List Nat) (i t : Nat) : Prop := ∀ j, 0 < j → j < L.length → (j - 1) / 2 = i → lt (L.getD j 0) t = false
def Heap (lt : Nat → Nat → Bool) (L : List Nat) : Prop := ∀ j, 0 < j → j < L.length → lt (L.getD j 0) (L.getD ((j - 1) / 2) 0) = false

theorem getD_set {L : List Nat} {i j v d : Nat} : (L.set i v).getD j d = if i = j ∧ j < L.length then v else L.getD j d := by
  rw [List.getD_eq_getElem?_getD, List.getElem?_set, List.getD_eq_getElem?_getD]
  by_cases h : i = j
  · subst h
    by_cases h2 : i < L.length
    · simp [h2]
    · simp [h2]
  · simp [h]

theorem Hole.done {L : List Nat} {i t : Nat} (h : Hole lt L i t) (hk : Kids lt L i t) (hi : i < L.length) (he : i = 0 ∨ lt t (L.getD ((i - 1) / 2) 0) = false) : Heap lt (L.set i t) := by
  intro j h0 hj
  simp only [List.length_set] at hj
  simp only [getD_set]
  by_cases e1 : i = j
  · subst e1
    have e2 : ¬ i = (i - 1) / 2 := by omega
    simp only [hj, e2, and_self, if_true, false_and, if_false]
    rcases he with he | he
    · omega
    · exact he
  · by_cases e2 : (j - 1) / 2 = i
    · have e3 : i = (j - 1) / 2 ∧ (j - 1) / 2 < L.length := by omega
      have e4 : ¬ (i = j ∧ j < L.length) := by omega
      rw [if_neg e4, if_pos e3]; exact hk j h0 hj e2
    · have e3 : ¬ (i = (j - 1) / 2 ∧ (j - 1) / 2 < L.length) := by omega
      have e4 : ¬ (i = j ∧ j < L.length) := by omega
      rw [if_neg e4, if_neg e3]; exact h.rest j h0 hj (fun e => e1 e.symm) e2

theorem Hole.up {L : List Nat} {i t : Nat} (tr : ∀ a b c, lt a b = true → lt b c = true → lt a c = true) (asy : ∀ a b, lt a b = true → lt b a = false)
    (tot : ∀ a b c, lt b a = false → lt c b = false → lt c a = false)
    (h : Hole lt L i t) (hk : Kids lt L i t) (hi : i < L.length) (h0 : 0 < i) (hlt : lt t (L.getD ((i - 1) / 2) 0) = true) :
    Hole lt (L.set i (L.getD ((i - 1) / 2) 0)) ((i - 1) / 2) t ∧ Kids lt (L.set i (L.getD ((i - 1) / 2) 0)) ((i - 1) / 2) t := by
  have hp : (i - 1) / 2 < i := by omega
  refine ⟨⟨?_, ?_⟩, ?_⟩
  · intro j j0 hj hne hpe
    simp only [List.length_set] at hj
    simp only [getD_set]
    have e1 : ¬ i = j := by rintro rfl; exact hpe rfl
    rw [if_neg (by omega : ¬ (i = j ∧ j < L.length))]
    by_cases e2 : i = (j - 1) / 2
    · rw [if_pos (by omega : i = (j - 1) / 2 ∧ (j - 1) / 2 < L.length)]
      exact h.over j j0 hj e2.symm h0
    · rw [if_neg (by omega : ¬ (i = (j - 1) / 2 ∧ (j - 1) / 2 < L.length))]
      exact h.rest j j0 hj (fun e => e1 e.symm) (fun e => e2 e.symm)
  · intro j j0 hj hpe hpp
    simp only [List.length_set] at hj
    simp only [getD_set]
    have hgp : lt (L.getD ((i - 1) / 2) 0) (L.getD (((i - 1) / 2 - 1) / 2) 0) = false := by
      by_cases e : ((i - 1) / 2 - 1) / 2 = i
      · omega
      · exact h.rest _ hpp (by omega) (by omega) e
    rw [if_neg (by omega : ¬ (i = ((i - 1) / 2 - 1) / 2 ∧ ((i - 1) / 2 - 1) / 2 < L.length))]
    by_cases e1 : i = j
    · rw [if_pos ⟨e1, hj⟩]; exact hgp
    · rw [if_neg (by omega : ¬ (i = j ∧ j < L.length))]
      have := h.rest j j0 hj (fun e => e1 e.symm) (by omega)
      rw [hpe] at this
      exact tot _ _ _ hgp this
  · intro j j0 hj hpe
    simp only [List.length_set] at hj
    simp only [getD_set]
    by_cases e1 : i = j
    · rw [if_pos ⟨e1, hj⟩]; exact asy _ _ hlt
    · rw [if_neg (by omega : ¬ (i = j ∧ j < L.length))]
      have := h.rest j j0 hj (fun e => e1 e.symm) (by omega)
      rw [hpe] at this
      exact tot _ _ _ (asy _ _ hlt) this

/-- a hole that goes down to its least child c -/
theorem Hole.down {L : List Nat} {i t c : Nat} (asy : ∀ a b, lt a b = true → lt b a = false) (tot : ∀ a b c, lt b a = false → lt c b = false → lt c a = false)
    (h : Hole lt L i t) (hc0 : 0 < c) (hc : c < L.length) (hpc : (c - 1) / 2 = i) (hleast : ∀ j, 0 < j → j < L.length → (j - 1) / 2 = i → lt (L.getD j 0) (L.getD c 0) = false) :
    Hole lt (L.set i (L.getD c 0)) c t := by
  have hi : i < c := by omega
  refine ⟨?_, ?_⟩
  · intro j j0 hj hne hpe
    simp only [List.length_set] at hj
    simp only [getD_set]
    by_cases e1 : i = j
    · subst e1
      rw [if_pos ⟨rfl, hj⟩, if_neg (by omega)]
      exact h.over c hc0 hc hpc j0
    · rw [if_neg (by omega : ¬ (i = j ∧ j < L.length))]
      by_cases e2 : (j - 1) / 2 = i
      · rw [if_pos ⟨e2.symm, by omega⟩]; exact hleast j j0 hj e2
      · rw [if_neg (by omega)]; exact h.rest j j0 hj (fun e => e1 e.symm) e2
  · intro j j0 hj hpe hpp
    simp only [List.length_set] at hj
    simp only [getD_set]
    rw [hpc]
    rw [if_neg (by omega : ¬ (i = j ∧ j < L.length)), if_pos ⟨rfl, by omega⟩]
    have := h.rest j j0 hj (by omega) (by omega)
    rw [hpe] at this; exact this

theorem set_perm {L : List Nat} {i c t : Nat} (hi : i < L.length) (hc : c < L.length) (hne : i ≠ c) : ((L.set i (L.getD c 0)).set c t).Perm (L.set i t) := by
  rw [List.perm_iff_count]
  intro x
  have hcl : c < (L.set i (L.getD c 0)).length := by simpa using hc
  rw [List.count_set hcl, List.count_set hi, List.count_set hi]
  have e1 : (L.set i (L.getD c 0))[c] = L[c] := by rw [List.getElem_set]; simp [hne]
  have e2 : L.getD c 0 = L[c] := by rw [List.getD_eq_getElem?_getD, List.getElem?_eq_getElem hc]; rfl
  rw [e1, e2]
  have p1 : (if L[i] == x then 1 else 0) ≤ L.count x := by
    split
    · rename_i h; have : L[i] = x := by simpa using h
      exact List.count_pos_iff.2 (this ▸ List.getElem_mem hi)
    · omega
  have p2 : (if L[c] == x then 1 else 0) ≤ L.count x := by
    split
    · rename_i h; have : L[c] = x := by simpa using h
      exact List.count_pos_iff.2 (this ▸ List.getElem_mem hc)
    · omega
  omega
end
end Go.Hw.Pq

set_option linter.unusedVariables false
set_option maxRecDepth 100000
namespace Go.Proofs.Ytfnlldbaplakoaa
open Go Go.Hw
/-! ### 36 (*slipway/wheel.heap).add -/
noncomputable def B36 : Code := match Try.f36.body with | some c => c | none => .skip
def N36 (x0 : Option Addr) (x1 : Option Addr) (h : Hp) (K : Hp → Prop) : Prop :=
  nn x0 fun a0 =>
  xL (cell h a0) fun s0 =>
  nw h (.cells ⟨[.pointer x1]⟩ 62) fun b0 h0 =>
  apK Try.prog 62 s0 (.slice (some (bk b0)) 1 1) h0 fun s1 h1 =>
  nn x0 fun a1 =>
  st h1 a1 (.slice s1.p s1.n s1.c) fun h2 =>
  nn x0 fun a2 =>
  xL (cell h2 a2) fun s2 =>
  nn x1 fun a3 =>
  st h2 (a3.add 3) (.int .i64 (-1)) fun h3 =>
  nn x1 fun a4 =>
  st h3 (a4.add 4) (.int .i64 (IntKind.wrap .i64 (((s2.n : Nat) : Int) - 1))) fun h4 =>
  C43 x0 x1 h4 fun h5 =>
  K h5
theorem S36 {x0 : Option Addr} {x1 : Option Addr} {h : Hp} {K : Hp → Prop} (hn : N36 x0 x1 h K) : C36 x0 x1 h K := by
  refine calls_of_D Try.func36 (c := B36) rfl (by kernel_rfl) ?_
  refine den_sound hE hm _ .leaf _ _ _ (annOk_leaf) ?_
  refine cast ?_ hn
  kernel_rfl
end Go.Proofs.Ytfnlldbaplakoaa

set_option linter.unusedVariables false
set_option maxRecDepth 100000
namespace Go.Proofs.Ytfnlldbaplakoaa
open Go Go.Hw
/-! ### 38 (*slipway/wheel.heap).drop -/
noncomputable def B38 : Code := match Try.f38.body with | some c => c | none => .skip
def N38 (x0 : Option Addr) (x1 : Option Addr) (h : Hp) (K : Hp → Prop) : Prop :=
  nn x0 fun a0 =>
  xL (cell h a0) fun s0 =>
  nn x0 fun a1 =>
  xL (cell h a1) fun s1 =>
  idx (IntKind.wrap .i64 (((s0.n : Nat) : Int) - 1)) s1.n <|
  nn s1.p fun a2 =>
  xP (cell h (a2.add ((IntKind.wrap .i64 (((s0.n : Nat) : Int) - 1)).toNat * 1))) fun p0 =>
  nn x0 fun a3 =>
  xL (cell h a3) fun s2 =>
  bd (IntKind.wrap .i64 (((s0.n : Nat) : Int) - 1)) s2.c fun k0 =>
  nn x0 fun a4 =>
  st h a4 (.slice (sadr s2.p s2.c 0 1) k0 s2.c) fun h0 =>
  peq h0 p0 x1 fun b0 =>
  bif (!b0) then
    nn x1 fun a5 =>
    xI .i64 (cell h0 (a5.add 4)) fun n0 =>
    C44 x0 n0 p0 h0 fun h1 =>
    C45 x0 p0 h1 fun h2 =>
    C43 x0 p0 h2 fun h3 =>
    K h3
  else
    K h0
theorem S38 {x0 : Option Addr} {x1 : Option Addr} {h : Hp} {K : Hp → Prop} (hn : N38 x0 x1 h K) : C38 x0 x1 h K := by
  refine calls_of_D Try.func38 (c := B38) rfl (by kernel_rfl) ?_
  refine den_sound hE hm _ .leaf _ _ _ (annOk_leaf) ?_
  refine cast ?_ hn
  kernel_rfl
end Go.Proofs.Ytfnlldbaplakoaa

set_option linter.unusedVariables false
set_option maxRecDepth 100000
namespace Go.Proofs.Ytfnlldbaplakoaa
open Go Go.Hw
/-! ### 43 (*slipway/wheel.heap).up -/
noncomputable def B43 : Code := match Try.f43.body with | some c => c | none => .skip
def N43_l0_b (x0_h : Option Addr) (x1_t : Option Addr) (Φ : Int → Hp → Prop) (x4_i : Int) (h : Hp) (K_e0 : Int → Hp → Prop) : Prop :=
  bif (decide (x4_i > 0)) then
    nn x0_h fun a0 =>
    xA (cell h (a0.add 1)) fun v0 =>
    nn x0_h fun a1 =>
    xL (cell h a1) fun s0 =>
    idx (IntKind.wrap .i64 (Int.tdiv (IntKind.wrap .i64 (x4_i - 1)) 2)) s0.n <|
    nn s0.p fun a2 =>
    xP (cell h (a2.add ((IntKind.wrap .i64 (Int.tdiv (IntKind.wrap .i64 (x4_i - 1)) 2)).toNat * 1))) fun p0 =>
    HCallV Try.prog E (v0) [.pointer x1_t, .pointer p0] h fun v1 h0 =>
    xB (some v1) fun b0 =>
    bif b0 then
      nn x0_h fun a3 =>
      xL (cell h0 a3) fun s1 =>
      idx (IntKind.wrap .i64 (Int.tdiv (IntKind.wrap .i64 (x4_i - 1)) 2)) s1.n <|
      nn s1.p fun a4 =>
      xP (cell h0 (a4.add ((IntKind.wrap .i64 (Int.tdiv (IntKind.wrap .i64 (x4_i - 1)) 2)).toNat * 1))) fun p1 =>
      C44 x0_h x4_i p1 h0 fun h1 =>
      Φ (IntKind.wrap .i64 (Int.tdiv (IntKind.wrap .i64 (x4_i - 1)) 2)) h1
    else
      K_e0 x4_i h0
  else
    K_e0 x4_i h
def N43_l0_B (x0_h : Option Addr) (x1_t : Option Addr) (K_e0 : Int → Hp → Prop) (s : Sg.T [(4, .c (.int .i64))]) (h : Hp) (Φ : Sg.T [(4, .c (.int .i64))] → Hp → Prop) : Prop :=
  N43_l0_b x0_h x1_t (fun x4_i h => Φ x4_i h) s h K_e0
def N43_l0 (x0_h : Option Addr) (x1_t : Option Addr) (x4_i : Int) (h : Hp) (K_e0 : Int → Hp → Prop) : Prop :=
  loopP (N43_l0_B x0_h x1_t K_e0) x4_i h
noncomputable def N43_l0_t : Xf := loopT [(0, .c (.ptr)), (1, .c (.ptr))] [(4, .c (.int .i64))] (codeAt B43 [1, 0, 0, 0]) fun F Q => N43_l0_B F.1 F.2 (fun o0 h' => Q (.exit 0) (Sg.env [(4, .c (.int .i64))] o0) h')
theorem N43_l0_ok : Sound Try.prog Try.f43.ntmps N43_l0_t (codeAt B43 [1, 0, 0]) := by
  refine loop_sound (fun e => match e with | .exit 0 => [4] | _ => []) (by kernel_rfl) ?_
  intro F Q s h Φ hb
  refine den_sound hE hm _ (.two (.two (.ord [0, 1, 2, 3, 4, 5, 6, 7, 8, 9, 10, 11, 12, 13, 14, 15, 16, 17, 18]) .leaf) .leaf) _ _ _ (⟨⟨trivial, annOk_leaf⟩, annOk_leaf⟩) ?_
  refine cast ?_ hb
  kernel_rfl
def N43 (x0 : Option Addr) (x1 : Option Addr) (h : Hp) (K : Hp → Prop) : Prop :=
  nn x1 fun a0 =>
  xI .i64 (cell h (a0.add 4)) fun n0 =>
  N43_l0 x0 x1 n0 h
    (fun n1 h0 =>
      C44 x0 n1 x1 h0 fun h1 =>
      K h1)
theorem S43 {x0 : Option Addr} {x1 : Option Addr} {h : Hp} {K : Hp → Prop} (hn : N43 x0 x1 h K) : C43 x0 x1 h K := by
  refine calls_of_D Try.func43 (c := B43) rfl (by kernel_rfl) ?_
  refine den_sound hE hm _ (.two .leaf (.two (.one (.xf N43_l0_t)) .leaf)) _ _ _ (⟨annOk_leaf, ⟨N43_l0_ok, annOk_leaf⟩⟩) ?_
  refine cast ?_ hn
  kernel_rfl
end Go.Proofs.Ytfnlldbaplakoaa

set_option linter.unusedVariables false
set_option maxRecDepth 100000
namespace Go.Proofs.Ytfnlldbaplakoaa
open Go Go.Hw
/-! ### 44 (*slipway/wheel.heap).put -/
noncomputable def B44 : Code := match Try.f44.body with | some c => c | none => .skip
def N44 (x0 : Option Addr) (x1 : Int) (x2 : Option Addr) (h : Hp) (K : Hp → Prop) : Prop :=
  nn x0 fun a0 =>
  xL (cell h a0) fun s0 =>
  idx x1 s0.n <|
  nn s0.p fun a1 =>
  st h (a1.add (x1.toNat * 1)) (.pointer x2) fun h0 =>
  nn x2 fun a2 =>
  st h0 (a2.add 4) (.int .i64 x1) fun h1 =>
  K h1
theorem S44 {x0 : Option Addr} {x1 : Int} {x2 : Option Addr} {h : Hp} {K : Hp → Prop} (hn : N44 x0 x1 x2 h K) : C44 x0 x1 x2 h K := by
  refine calls_of_D Try.func44 (c := B44) rfl (by kernel_rfl) ?_
  refine den_sound hE hm _ .leaf _ _ _ (annOk_leaf) ?_
  refine cast ?_ hn
  kernel_rfl
end Go.Proofs.Ytfnlldbaplakoaa

set_option linter.unusedVariables false
set_option maxRecDepth 100000
namespace Go.Proofs.Ytfnlldbaplakoaa
open Go Go.Hw
/-! ### 45 (*slipway/wheel.heap).down -/
noncomputable def B45 : Code := match Try.f45.body with | some c => c | none => .skip
def N45_j1 (x0_h : Option Addr) (x1_t : Option Addr) (x4_i : Int) (x5_k : Int) (x52 : Bool) (h : Hp) (K_normal : Int → Hp → Prop) : Prop :=
  bif x52 then
    K_normal (IntKind.wrap .i64 (x5_k + 1)) h
  else
    K_normal x5_k h
noncomputable def N45_j1_t : Xf := pieceT [(0, .c (.ptr)), (1, .c (.ptr)), (4, .c (.int .i64)), (5, .c (.int .i64)), (52, .c (.bool))] (codeAt B45 [1, 0, 1, 0, 0, 1, 0, 0, 0, 1]) fun x h Q => N45_j1 x.1 x.2.1 x.2.2.1 x.2.2.2.1 x.2.2.2.2 h (fun o0 h' => Q .normal (Sg.env [(5, .c (.int .i64))] o0) h')
theorem N45_j1_ok : Sound Try.prog Try.f45.ntmps N45_j1_t (codeAt B45 [1, 0, 1, 0, 0, 1, 0, 0, 0, 1]) := by
  refine piece_sound (fun e => match e with | .normal => [5] | _ => []) ?_
  intro x h Q hb
  refine den_sound hE hm _ .leaf _ _ _ (annOk_leaf) ?_
  refine cast ?_ hb
  kernel_rfl
def N45_j2 (x0_h : Option Addr) (x1_t : Option Addr) (x4_i : Int) (x5_k : Int) (h : Hp) (K_e0 : Int → Hp → Prop) (K_normal : Int → Hp → Prop) : Prop :=
  nn x0_h fun a0 =>
  xA (cell h (a0.add 1)) fun v0 =>
  nn x0_h fun a1 =>
  xL (cell h a1) fun s0 =>
  idx x5_k s0.n <|
  nn s0.p fun a2 =>
  xP (cell h (a2.add (x5_k.toNat * 1))) fun p0 =>
  HCallV Try.prog E (v0) [.pointer p0, .pointer x1_t] h fun v1 h0 =>
  xB (some v1) fun b0 =>
  bif (!b0) then
    K_e0 x4_i h0
  else
    nn x0_h fun a3 =>
    xL (cell h0 a3) fun s1 =>
    idx x5_k s1.n <|
    nn s1.p fun a4 =>
    xP (cell h0 (a4.add (x5_k.toNat * 1))) fun p1 =>
    C44 x0_h x4_i p1 h0 fun h1 =>
    K_normal x5_k h1
noncomputable def N45_j2_t : Xf := pieceT [(0, .c (.ptr)), (1, .c (.ptr)), (4, .c (.int .i64)), (5, .c (.int .i64))] (codeAt B45 [1, 0, 1, 0, 0, 1, 0, 0, 1]) fun x h Q => N45_j2 x.1 x.2.1 x.2.2.1 x.2.2.2 h (fun o0 h' => Q (.exit 0) (Sg.env [(4, .c (.int .i64))] o0) h') (fun o0 h' => Q .normal (Sg.env [(4, .c (.int .i64))] o0) h')
theorem N45_j2_ok : Sound Try.prog Try.f45.ntmps N45_j2_t (codeAt B45 [1, 0, 1, 0, 0, 1, 0, 0, 1]) := by
  refine piece_sound (fun e => match e with | .exit 0 => [4] | .normal => [4] | _ => []) ?_
  intro x h Q hb
  refine den_sound hE hm _ (.two (.two (.ord [0, 1, 2, 3, 4, 5, 6, 7, 8, 9, 10, 11, 12, 13]) .leaf) .leaf) _ _ _ (⟨⟨trivial, annOk_leaf⟩, annOk_leaf⟩) ?_
  refine cast ?_ hb
  kernel_rfl
def N45_l0_b (x0_h : Option Addr) (x1_t : Option Addr) (Φ : Int → Int → Hp → Prop) (x4_i : Int) (x5_k : Int) (h : Hp) (K_e0 : Int → Hp → Prop) : Prop :=
  nn x0_h fun a0 =>
  xL (cell h a0) fun s0 =>
  bif (decide (x5_k < ((s0.n : Nat) : Int))) then
    nn x0_h fun a1 =>
    xL (cell h a1) fun s1 =>
    bif (decide ((IntKind.wrap .i64 (x5_k + 1)) < ((s1.n : Nat) : Int))) then
      nn x0_h fun a2 =>
      xA (cell h (a2.add 1)) fun v0 =>
      nn x0_h fun a3 =>
      xL (cell h a3) fun s2 =>
      idx (IntKind.wrap .i64 (x5_k + 1)) s2.n <|
      nn s2.p fun a4 =>
      xP (cell h (a4.add ((IntKind.wrap .i64 (x5_k + 1)).toNat * 1))) fun p0 =>
      nn x0_h fun a5 =>
      xL (cell h a5) fun s3 =>
      idx x5_k s3.n <|
      nn s3.p fun a6 =>
      xP (cell h (a6.add (x5_k.toNat * 1))) fun p1 =>
      HCallV Try.prog E (v0) [.pointer p0, .pointer p1] h fun v1 h0 =>
      xB (some v1) fun b0 =>
      N45_j1 x0_h x1_t x4_i x5_k b0 h0
        (fun n0 h1 =>
          N45_j2 x0_h x1_t x4_i n0 h1
            (fun n1 h2 =>
              K_e0 n1 h2)
            (fun n2 h3 =>
              Φ n2 (IntKind.wrap .i64 ((IntKind.wrap .i64 (2 * n2)) + 1)) h3))
    else
      N45_j1 x0_h x1_t x4_i x5_k false h
        (fun n3 h4 =>
          N45_j2 x0_h x1_t x4_i n3 h4
            (fun n4 h5 =>
              K_e0 n4 h5)
            (fun n5 h6 =>
              Φ n5 (IntKind.wrap .i64 ((IntKind.wrap .i64 (2 * n5)) + 1)) h6))
  else
    K_e0 x4_i h
def N45_l0_B (x0_h : Option Addr) (x1_t : Option Addr) (K_e0 : Int → Hp → Prop) (s : Sg.T [(4, .c (.int .i64)), (5, .c (.int .i64))]) (h : Hp) (Φ : Sg.T [(4, .c (.int .i64)), (5, .c (.int .i64))] → Hp → Prop) : Prop :=
  N45_l0_b x0_h x1_t (fun x4_i x5_k h => Φ (x4_i, x5_k) h) s.1 s.2 h K_e0
def N45_l0 (x0_h : Option Addr) (x1_t : Option Addr) (x4_i : Int) (x5_k : Int) (h : Hp) (K_e0 : Int → Hp → Prop) : Prop :=
  loopP (N45_l0_B x0_h x1_t K_e0) (x4_i, x5_k) h
noncomputable def N45_l0_t : Xf := loopT [(0, .c (.ptr)), (1, .c (.ptr))] [(4, .c (.int .i64)), (5, .c (.int .i64))] (codeAt B45 [1, 0, 1, 0, 0]) fun F Q => N45_l0_B F.1 F.2 (fun o0 h' => Q (.exit 0) (Sg.env [(4, .c (.int .i64))] o0) h')
theorem N45_l0_ok : Sound Try.prog Try.f45.ntmps N45_l0_t (codeAt B45 [1, 0, 1, 0]) := by
  refine loop_sound (fun e => match e with | .exit 0 => [4] | _ => []) (by kernel_rfl) ?_
  intro F Q s h Φ hb
  refine den_sound hE hm _ (.two .leaf (.two (.one (.two (.two (.ord [0, 1, 2, 3, 4, 5, 6, 7, 8, 9, 10, 11, 12, 13, 14, 15, 16, 17, 18, 19, 20, 21, 22, 23, 24, 25, 26, 27, 28, 29]) (.xf N45_j1_t)) (.xf N45_j2_t))) .leaf)) _ _ _ (⟨annOk_leaf, ⟨⟨⟨trivial, N45_j1_ok⟩, N45_j2_ok⟩, annOk_leaf⟩⟩) ?_
  refine cast ?_ hb
  kernel_rfl
def N45 (x0 : Option Addr) (x1 : Option Addr) (h : Hp) (K : Hp → Prop) : Prop :=
  nn x1 fun a0 =>
  xI .i64 (cell h (a0.add 4)) fun n0 =>
  N45_l0 x0 x1 n0 (IntKind.wrap .i64 ((IntKind.wrap .i64 (2 * n0)) + 1)) h
    (fun n1 h0 =>
      C44 x0 n1 x1 h0 fun h1 =>
      K h1)
theorem S45 {x0 : Option Addr} {x1 : Option Addr} {h : Hp} {K : Hp → Prop} (hn : N45 x0 x1 h K) : C45 x0 x1 h K := by
  refine calls_of_D Try.func45 (c := B45) rfl (by kernel_rfl) ?_
  refine den_sound hE hm _ (.two .leaf (.two (.two .leaf (.one (.xf N45_l0_t))) .leaf)) _ _ _ (⟨annOk_leaf, ⟨⟨annOk_leaf, N45_l0_ok⟩, annOk_leaf⟩⟩) ?_
  refine cast ?_ hn
  kernel_rfl
end Go.Proofs.Ytfnlldbaplakoaa

/-
  The wheel's heap in memory: put, up, down, add, drop.
-/
set_option linter.unusedSimpArgs false
set_option linter.unusedVariables false
namespace Go.Proofs.Ytfnlldbaplakoaa
open Go Go.Hw

abbrev ptr (b : Nat) : Value := .pointer (some (bk b))
structure Tm where
  tim : Int
  id : Int
  tag : Int
def tc (t : Tm) (lv pl : Int) : List Value := [.int .i64 t.tim, .int .i64 t.id, .int .i64 t.tag, .int .i64 lv, .int .i64 pl]
abbrev fa (W : Nat) : Value := .func (.func 19) ⟨[ptr W]⟩ ⟨[]⟩

theorem c44 {W u i : Nat} {wl : List Value} {s : Sl} {L : List Nat} {t : Tm} {lv pl : Int} {h : Hp} {K : Hp → Prop} (hW : Blk h W 58 wl) (h258 : wl[258]? = some s.v)
    (ho : Own h 62 1 s (L.map ptr)) (hi : i < L.length) (hu : Blk h u 65 (tc t lv pl))
    (hK : ∀ h', Own h' 62 1 s ((L.set i u).map ptr) → Blk h' u 65 (tc t lv i) → Ext (fun b => s.p = some (bk b) ∨ b = u) h h' → K h') :
    C44 (some ⟨W, 258, none⟩) i (some (bk u)) h K := by
  apply S44; unfold N44
  have hn : s.n = L.length := by have := ho.1; simpa using this.symm
  simp only [nn_some', hW.cell, h258, xL_v]
  refine idx_of (by omega) (by omega) ?_
  obtain ⟨r, hp, ⟨cs, hr⟩, hst⟩ := ho.st (k := i) (by simpa using hi)
  rw [hp]
  simp only [nn_some', add_bk, Int.toNat_natCast, Nat.mul_one]
  refine hst _ _ rfl ?_
  intro h1 ho1 he1
  have hne : u ≠ r := hu.ne hr (by decide)
  have hu1 : Blk h1 u 65 (tc t lv pl) := he1.blk hu hne
  refine hu1.st (by simp [tc]) rfl ?_
  refine hK _ ?_ ?_ ?_
  · rw [List.map_set]
    exact ho1.ext (S := fun b => b = u) (Ext.upd rfl) (by intro b hb; rw [hp] at hb; intro e; subst e; simp only [Option.some.injEq] at hb; exact hne (congrArg Addr.block hb).symm)
  · exact Blk.upd_same
  · exact (he1.mono (fun b o _ hb => .inl (by rw [hb]; exact hp))).trans (Ext.upd (.inr rfl))

theorem hv19 {w x y : Option Addr} {h : Hp} {F : Value → Hp → Prop} (hc : C19 w x y h fun b h' => F (.bool b) h') :
    HCallV Try.prog E (.func (.func 19) ⟨[.pointer w]⟩ ⟨[]⟩) [.pointer x, .pointer y] h F := by
  refine HCalls.mono (K := fun v h' => VT.on (.c (.bool)) (some v) fun r => F (.bool r) h') hc ?_
  intro v h' hv
  obtain ⟨b, e, hF⟩ := VT.on_some hv
  cases e; exact hF

/-- which of two timers comes first -/
def ltT (tm : Nat → Tm) (a b : Nat) : Bool := decide (ordI (tm a).tim (tm a).id (tm b).tim (tm b).id < 0)

theorem ordI_lt {a i b j : Int} : ordI a i b j < 0 ↔ a < b ∨ a = b ∧ i < j := by
  unfold ordI cmpI
  by_cases h1 : a < b
  · simp [h1]
  · by_cases h2 : b < a
    · simp [h1, h2]; omega
    · have : a = b := by omega
      subst this
      simp
      by_cases h3 : i < j
      · simp [h3]
      · by_cases h4 : j < i
        · simp [h3, h4]
        · simp [h3, h4]
theorem ltT_iff {tm : Nat → Tm} {a b : Nat} : ltT tm a b = true ↔ (tm a).tim < (tm b).tim ∨ (tm a).tim = (tm b).tim ∧ (tm a).id < (tm b).id := by
  unfold ltT; rw [decide_eq_true_iff]; exact ordI_lt
theorem ltT_false {tm : Nat → Tm} {a b : Nat} : ltT tm a b = false ↔ (tm b).tim < (tm a).tim ∨ (tm b).tim = (tm a).tim ∧ (tm b).id ≤ (tm a).id := by
  rw [← Bool.not_eq_true, ltT_iff]; omega
theorem lt_trans' {tm : Nat → Tm} (a b c : Nat) (h1 : ltT tm a b = true) (h2 : ltT tm b c = true) : ltT tm a c = true := by rw [ltT_iff] at *; omega
theorem lt_as {tm : Nat → Tm} (a b : Nat) (h1 : ltT tm a b = true) : ltT tm b a = false := by rw [ltT_iff] at h1; rw [ltT_false]; omega
theorem lt_tot {tm : Nat → Tm} (a b c : Nat) (h1 : ltT tm b a = false) (h2 : ltT tm c b = false) : ltT tm c a = false := by rw [ltT_false] at *; omega

/-- the heap in memory with a hole at i, to which t is to come -/
structure Hol (h : Hp) (W : Nat) (wl : List Value) (s : Sl) (tm : Nat → Tm) (L : List Nat) (i t : Nat) : Prop where
  hW : Blk h W 58 wl
  h258 : wl[258]? = some s.v
  h259 : wl[259]? = some (fa W)
  own : Own h 62 1 s (L.map ptr)
  hi : i < L.length
  tms : ∀ j, j < L.length → j ≠ i → Blk h (L.getD j 0) 65 (tc (tm (L.getD j 0)) (-1) j)
  nt : ∀ j, j < L.length → j ≠ i → L.getD j 0 ≠ t
  nd : ∀ j k, j < L.length → k < L.length → j ≠ i → k ≠ i → j ≠ k → L.getD j 0 ≠ L.getD k 0
  ht : ∃ pl, Blk h t 65 (tc (tm t) (-1) pl)
/-- the heap in memory -/
structure Hea (h : Hp) (W : Nat) (wl : List Value) (s : Sl) (tm : Nat → Tm) (L : List Nat) : Prop where
  hW : Blk h W 58 wl
  h258 : wl[258]? = some s.v
  h259 : wl[259]? = some (fa W)
  own : Own h 62 1 s (L.map ptr)
  tms : ∀ j, j < L.length → Blk h (L.getD j 0) 65 (tc (tm (L.getD j 0)) (-1) j)
  nd : ∀ j k, j < L.length → k < L.length → j ≠ k → L.getD j 0 ≠ L.getD k 0

theorem Hol.len {h : Hp} {W : Nat} {wl : List Value} {s : Sl} {tm : Nat → Tm} {L : List Nat} {i t : Nat} (H : Hol h W wl s tm L i t) : s.n = L.length := by
  have := H.own.1; simpa using this.symm
theorem Own.ptr {h : Hp} {s : Sl} {L : List Nat} (ho : Own h 62 1 s (L.map ptr)) {k : Nat} (hk : k < L.length) : ∃ r, s.p = some (bk r) ∧ cell h ⟨r, k, none⟩ = some (ptr (L.getD k 0)) := by
  refine ho.get (k := k) (v := Go.Proofs.Ytfnlldbaplakoaa.ptr (L.getD k 0)) ?_
  rw [List.getElem?_map, List.getD_eq_getElem?_getD, List.getElem?_eq_getElem hk]; rfl

/-- all that was not of the heap's is as it was -/
theorem Hol.ext {h h' : Hp} {W : Nat} {wl : List Value} {s : Sl} {tm : Nat → Tm} {L : List Nat} {i t : Nat} (H : Hol h W wl s tm L i t) (he : Ext none' h h') : Hol h' W wl s tm L i t :=
  ⟨he.blk H.hW id, H.h258, H.h259, H.own.ext he (fun _ _ => id), H.hi, fun j hj hn => he.blk (H.tms j hj hn) id, H.nt, H.nd, let ⟨pl, hp⟩ := H.ht; ⟨pl, he.blk hp id⟩⟩


theorem wpar {j : Nat} (h0 : 0 < j) (h1 : j ≤ 1099511627776) : IntKind.wrap .i64 (Int.tdiv (IntKind.wrap .i64 ((j : Int) - 1)) 2) = (((j - 1) / 2 : Nat) : Int) := by
  rw [wrap64 (n := (j : Int) - 1) (by omega) (by omega), Int.tdiv_eq_ediv_of_nonneg (by omega), wrap64 (by omega) (by omega)]
  omega

abbrev HS (s : Sl) (L : List Nat) : Nat → Prop := fun b => s.p = some (bk b) ∨ b ∈ L

theorem mem_getD {L : List Nat} {k : Nat} (hk : k < L.length) : L.getD k 0 ∈ L := by
  rw [List.getD_eq_getElem?_getD, List.getElem?_eq_getElem hk]; exact List.getElem_mem hk

/-- the last step: t comes to the hole -/
theorem Hol.put {h : Hp} {W : Nat} {wl : List Value} {s : Sl} {tm : Nat → Tm} {L : List Nat} {i t : Nat} {K : Hp → Prop} (H : Hol h W wl s tm L i t)
    (hK : ∀ h', Hea h' W wl s tm (L.set i t) → Ext (fun b => s.p = some (bk b) ∨ b = t) h h' → K h') : C44 (some ⟨W, 258, none⟩) i (some (bk t)) h K := by
  obtain ⟨pl, ht⟩ := H.ht
  refine c44 H.hW H.h258 H.own H.hi ht ?_
  intro h' ho' ht' he
  have nr : ∀ b l, Blk h b 65 l → ¬ s.p = some (bk b) := by
    intro b l hb hp
    obtain ⟨r, hp', hc⟩ := Own.ptr H.own H.hi
    rw [hp] at hp'; simp only [Option.some.injEq] at hp'
    have : b = r := congrArg Addr.block hp'
    subst this
    obtain ⟨b', cs, hp2, hb2, _⟩ := H.own.row (by intro e; have := H.hi; simp at e; subst e; simp at this)
    rw [hp] at hp2; simp only [Option.some.injEq] at hp2
    have : b = b' := congrArg Addr.block hp2
    subst this
    exact (hb.ne hb2 (by decide)) rfl
  refine hK h' ⟨?_, H.h258, H.h259, ho', ?_, ?_⟩ he
  · refine he.blk H.hW ?_
    rintro (hp | hp)
    · obtain ⟨b', cs, hp2, hb2, _⟩ := H.own.row (by intro e; have := H.hi; simp at e; subst e; simp at this)
      rw [hp] at hp2; simp only [Option.some.injEq] at hp2
      have : W = b' := congrArg Addr.block hp2
      subst this; exact (H.hW.ne hb2 (by decide)) rfl
    · subst hp; exact (H.hW.ne ht (by decide)) rfl
  · intro j hj
    simp only [List.length_set] at hj
    rw [Pq.getD_set]
    by_cases e : i = j
    · subst e; rw [if_pos ⟨rfl, hj⟩]; exact ht'
    · rw [if_neg (fun q => e q.1)]
      refine he.blk (H.tms j hj (fun q => e q.symm)) ?_
      rintro (hp | hp)
      · exact nr _ _ (H.tms j hj (fun q => e q.symm)) hp
      · exact H.nt j hj (fun q => e q.symm) hp
  · intro j k hj hk hne
    simp only [List.length_set] at hj hk
    rw [Pq.getD_set, Pq.getD_set]
    by_cases e1 : i = j
    · subst e1
      rw [if_pos ⟨rfl, hj⟩, if_neg (fun q => hne q.1)]
      exact fun q => H.nt k hk (fun q => hne q.symm) q.symm
    · rw [if_neg (fun q => e1 q.1)]
      by_cases e2 : i = k
      · subst e2; rw [if_pos ⟨rfl, hk⟩]; exact H.nt j hj (fun q => e1 q.symm)
      · rw [if_neg (fun q => e2 q.1)]; exact H.nd j k hj hk (fun q => e1 q.symm) (fun q => e2 q.symm) hne

/-- one step of a hole: what stands at p comes to i, the hole is at p then -/
theorem Hol.move {h : Hp} {W : Nat} {wl : List Value} {s : Sl} {tm : Nat → Tm} {L : List Nat} {i p t : Nat} {K : Hp → Prop} (H : Hol h W wl s tm L i t) (hp : p < L.length) (hne : p ≠ i)
    (hK : ∀ h', Hol h' W wl s tm (L.set i (L.getD p 0)) p t → Ext (HS s L) h h' → K h') : C44 (some ⟨W, 258, none⟩) i (some (bk (L.getD p 0))) h K := by
  have hrow := H.own.row (by intro e; have := H.hi; simp at e; subst e; simp at this)
  obtain ⟨r, cs, hpr, hr, _⟩ := hrow
  have nr : ∀ b l, Blk h b 65 l → ¬ s.p = some (bk b) := by
    intro b l hb hp
    rw [hp] at hpr; simp only [Option.some.injEq] at hpr
    have : b = r := congrArg Addr.block hpr
    subst this
    exact (hb.ne hr (by decide)) rfl
  have hu := H.tms p hp hne
  refine c44 H.hW H.h258 H.own H.hi hu ?_
  intro h' ho' hu' he
  obtain ⟨pl, ht⟩ := H.ht
  have keep : ∀ b l, Blk h b 65 l → b ≠ L.getD p 0 → Blk h' b 65 l := by
    intro b l hb hb'
    refine he.blk hb ?_
    rintro (hq | hq)
    · exact nr _ _ hb hq
    · exact hb' hq
  refine hK h' ⟨?_, H.h258, H.h259, ho', by simpa using hp, ?_, ?_, ?_, ?_⟩ (he.mono ?_)
  · refine he.blk H.hW ?_
    rintro (hq | hq)
    · rw [hq] at hpr; simp only [Option.some.injEq] at hpr
      have : W = r := congrArg Addr.block hpr
      subst this; exact (H.hW.ne hr (by decide)) rfl
    · exact (H.hW.ne hu (by decide)) hq
  · intro j hj hjp
    simp only [List.length_set] at hj
    rw [Pq.getD_set]
    by_cases e : i = j
    · subst e; rw [if_pos ⟨rfl, hj⟩]; exact hu'
    · rw [if_neg (fun q => e q.1)]
      exact keep _ _ (H.tms j hj (fun q => e q.symm)) (H.nd j p hj hp (fun q => e q.symm) hne hjp)
  · intro j hj hjp
    simp only [List.length_set] at hj
    rw [Pq.getD_set]
    by_cases e : i = j
    · subst e; rw [if_pos ⟨rfl, hj⟩]; exact H.nt p hp hne
    · rw [if_neg (fun q => e q.1)]; exact H.nt j hj (fun q => e q.symm)
  · intro j k hj hk hjp hkp hjk
    simp only [List.length_set] at hj hk
    rw [Pq.getD_set, Pq.getD_set]
    by_cases e1 : i = j
    · subst e1
      rw [if_pos ⟨rfl, hj⟩, if_neg (fun q => hjk q.1)]
      exact H.nd p k hp hk hne (fun q => hjk q.symm) (fun q => hkp q.symm)
    · rw [if_neg (fun q => e1 q.1)]
      by_cases e2 : i = k
      · subst e2; rw [if_pos ⟨rfl, hk⟩]; exact H.nd j p hj hp (fun q => e1 q.symm) hne hjp
      · rw [if_neg (fun q => e2 q.1)]; exact H.nd j k hj hk (fun q => e1 q.symm) (fun q => e2 q.symm) hjk
  · exact ⟨pl, keep _ _ ht (fun e => H.nt p hp hne e.symm)⟩
  · rintro b o _ (hq | hq)
    · exact .inl hq
    · rw [hq]; exact .inr (mem_getD hp)

theorem c43 {W t i : Nat} {wl : List Value} {s : Sl} {tm : Nat → Tm} {L : List Nat} {h : Hp} {K : Hp → Prop} (H : Hol h W wl s tm L i t) (hpl : Blk h t 65 (tc (tm t) (-1) i)) (hlen : L.length ≤ 1099511627776)
    (hho : Pq.Hole (ltT tm) L i t) (hki : Pq.Kids (ltT tm) L i t)
    (hK : ∀ h' L', Hea h' W wl s tm L' → L'.Perm (L.set i t) → Pq.Heap (ltT tm) L' → Ext (fun b => HS s L b ∨ b = t) h h' → K h') : C43 (some ⟨W, 258, none⟩) (some (bk t)) h K := by
  apply S43; unfold N43
  simp only [nn_some', add_bk, hpl.cell, tc, List.getElem?_cons_zero, List.getElem?_cons_succ, xI_some]
  unfold N43_l0
  refine loopP_inv (fun (x : Int) hc => ∃ (j : Nat) (Lc : List Nat), x = j ∧ Hol hc W wl s tm Lc j t ∧ Pq.Hole (ltT tm) Lc j t ∧ Pq.Kids (ltT tm) Lc j t ∧ (Lc.set j t).Perm (L.set i t) ∧ Ext (fun b => HS s L b ∨ b = t) h hc ∧ (∀ b ∈ Lc, b ∈ L))
    (fun x _ => x.toNat) ?_ ⟨i, L, rfl, H, hho, hki, List.Perm.refl _, Ext.refl, fun b hb => hb⟩
  rintro x hc ⟨j, Lc, rfl, Hc, hh, hk, hperm, he, hsub⟩
  have hl : Lc.length = L.length := by have := hperm.length_eq; simpa using this
  have fin : (j = 0 ∨ ltT tm t (Lc.getD ((j - 1) / 2) 0) = false) → ∀ h2, Ext none' hc h2 → C44 (some ⟨W, 258, none⟩) j (some (bk t)) h2 K := by
    intro hj h2 he2
    refine (Hc.ext he2).put ?_
    intro h' He' he'
    refine hK h' _ He' hperm (hh.done hk Hc.hi hj) ((he.trans (he2.mono (fun _ _ _ => False.elim))).trans (he'.mono ?_))
    rintro b o _ (hq | hq)
    · exact .inl (.inl hq)
    · exact .inr hq
  unfold N43_l0_B N43_l0_b
  by_cases hj : 0 < j
  · have : decide ((j : Int) > 0) = true := by simp; omega
    rw [this, cond_true]
    have hlt : (j - 1) / 2 < Lc.length := by have := Hc.hi; omega
    have hpi := Hc.hi
    simp only [nn_some', add_mk, Hc.hW.cell, Hc.h258, Hc.h259, xA_some, xL_v, wpar hj (by omega), Int.toNat_natCast, Nat.mul_one]
    refine idx_of (by omega) (by rw [Hc.len]; omega) ?_
    obtain ⟨r, hp, hcell⟩ := Own.ptr Hc.own hlt
    rw [hp]
    simp only [nn_some', add_bk, hcell, xP_some]
    refine hv19 ?_
    obtain ⟨pl, ht⟩ := Hc.ht
    have hq := Hc.tms _ hlt (by omega)
    refine c19 (p := [.int .i64 (-1), .int .i64 pl]) (q := [.int .i64 (-1), .int .i64 (((j - 1) / 2 : Nat) : Int)]) ht hq ?_
    intro h2 he2
    have H2 := Hc.ext he2
    simp only [xB_some]
    change (bif ltT tm t (Lc.getD ((j - 1) / 2) 0) then _ else _)
    cases hb : ltT tm t (Lc.getD ((j - 1) / 2) 0) with
    | false =>
      rw [cond_false]
      exact fin (.inr hb) h2 he2
    | true =>
      rw [cond_true]
      simp only [nn_some', H2.hW.cell, H2.h258, xL_v]
      refine idx_of (by omega) (by rw [H2.len]; omega) ?_
      obtain ⟨r2, hp2, hcell2⟩ := Own.ptr H2.own hlt
      rw [hp2]
      simp only [nn_some', add_bk, hcell2, xP_some]
      refine H2.move hlt (by omega) ?_
      intro h3 H3 he3
      obtain ⟨g1, g2⟩ := hh.up lt_trans' lt_as lt_tot hk Hc.hi hj hb
      refine ⟨⟨(j - 1) / 2, _, rfl, H3, g1, g2, ?_, ?_, ?_⟩, by show ((((j - 1) / 2 : Nat)) : Int).toNat < ((j : Nat) : Int).toNat; omega⟩
      · exact (Pq.set_perm Hc.hi hlt (by omega)).trans hperm
      · refine (he.trans (he2.mono (fun _ _ _ => False.elim))).trans (he3.mono ?_)
        rintro b o _ (hq | hq)
        · exact .inl (.inl hq)
        · exact .inl (.inr (hsub b hq))
      · intro b hb
        rcases List.mem_or_eq_of_mem_set hb with h' | h'
        · exact hsub b h'
        · rw [h']; exact hsub _ (mem_getD hlt)
  · have hj0 : j = 0 := by omega
    subst hj0
    have : decide (((0 : Nat) : Int) > 0) = false := by simp
    rw [this, cond_false]
    exact fin (.inl rfl) hc Ext.refl


theorem Hole_set {lt : Nat → Nat → Bool} {L : List Nat} {i t v : Nat} (h : Pq.Hole lt L i t) : Pq.Hole lt (L.set i v) i t := by
  refine ⟨?_, ?_⟩
  · intro j h0 hj hne hp
    simp only [List.length_set] at hj
    rw [Pq.getD_set, Pq.getD_set, if_neg (fun q => hne q.1.symm), if_neg (fun q => hp q.1.symm)]
    exact h.rest j h0 hj hne hp
  · intro j h0 hj hp hi
    simp only [List.length_set] at hj
    rw [Pq.getD_set, Pq.getD_set, if_neg (by omega), if_neg (by omega)]
    exact h.over j h0 hj hp hi
theorem Kids_set {lt : Nat → Nat → Bool} {L : List Nat} {i t v : Nat} (h : Pq.Kids lt L i t) : Pq.Kids lt (L.set i v) i t := by
  intro j h0 hj hp
  simp only [List.length_set] at hj
  rw [Pq.getD_set, if_neg (by omega)]
  exact h j h0 hj hp
theorem Hea.hol {h : Hp} {W : Nat} {wl : List Value} {s : Sl} {tm : Nat → Tm} {L : List Nat} (H : Hea h W wl s tm L) {i t : Nat} (hi : i < L.length) (ht : L.getD i 0 = t) :
    Hol h W wl s tm L i t ∧ Blk h t 65 (tc (tm t) (-1) i) := by
  have hb := H.tms i hi
  rw [ht] at hb
  refine ⟨⟨H.hW, H.h258, H.h259, H.own, hi, fun j hj _ => H.tms j hj, ?_, fun j k hj hk _ _ hjk => H.nd j k hj hk hjk, ⟨_, hb⟩⟩, hb⟩
  intro j hj hne
  rw [← ht]; exact H.nd j i hj hi hne
theorem Hol.len' {h : Hp} {W : Nat} {wl : List Value} {s : Sl} {tm : Nat → Tm} {L : List Nat} {i t : Nat} (H : Hol h W wl s tm L i t) : ((s.n : Nat) : Int) = (L.length : Int) := by rw [H.len]

theorem c45 {W t i : Nat} {wl : List Value} {s : Sl} {tm : Nat → Tm} {L : List Nat} {h : Hp} {K : Hp → Prop} (H : Hol h W wl s tm L i t) (hpl : Blk h t 65 (tc (tm t) (-1) i)) (hlen : L.length ≤ 1099511627776)
    (hho : Pq.Hole (ltT tm) L i t)
    (hK : ∀ h' L' j, Hea h' W wl s tm L' → L'.Perm (L.set i t) → j < L'.length → L'.getD j 0 = t → Pq.Hole (ltT tm) L' j t → Pq.Kids (ltT tm) L' j t → Ext (fun b => HS s L b ∨ b = t) h h' → K h') :
    C45 (some ⟨W, 258, none⟩) (some (bk t)) h K := by
  apply S45; unfold N45
  have hin := H.hi
  simp only [nn_some', add_bk, hpl.cell, tc, List.getElem?_cons_zero, List.getElem?_cons_succ, xI_some]
  have hw0 : ∀ j : Nat, j ≤ 1099511627776 → IntKind.wrap .i64 (IntKind.wrap .i64 (2 * (j : Int)) + 1) = ((2 * j + 1 : Nat) : Int) := by
    intro j hj; rw [wrap64 (n := 2 * (j : Int)) (by omega) (by omega), wrap64 (by omega) (by omega)]; omega
  rw [hw0 i (by omega)]
  unfold N45_l0
  refine loopP_inv (fun (x : Int × Int) hc => ∃ (j : Nat) (Lc : List Nat), x = ((j : Int), ((2 * j + 1 : Nat) : Int)) ∧ Hol hc W wl s tm Lc j t ∧ Pq.Hole (ltT tm) Lc j t ∧ (Lc.set j t).Perm (L.set i t) ∧ Ext (fun b => HS s L b ∨ b = t) h hc ∧ (∀ b ∈ Lc, b ∈ L))
    (fun x _ => (L.length - x.1.toNat)) ?_ ⟨i, L, rfl, H, hho, List.Perm.refl _, Ext.refl, fun b hb => hb⟩
  rintro x hc ⟨j, Lc, rfl, Hc, hh, hperm, he, hsub⟩
  have hl : Lc.length = L.length := by have := hperm.length_eq; simpa using this
  have hji := Hc.hi
  have fin : Pq.Kids (ltT tm) Lc j t → ∀ h2, Ext none' hc h2 → C44 (some ⟨W, 258, none⟩) j (some (bk t)) h2 K := by
    intro hk h2 he2
    refine (Hc.ext he2).put ?_
    intro h' He' he'
    refine hK h' _ j He' hperm (by simpa using hji) (by rw [Pq.getD_set, if_pos ⟨rfl, hji⟩]) (Hole_set hh) (Kids_set hk) ((he.trans (he2.mono (fun _ _ _ => False.elim))).trans (he'.mono ?_))
    rintro b o _ (hq | hq)
    · exact .inl (.inl hq)
    · exact .inr hq
  -- the hole's least child is found: c
  have rest : ∀ (c : Nat) (h2 : Hp), Ext none' hc h2 → c < Lc.length → 0 < c → (c - 1) / 2 = j → (∀ k, 0 < k → k < Lc.length → (k - 1) / 2 = j → ltT tm (Lc.getD k 0) (Lc.getD c 0) = false) →
      N45_j2 (some ⟨W, 258, none⟩) (some (bk t)) j c h2 (fun n1 h0 => C44 (some ⟨W, 258, none⟩) n1 (some (bk t)) h0 fun h1 => K h1)
        (fun n2 h3 => (fun (s' : Int × Int) h' => (∃ (j : Nat) (Lc : List Nat), s' = ((j : Int), ((2 * j + 1 : Nat) : Int)) ∧ Hol h' W wl s tm Lc j t ∧ Pq.Hole (ltT tm) Lc j t ∧ (Lc.set j t).Perm (L.set i t) ∧ Ext (fun b => HS s L b ∨ b = t) h h' ∧ (∀ b ∈ Lc, b ∈ L)) ∧ L.length - s'.1.toNat < L.length - (j : Int).toNat)
          (n2, IntKind.wrap .i64 (IntKind.wrap .i64 (2 * n2) + 1)) h3) := by
    intro c h2 he2 hc1 hc0 hcp hleast
    have H2 := Hc.ext he2
    unfold N45_j2
    simp only [nn_some', add_mk, H2.hW.cell, H2.h258, H2.h259, xA_some, xL_v, Int.toNat_natCast, Nat.mul_one]
    refine idx_of (by omega) (by rw [H2.len]; omega) ?_
    obtain ⟨r, hp, hcell⟩ := Own.ptr H2.own hc1
    rw [hp]
    simp only [nn_some', add_bk, hcell, xP_some]
    refine hv19 ?_
    obtain ⟨pl, ht⟩ := H2.ht
    have hq := H2.tms _ hc1 (by omega)
    refine c19 (p := [.int .i64 (-1), .int .i64 (c : Nat)]) (q := [.int .i64 (-1), .int .i64 pl]) hq ht ?_
    intro h3 he3
    have H3 := H2.ext he3
    simp only [xB_some]
    change (bif !(ltT tm (Lc.getD c 0) t) then _ else _)
    cases hb : ltT tm (Lc.getD c 0) t with
    | false =>
      simp only [Bool.not_false, cond_true]
      refine fin ?_ h3 (he2.trans he3)
      intro k k0 hk hkp
      exact lt_tot _ _ _ hb (hleast k k0 hk hkp)
    | true =>
      simp only [Bool.not_true, cond_false, nn_some', H3.hW.cell, H3.h258, xL_v]
      refine idx_of (by omega) (by rw [H3.len]; omega) ?_
      obtain ⟨r2, hp2, hcell2⟩ := Own.ptr H3.own hc1
      rw [hp2]
      simp only [nn_some', add_bk, hcell2, xP_some]
      refine H3.move hc1 (by omega) ?_
      intro h4 H4 he4
      refine ⟨⟨c, _, by rw [hw0 c (by omega)], H4, hh.down lt_as lt_tot hc0 hc1 hcp hleast, ?_, ?_, ?_⟩, ?_⟩
      · exact (Pq.set_perm Hc.hi hc1 (by omega)).trans hperm
      · refine ((he.trans (he2.mono (fun _ _ _ => False.elim))).trans (he3.mono (fun _ _ _ => False.elim))).trans (he4.mono ?_)
        rintro b o _ (hq | hq)
        · exact .inl (.inl hq)
        · exact .inl (.inr (hsub b hq))
      · intro b hb
        rcases List.mem_or_eq_of_mem_set hb with h' | h'
        · exact hsub b h'
        · rw [h']; exact hsub _ (mem_getD hc1)
      · show L.length - ((c : Nat) : Int).toNat < L.length - ((j : Nat) : Int).toNat
        omega
  unfold N45_l0_B N45_l0_b
  simp only [nn_some', add_mk, Hc.hW.cell, Hc.h258, xL_v]
  by_cases hk : 2 * j + 1 < Lc.length
  · have d1 : decide (((2 * j + 1 : Nat) : Int) < ((s.n : Nat) : Int)) = true := by rw [Hc.len']; simp; omega
    rw [d1, cond_true]
    have w1 : IntKind.wrap .i64 (((2 * j + 1 : Nat) : Int) + 1) = ((2 * j + 2 : Nat) : Int) := by rw [wrap64 (by omega) (by omega)]; omega
    simp only [w1]
    by_cases hk2 : 2 * j + 2 < Lc.length
    · have d2 : decide (((2 * j + 2 : Nat) : Int) < ((s.n : Nat) : Int)) = true := by rw [Hc.len']; simp; omega
      rw [d2, cond_true]
      simp only [Hc.h259, xA_some, Int.toNat_natCast, Nat.mul_one]
      refine idx_of (by omega) (by rw [Hc.len]; omega) ?_
      obtain ⟨r, hp, hcell⟩ := Own.ptr Hc.own hk2
      obtain ⟨r2, hp2, hcell2⟩ := Own.ptr Hc.own hk
      rw [hp] at hp2; simp only [Option.some.injEq] at hp2
      have : r = r2 := congrArg Addr.block hp2
      subst this
      rw [hp]
      simp only [nn_some', add_bk, hcell, xP_some]
      refine idx_of (by omega) (by rw [Hc.len]; omega) ?_
      simp only [hcell2, xP_some]
      refine hv19 ?_
      have ha := Hc.tms _ hk2 (by omega)
      have hb := Hc.tms _ hk (by omega)
      refine c19 (p := [.int .i64 (-1), .int .i64 ((2 * j + 2 : Nat) : Int)]) (q := [.int .i64 (-1), .int .i64 ((2 * j + 1 : Nat) : Int)]) ha hb ?_
      intro h2 he2
      simp only [xB_some]
      unfold N45_j1
      change (bif ltT tm (Lc.getD (2 * j + 2) 0) (Lc.getD (2 * j + 1) 0) then _ else _)
      cases hlt : ltT tm (Lc.getD (2 * j + 2) 0) (Lc.getD (2 * j + 1) 0) with
      | true =>
        rw [cond_true, w1]
        refine rest (2 * j + 2) h2 he2 hk2 (by omega) (by omega) ?_
        intro k k0 hk' hkp
        have : k = 2 * j + 1 ∨ k = 2 * j + 2 := by omega
        rcases this with rfl | rfl
        · exact lt_as _ _ hlt
        · rw [ltT_false]; omega
      | false =>
        rw [cond_false]
        refine rest (2 * j + 1) h2 he2 hk (by omega) (by omega) ?_
        intro k k0 hk' hkp
        have : k = 2 * j + 1 ∨ k = 2 * j + 2 := by omega
        rcases this with rfl | rfl
        · rw [ltT_false]; omega
        · exact hlt
    · have d2 : decide (((2 * j + 2 : Nat) : Int) < ((s.n : Nat) : Int)) = false := by rw [Hc.len']; simp; omega
      rw [d2, cond_false]
      unfold N45_j1
      rw [cond_false]
      refine rest (2 * j + 1) hc Ext.refl hk (by omega) (by omega) ?_
      intro k k0 hk' hkp
      have : k = 2 * j + 1 := by omega
      subst this
      rw [ltT_false]; omega
  · have d1 : decide (((2 * j + 1 : Nat) : Int) < ((s.n : Nat) : Int)) = false := by rw [Hc.len']; simp; omega
    rw [d1, cond_false]
    refine fin ?_ hc Ext.refl
    intro k k0 hk' hkp
    omega


theorem p62a : Try.prog.cellsOf 62 = 1 := by kernel_rfl
theorem p62z : (zc Try.prog 62).length = 1 := by kernel_rfl
theorem p62b : Try.prog.bytesOf 62 = 8 := by kernel_rfl

theorem Hea.len {h : Hp} {W : Nat} {wl : List Value} {s : Sl} {tm : Nat → Tm} {L : List Nat} (H : Hea h W wl s tm L) : s.n = L.length := by
  have := H.own.1; simpa using this.symm
/-- the row of the heap's slice is neither the wheel nor a timer -/
theorem Own.notRow {h : Hp} {s : Sl} {vs : List Value} (ho : Own h 62 1 s vs) {b : Nat} {T : TypeId} {l : List Value} (hb : Blk h b T l) (hT : T ≠ 62) : ¬ s.p = some (bk b) := by
  intro hp
  obtain ⟨_, _, h3⟩ := ho
  rw [hp] at h3
  obtain ⟨_, cs, hr, _⟩ := h3
  exact (hb.ne hr hT) rfl
theorem Hea.keep {S : Nat → Prop} {h h' : Hp} {W : Nat} {wl wl' : List Value} {s : Sl} {tm : Nat → Tm} {L : List Nat} (H : Hea h W wl s tm L) (he : Ext S h h') (hW : Blk h' W 58 wl')
    (h258 : wl'[258]? = some s.v) (h259 : wl'[259]? = some (fa W)) (hs : ∀ b, s.p = some (bk b) → ¬ S b) (hL : ∀ b ∈ L, ¬ S b) : Hea h' W wl' s tm L :=
  ⟨hW, h258, h259, H.own.ext he hs, fun j hj => he.blk (H.tms j hj) (hL _ (mem_getD hj)), H.nd⟩

/-- append of one pointer -/
theorem app1 {s : Sl} {vs : List Value} {h : Hp} {F : Sl → Hp → Prop} {v : Value} {b0 : Nat} (ho : Own h 62 1 s vs) (hb : Blk h b0 62 [v]) (hv : plain v = true) (hlen : s.n ≤ 1099511627776)
    (hF : ∀ s' h', Own h' 62 1 s' (vs ++ [v]) → s'.n = s.n + 1 → Ext (fun b => s.p = some (bk b)) h h' → (∀ b, s'.p = some (bk b) → s.p = some (bk b) ∨ h b = none) → F s' h') :
    apK Try.prog 62 s (.slice (some (bk b0)) 1 1) h F := by
  refine apK_own (n := 1) (ns := [v]) ho p62a p62z (fun _ => rfl) ?_ rfl (by simpa using hv) (by rw [p62b]; omega) hF
  intro G hG
  have : rdN h (bk b0) 0 (1 * 1) = some [v] := by
    have := rdN_blk hb 1 0 (by simp)
    simpa using this
  unfold srcK
  simp only [this]; exact hG

theorem c36 {W t : Nat} {wl : List Value} {s : Sl} {tm : Nat → Tm} {L : List Nat} {lv pl : Int} {h : Hp} {K : Hp → Prop} (H : Hea h W wl s tm L) (hheap : Pq.Heap (ltT tm) L)
    (ht : Blk h t 65 (tc (tm t) lv pl)) (hnt : t ∉ L) (hlen : L.length < 1099511627776) (hwl : wl.length = 261)
    (hK : ∀ h' s' L', Hea h' W (wl.set 258 s'.v) s' tm L' → L'.Perm (L ++ [t]) → Pq.Heap (ltT tm) L' → Ext (fun b => b = W ∨ HS s L b ∨ b = t) h h' →
      (∀ b, s'.p = some (bk b) → s.p = some (bk b) ∨ h b = none) → K h') : C36 (some ⟨W, 258, none⟩) (some (bk t)) h K := by
  apply S36; unfold N36
  simp only [nn_some', H.hW.cell, H.h258, xL_v]
  intro b0 e0
  have n0W : b0 ≠ W := fun e => by subst e; exact (H.hW.ne_none e0) rfl
  have n0t : b0 ≠ t := fun e => by subst e; exact (ht.ne_none e0) rfl
  have e1 : Ext none' h (upd h b0 (.cells ⟨[ptr t]⟩ 62)) := Ext.new e0
  have ho1 := H.own.ext e1 (fun _ _ => id)
  have hlen' := H.len
  refine app1 ho1 Blk.upd_same rfl (by omega) ?_
  intro s' h1 ho' hn' he1 hrow
  have nW : ¬ s.p = some (bk W) := Own.notRow H.own H.hW (by decide)
  have nt : ¬ s.p = some (bk t) := Own.notRow H.own ht (by decide)
  have hW1 : Blk h1 W 58 wl := he1.blk (e1.blk H.hW id) nW
  have ht1 : Blk h1 t 65 (tc (tm t) lv pl) := he1.blk (e1.blk ht id) nt
  have hWt : W ≠ t := H.hW.ne ht (by decide)
  refine hW1.st (by omega) rfl ?_
  have hW2 : Blk (upd h1 W (.cells ⟨wl.set 258 s'.v⟩ 58 (0, 0))) W 58 (wl.set 258 s'.v) := Blk.upd_same
  have ht2 : Blk (upd h1 W (.cells ⟨wl.set 258 s'.v⟩ 58 (0, 0))) t 65 (tc (tm t) lv pl) := ht1.upd_ne hWt.symm
  have g258 : (wl.set 258 s'.v)[258]? = some s'.v := by rw [List.getElem?_set_self (by omega)]
  have g259 : (wl.set 258 s'.v)[259]? = some (fa W) := by rw [List.getElem?_set_ne (by omega)]; exact H.h259
  change xL (cell (upd h1 W (.cells ⟨wl.set 258 s'.v⟩ 58 (0, 0))) ⟨W, 258, none⟩) _
  rw [show Hw.cell (upd h1 W (.cells ⟨wl.set 258 s'.v⟩ 58 (0, 0))) ⟨W, 258, none⟩ = some s'.v by rw [hW2.cell, g258], xL_v]
  simp only [add_bk]
  refine ht2.st (by simp [tc]) rfl ?_
  have ht3 := @Blk.upd_same (upd h1 W (.cells ⟨wl.set 258 s'.v⟩ 58 (0, 0))) t 65 ((tc (tm t) lv pl).set 3 (.int .i64 (-1)))
  refine ht3.st (by simp [tc]) rfl ?_
  have wn : IntKind.wrap .i64 (((s'.n : Nat) : Int) - 1) = ((L.length : Nat) : Int) := by rw [wrap64 (by omega) (by omega)]; omega
  rw [wn]
  have hcells : ((tc (tm t) lv pl).set 3 (.int .i64 (-1))).set 4 (.int .i64 ((L.length : Nat) : Int)) = tc (tm t) (-1) (L.length : Nat) := rfl
  rw [hcells]
  generalize hh4 : upd (upd (upd h1 W (.cells ⟨wl.set 258 s'.v⟩ 58 (0, 0))) t _) t (.cells ⟨tc (tm t) (-1) (L.length : Nat)⟩ 65 (0, 0)) = h4
  have x4 : Ext (fun b => b = W ∨ b = t) h1 h4 := by
    rw [← hh4]
    exact ((Ext.upd (.inl rfl)).trans (Ext.upd (.inr rfl))).trans (Ext.upd (.inr rfl))
  have hW4 : Blk h4 W 58 (wl.set 258 s'.v) := by rw [← hh4]; exact (hW2.upd_ne hWt).upd_ne hWt
  have ht4 : Blk h4 t 65 (tc (tm t) (-1) (L.length : Nat)) := by rw [← hh4]; exact Blk.upd_same
  have ho4 : Own h4 62 1 s' ((L ++ [t]).map ptr) := by
    rw [List.map_append]
    refine ho'.ext x4 ?_
    intro b hb
    rintro (rfl | rfl)
    · exact Own.notRow ho' hW1 (by decide) hb
    · exact Own.notRow ho' ht1 (by decide) hb
  have hmem : ∀ j, j < L.length → (L ++ [t]).getD j 0 = L.getD j 0 := by
    intro j hj; rw [List.getD_eq_getElem?_getD, List.getElem?_append_left hj, ← List.getD_eq_getElem?_getD]
  have hlast : (L ++ [t]).getD L.length 0 = t := by rw [List.getD_eq_getElem?_getD, List.getElem?_append_right (Nat.le_refl _)]; simp
  have Hol4 : Hol h4 W (wl.set 258 s'.v) s' tm (L ++ [t]) L.length t := by
    refine ⟨hW4, g258, g259, ho4, by simp, ?_, ?_, ?_, ⟨_, ht4⟩⟩
    · intro j hj hne
      simp only [List.length_append, List.length_cons, List.length_nil] at hj
      have hj' : j < L.length := by omega
      rw [hmem j hj']
      have hb := H.tms j hj'
      have hb1 := he1.blk (e1.blk hb id) (Own.notRow H.own hb (by decide))
      refine x4.blk hb1 ?_
      rintro (hq | hq)
      · exact (hb.ne H.hW (by decide)) hq
      · exact hnt (hq ▸ mem_getD hj')
    · intro j hj hne
      simp only [List.length_append, List.length_cons, List.length_nil] at hj
      have hj' : j < L.length := by omega
      rw [hmem j hj']; exact fun q => hnt (q ▸ mem_getD hj')
    · intro j k hj hk hjn hkn hjk
      simp only [List.length_append, List.length_cons, List.length_nil] at hj hk
      rw [hmem j (by omega), hmem k (by omega)]; exact H.nd j k (by omega) (by omega) hjk
  refine c43 Hol4 ht4 (by simp; omega) ?_ ?_ ?_
  · refine ⟨?_, ?_⟩
    · intro j h0 hj hne hp
      simp only [List.length_append, List.length_cons, List.length_nil] at hj
      rw [hmem j (by omega), hmem _ (by omega)]; exact hheap j h0 (by omega)
    · intro j h0 hj hp _
      simp only [List.length_append, List.length_cons, List.length_nil] at hj
      omega
  · intro j h0 hj hp
    simp only [List.length_append, List.length_cons, List.length_nil] at hj
    omega
  · intro h' L' H' hperm hheap' he'
    refine hK h' s' L' H' ?_ hheap' ?_ ?_
    · refine hperm.trans ?_
      have : (L ++ [t]).set L.length t = L ++ [t] := by simp
      rw [this]
    · refine (((Ext.refl.then e1 (fun _ _ _ => False.elim)).then he1 ?_).then x4 ?_).then he' ?_
      · intro b o _ hq; exact .inr (.inl (.inl hq))
      · rintro b o _ (hq | hq)
        · exact .inl hq
        · exact .inr (.inr hq)
      · rintro b o hbo ((hq | hq) | hq)
        · rcases hrow b hq with hq' | hq'
          · exact .inr (.inl (.inl hq'))
          · exfalso
            by_cases hbb : b = b0
            · subst hbb; rw [e0] at hbo; cases hbo
            · rw [upd_ne hbb] at hq'; rw [hq'] at hbo; cases hbo
        · rcases List.mem_append.1 hq with hq' | hq'
          · exact .inr (.inl (.inr hq'))
          · simp only [List.mem_singleton] at hq'; exact .inr (.inr hq')
        · exact .inr (.inr hq)
    · intro b hb
      rcases hrow b hb with hq | hq
      · exact .inl hq
      · refine .inr ?_
        by_cases hbb : b = b0
        · subst hbb; exact e0
        · rw [upd_ne hbb] at hq; exact hq

end Go.Proofs.Ytfnlldbaplakoaa

/-
  The wheel's heap in memory: a timer is taken out.
-/
set_option linter.unusedSimpArgs false
set_option linter.unusedVariables false
namespace Go.Proofs.Ytfnlldbaplakoaa
open Go Go.Hw

theorem count_dropLast {L : List Nat} {k : Nat} (hk : L.length = k + 1) : L = L.take k ++ [L.getD k 0] := by
  have h1 : L.drop k = [L.getD k 0] := by
    rw [List.drop_eq_getElem_cons (by omega)]
    have : L.drop (k + 1) = [] := List.drop_eq_nil_of_le (by omega)
    rw [this, List.getD_eq_getElem?_getD, List.getElem?_eq_getElem (by omega)]; rfl
  have h2 := List.take_append_drop k L
  rw [h1] at h2
  exact h2.symm

theorem erase_set_perm {M : List Nat} {i a t : Nat} (hi : i < M.length) (ht : M.getD i 0 = t) : (M.set i a).Perm ((M ++ [a]).erase t) := by
  rw [List.perm_iff_count]
  intro x
  have hget : M[i] = t := by rw [← ht, List.getD_eq_getElem?_getD, List.getElem?_eq_getElem hi]; rfl
  have htm : t ∈ M := hget ▸ List.getElem_mem hi
  rw [List.count_set hi, List.count_erase, List.count_append, List.count_singleton, hget]
  have p1 : 1 ≤ M.count t := List.count_pos_iff.2 htm
  by_cases e1 : t = x
  · subst e1; simp; omega
  · have f1 : (t == x) = false := by simpa using e1
    have f2 : (x == t) = false := by simpa using fun e : x = t => e1 e.symm
    simp [f1, f2]

theorem nodup_of {L : List Nat} (h : ∀ j k, j < L.length → k < L.length → j ≠ k → L.getD j 0 ≠ L.getD k 0) : L.Nodup := by
  unfold List.Nodup
  rw [List.pairwise_iff_getElem]
  intro i j hi hj hij
  have := h i j hi hj (by omega)
  rw [List.getD_eq_getElem?_getD, List.getElem?_eq_getElem hi, List.getD_eq_getElem?_getD, List.getElem?_eq_getElem hj] at this
  exact this
theorem Hea.nodup {h : Hp} {W : Nat} {wl : List Value} {s : Sl} {tm : Nat → Tm} {L : List Nat} (H : Hea h W wl s tm L) : L.Nodup := nodup_of H.nd

theorem c38 {W t i : Nat} {wl : List Value} {s : Sl} {tm : Nat → Tm} {L : List Nat} {h : Hp} {K : Hp → Prop} (H : Hea h W wl s tm L) (hheap : Pq.Heap (ltT tm) L)
    (hi : i < L.length) (hit : L.getD i 0 = t) (hlen : L.length < 1099511627776) (hwl : wl.length = 261)
    (hK : ∀ h' s' L', Hea h' W (wl.set 258 s'.v) s' tm L' → L'.Perm (L.erase t) → Pq.Heap (ltT tm) L' → Ext (fun b => b = W ∨ s.p = some (bk b) ∨ b ∈ L ∧ b ≠ t) h h' → s'.p = s.p → K h') :
    C38 (some ⟨W, 258, none⟩) (some (bk t)) h K := by
  apply S38; unfold N38
  obtain ⟨k, hk⟩ : ∃ k, L.length = k + 1 := ⟨L.length - 1, by omega⟩
  have hn := H.len
  have wn : IntKind.wrap .i64 (((s.n : Nat) : Int) - 1) = ((k : Nat) : Int) := by rw [wrap64 (by omega) (by omega)]; omega
  simp only [nn_some', H.hW.cell, H.h258, xL_v, wn, Int.toNat_natCast, Nat.mul_one]
  refine idx_of (by omega) (by omega) ?_
  obtain ⟨r, hp, hcell⟩ := Own.ptr H.own (k := k) (by omega)
  rw [hp]
  simp only [nn_some', add_bk, hcell, xP_some]
  refine bd_nat (by have := H.own.2.1; omega) ?_
  simp only [sadr_zero]
  refine H.hW.st (by omega) rfl ?_
  have hW1 : Blk (upd h W (.cells ⟨wl.set 258 (.slice s.p k s.c)⟩ 58 (0, 0))) W 58 (wl.set 258 (.slice s.p k s.c)) := Blk.upd_same
  rw [hp] at hW1
  have x1 : Ext (fun b => b = W) h (upd h W (.cells ⟨wl.set 258 (.slice (some (bk r)) k s.c)⟩ 58 (0, 0))) := Ext.upd rfl
  revert hW1 x1
  generalize hh1 : upd h W (.cells ⟨wl.set 258 (.slice (some (bk r)) k s.c)⟩ 58 (0, 0)) = h1
  intro hW1 x1
  have nWr : ∀ b, s.p = some (bk b) → ¬ b = W := fun b hb e => Own.notRow H.own H.hW (by decide) (e ▸ hb)
  have tms1 : ∀ j, j < L.length → Blk h1 (L.getD j 0) 65 (tc (tm (L.getD j 0)) (-1) j) := fun j hj => x1.blk (H.tms j hj) ((H.tms j hj).ne H.hW (by decide))
  have g258 : (wl.set 258 (.slice (some (bk r)) k s.c))[258]? = some (Sl.mk (some (bk r)) k s.c).v := by rw [List.getElem?_set_self (by omega)]; rfl
  have g259 : (wl.set 258 (.slice (some (bk r)) k s.c))[259]? = some (fa W) := by rw [List.getElem?_set_ne (by omega)]; exact H.h259
  have ho1 : Own h1 62 1 ⟨some (bk r), k, s.c⟩ ((L.take k).map ptr) := by
    have := (H.own.ext x1 nWr).cut (k := k) (by omega)
    rw [hp, Nat.mul_one, ← List.map_take] at this; exact this
  have htk : ∀ j, j < k → (L.take k).getD j 0 = L.getD j 0 := by
    intro j hj; rw [List.getD_eq_getElem?_getD, List.getElem?_take, if_pos hj, ← List.getD_eq_getElem?_getD]
  have hlk : (L.take k).length = k := by simp; omega
  have hsplit := count_dropLast hk
  have H1 : Hea h1 W (wl.set 258 (Sl.mk (some (bk r)) k s.c).v) ⟨some (bk r), k, s.c⟩ tm (L.take k) := by
    refine ⟨hW1, g258, g259, ho1, ?_, ?_⟩
    · intro j hj; rw [htk j (by omega)]; exact tms1 j (by omega)
    · intro a b ha hb hab; rw [htk a (by omega), htk b (by omega)]; exact H.nd a b (by omega) (by omega) hab
  have heap1 : Pq.Heap (ltT tm) (L.take k) := by
    intro j h0 hj; rw [htk j (by omega), htk _ (by omega)]; exact hheap j h0 (by omega)
  have hbl := tms1 k (by omega)
  have hbt := tms1 i hi
  rw [hit] at hbt
  refine peq_blk hbl hbt ?_
  by_cases e : L.getD k 0 = t
  · have : decide (L.getD k 0 = t) = true := by simpa using e
    rw [this]
    simp only [Bool.not_true, cond_false]
    refine hK h1 _ (L.take k) H1 ?_ heap1 (x1.mono (fun b o _ hb => .inl hb)) hp.symm
    have hnt : t ∉ L.take k := by
      intro hm
      obtain ⟨a, ha, hat⟩ := List.getElem_of_mem hm
      have ha' : a < k := by omega
      have : (L.take k).getD a 0 = t := by rw [List.getD_eq_getElem?_getD, List.getElem?_eq_getElem ha]; exact hat
      rw [htk a ha'] at this
      exact H.nd a k (by omega) (by omega) (by omega) (this.trans e.symm)
    have : L.erase t = L.take k := by
      conv => lhs; rw [hsplit]
      rw [e, List.erase_append_right _ hnt]; simp
    rw [this]
  · have : decide (L.getD k 0 = t) = false := by simpa using e
    rw [this]
    simp only [Bool.not_false, cond_true, nn_some', add_bk, hbt.cell, tc, List.getElem?_cons_succ, List.getElem?_cons_zero, xI_some]
    have hik : i < k := by
      rcases Nat.lt_or_ge i k with h' | h'
      · exact h'
      · exfalso; have : i = k := by omega
        subst this; exact e hit
    have Hl : Hol h1 W (wl.set 258 (Sl.mk (some (bk r)) k s.c).v) ⟨some (bk r), k, s.c⟩ tm (L.take k) i (L.getD k 0) := by
      refine ⟨hW1, g258, g259, ho1, by omega, fun j hj _ => H1.tms j hj, ?_, fun a b ha hb _ _ hab => H1.nd a b ha hb hab, ⟨_, hbl⟩⟩
      intro j hj _
      rw [htk j (by omega)]; exact H.nd j k (by omega) (by omega) (by omega)
    have hole1 : Pq.Hole (ltT tm) (L.take k) i (L.getD k 0) := by
      refine ⟨fun j h0 hj _ _ => heap1 j h0 hj, ?_⟩
      intro j h0 hj hp' hi0
      have a1 := heap1 j h0 hj
      rw [hp'] at a1
      exact lt_tot _ _ _ (heap1 i hi0 (by omega)) a1
    refine Hl.put ?_
    intro h2 H2 x2
    have hij : ((L.take k).set i (L.getD k 0)).getD i 0 = L.getD k 0 := by rw [Pq.getD_set, if_pos ⟨rfl, by omega⟩]
    obtain ⟨H2h, H2p⟩ := H2.hol (i := i) (by simp; omega) hij
    refine c45 H2h H2p (by simp; omega) (Hole_set hole1) ?_
    intro h3 L3 j H3 perm3 hj3 hjt hole3 kids3 x3
    obtain ⟨H3h, H3p⟩ := H3.hol hj3 hjt
    have hl3 : L3.length = k := by have := perm3.length_eq; simp at this; omega
    refine c43 H3h H3p (by omega) hole3 kids3 ?_
    intro h4 L4 H4 perm4 heap4 x4
    have pm : L4.Perm (L.erase t) := by
      refine perm4.trans ?_
      have e3 : L3.set j (L.getD k 0) = L3 := by
        rw [← hjt, List.getD_eq_getElem?_getD, List.getElem?_eq_getElem hj3]; simp
      rw [e3]
      refine perm3.trans ?_
      rw [List.set_set]
      have : (L.take k).getD i 0 = t := by rw [htk i hik]; exact hit
      have := erase_set_perm (M := L.take k) (i := i) (a := L.getD k 0) (by omega) this
      rw [← hsplit] at this; exact this
    have pm2 : ((L.take k).set i (L.getD k 0)).Perm (L.erase t) := by
      have : (L.take k).getD i 0 = t := by rw [htk i hik]; exact hit
      have := erase_set_perm (M := L.take k) (i := i) (a := L.getD k 0) (by omega) this
      rw [← hsplit] at this; exact this
    have memE : ∀ b, b ∈ L.erase t → b ∈ L ∧ b ≠ t := fun b hb => ⟨List.mem_of_mem_erase hb, fun e => by subst e; exact (List.Nodup.not_mem_erase H.nodup) hb⟩
    have lastL : L.getD k 0 ∈ L ∧ L.getD k 0 ≠ t := ⟨mem_getD (by omega), e⟩
    have mem2 : ∀ b, b ∈ (L.take k).set i (L.getD k 0) → b ∈ L ∧ b ≠ t := fun b hb => memE b (pm2.mem_iff.1 hb)
    have mem3 : ∀ b, b ∈ L3 → b ∈ L ∧ b ≠ t := by
      intro b hb
      have := perm3.mem_iff.1 hb
      rw [List.set_set] at this
      exact mem2 b this
    refine hK h4 _ L4 H4 pm heap4 ?_ hp.symm
    refine (((x1.mono (fun b o _ hb => .inl hb)).then x2 ?_).then x3 ?_).then x4 ?_
    · rintro b o _ (hq | hq)
      · exact .inr (.inl (hp.trans hq))
      · exact .inr (.inr (hq ▸ lastL))
    · rintro b o _ ((hq | hq) | hq)
      · exact .inr (.inl (hp.trans hq))
      · exact .inr (.inr (mem2 b hq))
      · exact .inr (.inr (hq ▸ lastL))
    · rintro b o _ ((hq | hq) | hq)
      · exact .inr (.inl (hp.trans hq))
      · exact .inr (.inr (mem3 b hq))
      · exact .inr (.inr (hq ▸ lastL))

end Go.Proofs.Ytfnlldbaplakoaa

set_option linter.unusedVariables false
set_option maxRecDepth 100000
namespace Go.Proofs.Ytfnlldbaplakoaa
open Go Go.Hw
/-! ### 28 (*slipway/wheel.Wheel).lay -/
noncomputable def B28 : Code := match Try.f28.body with | some c => c | none => .skip
def N28 (x0 : Option Addr) (x1 : Option Addr) (h : Hp) (K : Hp → Prop) : Prop :=
  nn x1 fun a0 =>
  xI .i64 (cell h a0) fun n0 =>
  C35 x0 n0 h fun n1 h0 =>
  bif (n1 == (-1)) then
    nn x0 fun a1 =>
    C36 (some (a1.add 258)) x1 h0 fun h1 =>
    K h1
  else
    nn x1 fun a2 =>
    xI .i64 (cell h0 a2) fun n2 =>
    nn x0 fun a3 =>
    idx n1 4 <|
    C37 n2 n1 h0 fun n3 h2 =>
    idx n3 64 <|
    xL (cell h2 (((a3.add 2).add (n1.toNat * 64)).add (n3.toNat * 1))) fun s0 =>
    nn x1 fun a4 =>
    st h2 (a4.add 3) (.int .i64 n1) fun h3 =>
    nn x1 fun a5 =>
    st h3 (a5.add 4) (.int .i64 ((s0.n : Nat) : Int)) fun h4 =>
    xL (cell h4 (((a3.add 2).add (n1.toNat * 64)).add (n3.toNat * 1))) fun s1 =>
    nw h4 (.cells ⟨[.pointer x1]⟩ 62) fun b0 h5 =>
    apK Try.prog 62 s1 (.slice (some (bk b0)) 1 1) h5 fun s2 h6 =>
    st h6 (((a3.add 2).add (n1.toNat * 64)).add (n3.toNat * 1)) (.slice s2.p s2.n s2.c) fun h7 =>
    K h7
theorem S28 {x0 : Option Addr} {x1 : Option Addr} {h : Hp} {K : Hp → Prop} (hn : N28 x0 x1 h K) : C28 x0 x1 h K := by
  refine calls_of_D Try.func28 (c := B28) rfl (by kernel_rfl) ?_
  refine den_sound hE hm _ (.two .leaf (.two .leaf (.two (.ord [0, 1, 2, 3, 4, 5, 6, 7, 9, 10, 11, 8, 12, 13]) .leaf))) _ _ _ (⟨annOk_leaf, ⟨annOk_leaf, ⟨trivial, annOk_leaf⟩⟩⟩) ?_
  refine cast ?_ hn
  kernel_rfl
end Go.Proofs.Ytfnlldbaplakoaa

set_option linter.unusedVariables false
set_option maxRecDepth 100000
namespace Go.Proofs.Ytfnlldbaplakoaa
open Go Go.Hw
/-! ### 29 (*slipway/wheel.Wheel).take -/
noncomputable def B29 : Code := match Try.f29.body with | some c => c | none => .skip
def N29 (x0 : Option Addr) (x1 : Option Addr) (h : Hp) (K : Hp → Prop) : Prop :=
  nn x0 fun a0 =>
  xM (cell h (a0.add 260)) fun m0 =>
  nn x1 fun a1 =>
  xI .i64 (cell h (a1.add 1)) fun n0 =>
  mdK Try.prog 50 (.map m0) (.int .i64 n0) h fun h0 =>
  nn x1 fun a2 =>
  xI .i64 (cell h0 (a2.add 3)) fun n1 =>
  bif (n1 == (-1)) then
    nn x0 fun a3 =>
    C38 (some (a3.add 258)) x1 h0 fun h1 =>
    K h1
  else
    nn x1 fun a4 =>
    xI .i64 (cell h0 (a4.add 3)) fun n2 =>
    nn x1 fun a5 =>
    xI .i64 (cell h0 a5) fun n3 =>
    nn x1 fun a6 =>
    xI .i64 (cell h0 (a6.add 3)) fun n4 =>
    nn x0 fun a7 =>
    idx n2 4 <|
    C37 n3 n4 h0 fun n5 h2 =>
    both (xI .i64 (cell h2 (a4.add 3)) fun n6 => Only (.int .i64 n2) h2 (.int .i64 n6) h2) <|
    idx n5 64 <|
    xL (cell h2 (((a7.add 2).add (n2.toNat * 64)).add (n5.toNat * 1))) fun s0 =>
    xL (cell h2 (((a7.add 2).add (n2.toNat * 64)).add (n5.toNat * 1))) fun s1 =>
    idx (IntKind.wrap .i64 (((s0.n : Nat) : Int) - 1)) s1.n <|
    nn s1.p fun a8 =>
    xP (cell h2 (a8.add ((IntKind.wrap .i64 (((s0.n : Nat) : Int) - 1)).toNat * 1))) fun p0 =>
    xL (cell h2 (((a7.add 2).add (n2.toNat * 64)).add (n5.toNat * 1))) fun s2 =>
    nn x1 fun a9 =>
    xI .i64 (cell h2 (a9.add 4)) fun n7 =>
    idx n7 s2.n <|
    nn s2.p fun a10 =>
    st h2 (a10.add (n7.toNat * 1)) (.pointer p0) fun h3 =>
    nn x1 fun a11 =>
    xI .i64 (cell h3 (a11.add 4)) fun n8 =>
    nn p0 fun a12 =>
    st h3 (a12.add 4) (.int .i64 n8) fun h4 =>
    xL (cell h4 (((a7.add 2).add (n2.toNat * 64)).add (n5.toNat * 1))) fun s3 =>
    bd (IntKind.wrap .i64 (((s0.n : Nat) : Int) - 1)) s3.c fun k0 =>
    st h4 (((a7.add 2).add (n2.toNat * 64)).add (n5.toNat * 1)) (.slice (sadr s3.p s3.c 0 1) k0 s3.c) fun h5 =>
    K h5
theorem S29 {x0 : Option Addr} {x1 : Option Addr} {h : Hp} {K : Hp → Prop} (hn : N29 x0 x1 h K) : C29 x0 x1 h K := by
  refine calls_of_D Try.func29 (c := B29) rfl (by kernel_rfl) ?_
  refine den_sound hE hm _ (.two (.ord [0, 1, 2, 3, 4, 5, 6, 7, 8, 9]) (.two .leaf (.two (.ord [0, 1, 2, 3, 4, 5, 6, 7, 8, 9, 10, 11, 12, 13, 15, 16, 17, 14, 18, 19]) (.two .leaf (.two .leaf (.two (.ord [0, 1, 2, 3, 4, 5, 6, 7, 8, 9]) .leaf)))))) _ _ _ (⟨trivial, ⟨annOk_leaf, ⟨trivial, ⟨annOk_leaf, ⟨annOk_leaf, ⟨trivial, annOk_leaf⟩⟩⟩⟩⟩⟩) ?_
  refine cast ?_ hn
  kernel_rfl
end Go.Proofs.Ytfnlldbaplakoaa

/-
  The wheel in memory.
-/
set_option linter.unusedSimpArgs false
set_option linter.unusedVariables false
namespace Go.Proofs.Ytfnlldbaplakoaa
open Go Go.Hw

/-! ### lists told by a function -/
def fl (n : Nat) (f : Nat → Value) : List Value := (List.range n).map f
def fup {α : Type} (f : Nat → α) (k : Nat) (v : α) : Nat → α := fun x => if x = k then v else f x
@[simp] theorem fl_len {n : Nat} {f : Nat → Value} : (fl n f).length = n := by simp [fl]
theorem fl_get {n k : Nat} {f : Nat → Value} (hk : k < n) : (fl n f)[k]? = some (f k) := by simp [fl, hk]
theorem fl_set {n k : Nat} {f : Nat → Value} {v : Value} : (fl n f).set k v = fl n (fup f k v) := by
  apply List.ext_getElem?
  intro i
  rw [List.getElem?_set]
  by_cases hi : i < n
  · rw [fl_get hi, fl_get hi]
    by_cases h : k = i
    · subst h; rw [if_pos rfl, if_pos (by simpa using hi)]; simp [fup]
    · rw [if_neg h]
      have h' : ¬ i = k := fun e => h e.symm
      simp [fup, h']
  · have hn : ∀ g, (fl n g)[i]? = none := fun g => List.getElem?_eq_none (by simp; omega)
    rw [hn, hn]
    by_cases h : k = i
    · subst h; rw [if_pos rfl, if_neg (by simpa using hi)]
    · rw [if_neg h]
theorem fl_congr {n : Nat} {f g : Nat → Value} (h : ∀ k, k < n → f k = g k) : fl n f = fl n g := by
  unfold fl; apply List.map_congr_left; intro k hk; exact h k (by simpa using hk)

/-- the wheel, as it is told -/
structure WS where
  now : Int
  last : Int
  mb : Nat
  es : Array MapEntry
  clk : Nat
  rows : Nat → Sl
  ct : Nat → List Nat
def wf (W : Nat) (w : WS) (k : Nat) : Value :=
  if k = 0 then .int .i64 w.now else if k = 1 then .int .i64 w.last else if k < 259 then (w.rows (k - 2)).v else if k = 259 then fa W else .map (some w.mb)
def wl (W : Nat) (w : WS) : List Value := fl 261 (wf W w)

@[simp] theorem wl_len {W : Nat} {w : WS} : (wl W w).length = 261 := fl_len
@[simp] theorem wl_0 {W : Nat} {w : WS} : (wl W w)[0]? = some (.int .i64 w.now) := fl_get (by omega)
@[simp] theorem wl_1 {W : Nat} {w : WS} : (wl W w)[1]? = some (.int .i64 w.last) := fl_get (by omega)
theorem wl_row {W : Nat} {w : WS} {j : Nat} (hj : j < 257) : (wl W w)[2 + j]? = some (w.rows j).v := by
  unfold wl; rw [fl_get (by omega)]
  have e : 2 + j - 2 = j := by omega
  unfold wf
  rw [if_neg (by omega), if_neg (by omega), if_pos (by omega), e]
@[simp] theorem wl_258 {W : Nat} {w : WS} : (wl W w)[258]? = some (w.rows 256).v := wl_row (j := 256) (by omega)
@[simp] theorem wl_259 {W : Nat} {w : WS} : (wl W w)[259]? = some (fa W) := fl_get (by omega)
@[simp] theorem wl_260 {W : Nat} {w : WS} : (wl W w)[260]? = some (.map (some w.mb)) := fl_get (by omega)
theorem wl_setrow {W : Nat} {w : WS} {j : Nat} {s : Sl} (hj : j < 257) : (wl W w).set (2 + j) s.v = wl W { w with rows := fup w.rows j s } := by
  unfold wl; rw [fl_set]
  apply fl_congr
  intro k hk
  unfold fup wf
  by_cases h : k = 2 + j
  · subst h
    have e : 2 + j - 2 = j := by omega
    rw [if_pos rfl, if_neg (by omega), if_neg (by omega), if_pos (by omega), e]; simp
  · rw [if_neg h]
    by_cases h0 : k = 0
    · simp [h0]
    · by_cases h1 : k = 1
      · simp [h1]
      · have : ¬ k - 2 = j := by omega
        simp [h0, h1, this]
theorem wl_setnow {W : Nat} {w : WS} {t : Int} : (wl W w).set 0 (.int .i64 t) = wl W { w with now := t } := by
  unfold wl; rw [fl_set]
  apply fl_congr
  intro k hk
  unfold fup wf
  by_cases h : k = 0 <;> simp [h]
theorem wl_setlast {W : Nat} {w : WS} {t : Int} : (wl W w).set 1 (.int .i64 t) = wl W { w with last := t } := by
  unfold wl; rw [fl_set]
  apply fl_congr
  intro k hk
  unfold fup wf
  by_cases h : k = 1 <;> simp [h]

/-- the level that stands in a timer of a row -/
def lvl (j : Nat) : Int := if j = 256 then -1 else ((j / 64 : Nat) : Int)

/-- the memory is as it is told -/
structure Mem (h : Hp) (W : Nat) (tm : Nat → Tm) (w : WS) : Prop where
  hW : Blk h W 58 (wl W w)
  hm : h w.mb = some (.map w.es w.clk)
  own : ∀ j, j < 257 → Own h 62 1 (w.rows j) ((w.ct j).map ptr)
  rinj : ∀ j j' b, j < 257 → j' < 257 → (w.rows j).p = some (bk b) → (w.rows j').p = some (bk b) → j = j'
  tms : ∀ j, j < 257 → ∀ p, p < (w.ct j).length → Blk h ((w.ct j).getD p 0) 65 (tc (tm ((w.ct j).getD p 0)) (lvl j) p)
  nd : ∀ j j' p p', j < 257 → j' < 257 → p < (w.ct j).length → p' < (w.ct j').length → (w.ct j).getD p 0 = (w.ct j').getD p' 0 → j = j' ∧ p = p'

/-- the blocks of a wheel -/
def FP (W : Nat) (w : WS) : Nat → Prop := fun b => b = W ∨ b = w.mb ∨ (∃ j, j < 257 ∧ (w.rows j).p = some (bk b)) ∨ ∃ j, j < 257 ∧ b ∈ w.ct j

theorem mem_getD' {L : List Nat} {b : Nat} (hb : b ∈ L) : ∃ p, p < L.length ∧ L.getD p 0 = b := by
  obtain ⟨p, hp, e⟩ := List.getElem_of_mem hb
  exact ⟨p, hp, by rw [List.getD_eq_getElem?_getD, List.getElem?_eq_getElem hp]; exact e⟩

theorem Mem.ext {S : Nat → Prop} {h h' : Hp} {W : Nat} {tm : Nat → Tm} {w : WS} (M : Mem h W tm w) (he : Ext S h h') (hs : ∀ b, FP W w b → ¬ S b) : Mem h' W tm w :=
  ⟨he.blk M.hW (hs _ (.inl rfl)), he _ _ M.hm (hs _ (.inr (.inl rfl))), fun j hj => (M.own j hj).ext he (fun b hb => hs b (.inr (.inr (.inl ⟨j, hj, hb⟩)))), M.rinj,
   fun j hj p hp => he.blk (M.tms j hj p hp) (hs _ (.inr (.inr (.inr ⟨j, hj, mem_getD hp⟩)))), M.nd⟩
theorem Mem.ext0 {h h' : Hp} {W : Nat} {tm : Nat → Tm} {w : WS} (M : Mem h W tm w) (he : Ext none' h h') : Mem h' W tm w := M.ext he (fun _ _ => id)
theorem Mem.len {h : Hp} {W : Nat} {tm : Nat → Tm} {w : WS} (M : Mem h W tm w) {j : Nat} (hj : j < 257) : (w.rows j).n = (w.ct j).length := by
  have := (M.own j hj).1; simpa using this.symm
theorem Mem.notRow {h : Hp} {W : Nat} {tm : Nat → Tm} {w : WS} (M : Mem h W tm w) {j b : Nat} (hj : j < 257) {T : TypeId} {l : List Value} (hb : Blk h b T l) (hT : T ≠ 62) : ¬ (w.rows j).p = some (bk b) :=
  Own.notRow (M.own j hj) hb hT
theorem map_ne {h : Hp} {b m : Nat} {T : TypeId} {l : List Value} {es : Array MapEntry} {c : Nat} (hb : Blk h b T l) (hm : h m = some (.map es c)) : b ≠ m := by
  rintro rfl; unfold Blk at hb; rw [hb] at hm; cases hm
/-- the blocks of a wheel are there -/
theorem Mem.there {h : Hp} {W : Nat} {tm : Nat → Tm} {w : WS} (M : Mem h W tm w) {b : Nat} (hb : FP W w b) : h b ≠ none := by
  rcases hb with rfl | rfl | ⟨j, hj, hp⟩ | ⟨j, hj, hp⟩
  · intro e; have := M.hW; unfold Blk at this; rw [e] at this; cases this
  · rw [M.hm]; intro e; cases e
  · have := (M.own j hj).2.2
    rw [hp] at this
    obtain ⟨_, cs, hb, _⟩ := this
    intro e; unfold Blk at hb; rw [e] at hb; cases hb
  · obtain ⟨p, hp', rfl⟩ := mem_getD' hp
    intro e; have := M.tms j hj p hp'; unfold Blk at this; rw [e] at this; cases this

/-- the heap of the wheel, as the heap's own laws have it -/
theorem Mem.hea {h : Hp} {W : Nat} {tm : Nat → Tm} {w : WS} (M : Mem h W tm w) : Hea h W (wl W w) (w.rows 256) tm (w.ct 256) :=
  ⟨M.hW, wl_258, wl_259, M.own 256 (by omega), fun j hj => M.tms 256 (by omega) j hj, fun j k hj hk hjk e => hjk (M.nd 256 256 j k (by omega) (by omega) hj hk e).2⟩

/-- and back: what the heap's laws leave is a wheel again -/
theorem Mem.ofHea {h h' : Hp} {W : Nat} {tm : Nat → Tm} {w : WS} (M : Mem h W tm w) {s' : Sl} {L' : List Nat} {S : Nat → Prop} (H : Hea h' W (wl W { w with rows := fup w.rows 256 s' }) s' tm L') (he : Ext S h h')
    (hS : ∀ b, S b → b = W ∨ (w.rows 256).p = some (bk b) ∨ (∀ j, j < 256 → b ∉ w.ct j) ∧ ∃ l, Blk h b 65 l)
    (hrow : ∀ b, s'.p = some (bk b) → (w.rows 256).p = some (bk b) ∨ h b = none)
    (hL : ∀ b ∈ L', ∀ j, j < 256 → b ∉ w.ct j) : Mem h' W tm { w with rows := fup w.rows 256 s', ct := fup w.ct 256 L' } := by
  have keep : ∀ j, j < 256 → ∀ p, p < (w.ct j).length → Blk h' ((w.ct j).getD p 0) 65 (tc (tm ((w.ct j).getD p 0)) (lvl j) p) := by
    intro j hj p hp
    have hb := M.tms j (by omega) p hp
    refine he.blk hb ?_
    intro hs
    rcases hS _ hs with e | e | ⟨e, _⟩
    · exact (hb.ne M.hW (by decide)) e
    · exact M.notRow (by omega) hb (by decide) e
    · exact e j hj (mem_getD hp)
  have rowk : ∀ j b, j < 256 → (w.rows j).p = some (bk b) → ¬ S b := by
    intro j b hj hp hs
    have hr := (M.own j (by omega)).2.2
    rw [hp] at hr
    obtain ⟨_, cs, hb, _⟩ := hr
    rcases hS _ hs with e | e | ⟨_, l, e⟩
    · exact (hb.ne M.hW (by decide)) e
    · have := M.rinj _ _ _ (by omega) (by omega) hp e; omega
    · exact (hb.ne e (by decide)) rfl
  refine ⟨H.hW, ?_, ?_, ?_, ?_, ?_⟩
  · refine he _ _ M.hm ?_
    intro hs
    rcases hS _ hs with e | e | ⟨_, l, e⟩
    · exact (map_ne M.hW M.hm) e.symm
    · have hr := (M.own 256 (by omega)).2.2
      rw [e] at hr
      obtain ⟨_, cs, hb, _⟩ := hr
      exact (map_ne hb M.hm) rfl
    · exact (map_ne e M.hm) rfl
  · intro j hj
    simp only [fup]
    by_cases e : j = 256
    · subst e; simp only [if_true]; exact H.own
    · simp only [e, if_false]
      exact (M.own j hj).ext he (fun b hb => rowk j b (by omega) hb)
  · intro j j' b hj hj' h1 h2
    simp only [fup] at h1 h2
    have new : ∀ k, k < 257 → k ≠ 256 → (w.rows k).p = some (bk b) → s'.p = some (bk b) → False := by
      intro k hk hne h3 h4
      rcases hrow b h4 with e | e
      · exact hne (M.rinj _ _ _ hk (by omega) h3 e)
      · exact M.there (.inr (.inr (.inl ⟨k, hk, h3⟩))) e
    by_cases e1 : j = 256
    · by_cases e2 : j' = 256
      · omega
      · simp only [e1, if_true] at h1; simp only [e2, if_false] at h2
        exact (new j' hj' e2 h2 h1).elim
    · by_cases e2 : j' = 256
      · simp only [e1, if_false] at h1; simp only [e2, if_true] at h2
        exact (new j hj e1 h1 h2).elim
      · simp only [e1, if_false] at h1; simp only [e2, if_false] at h2
        exact M.rinj _ _ _ hj hj' h1 h2
  · intro j hj p hp
    simp only [fup] at hp ⊢
    by_cases e : j = 256
    · subst e; simp only [if_true] at hp ⊢; exact H.tms p hp
    · simp only [e, if_false] at hp ⊢; exact keep j (by omega) p hp
  · intro j j' p p' hj hj' hp hp' heq
    simp only [fup] at hp hp' heq
    by_cases e1 : j = 256
    · by_cases e2 : j' = 256
      · simp only [e1, e2, if_true] at hp hp' heq
        refine ⟨by omega, ?_⟩
        by_cases e3 : p = p'
        · exact e3
        · exact (H.nd p p' hp hp' e3 heq).elim
      · simp only [e1, if_true] at hp heq; simp only [e2, if_false] at hp' heq
        exact (hL _ (mem_getD hp) j' (by omega) (heq ▸ mem_getD hp')).elim
    · by_cases e2 : j' = 256
      · simp only [e1, if_false] at hp heq; simp only [e2, if_true] at hp' heq
        exact (hL _ (mem_getD hp') j (by omega) (heq ▸ mem_getD hp)).elim
      · simp only [e1, if_false] at hp heq; simp only [e2, if_false] at hp' heq
        exact M.nd j j' p p' hj hj' hp hp' heq

end Go.Proofs.Ytfnlldbaplakoaa

/-
  The wheel: a timer is laid, a timer is taken.
-/
set_option linter.unusedSimpArgs false
set_option linter.unusedVariables false
namespace Go.Proofs.Ytfnlldbaplakoaa
open Go Go.Hw

/-- the row where a time belongs -/
def slotOf (now t : Int) : Nat := if lev now t = -1 then 256 else (lev now t).toNat * 64 + (dg t (lev now t)).toNat
theorem lev_bd (now t : Int) : lev now t = -1 ∨ lev now t = 0 ∨ lev now t = 1 ∨ lev now t = 2 ∨ lev now t = 3 := by
  unfold lev; split
  · exact .inl rfl
  · split
    · exact .inr (.inr (.inr (.inr rfl)))
    · split
      · exact .inr (.inr (.inr (.inl rfl)))
      · split
        · exact .inr (.inr (.inl rfl))
        · exact .inr (.inl rfl)
theorem dg_bd (t k : Int) : 0 ≤ dg t k ∧ dg t k < 64 := by unfold dg; omega
theorem slotOf_far {now t : Int} : slotOf now t = 256 ↔ lev now t = -1 := by
  unfold slotOf
  have h1 := lev_bd now t
  have h2 := dg_bd t (lev now t)
  split
  · rename_i h; simp [h]
  · rename_i h; constructor
    · intro h'; omega
    · intro h'; exact (h h').elim
theorem slotOf_lt (now t : Int) : slotOf now t < 257 := by
  unfold slotOf
  have h1 := lev_bd now t
  have h2 := dg_bd t (lev now t)
  split <;> omega

/-- a row with one more timer -/
theorem Mem.push {h h' : Hp} {W : Nat} {tm : Nat → Tm} {w : WS} (M : Mem h W tm w) {j b : Nat} (hj : j < 256) {s' : Sl} (hW : Blk h' W 58 (wl W { w with rows := fup w.rows j s' }))
    (ho : Own h' 62 1 s' ((w.ct j ++ [b]).map ptr)) (hb : Blk h' b 65 (tc (tm b) (lvl j) (w.ct j).length)) (hb0 : ∃ l, Blk h b 65 l) (hnb : ∀ j, j < 257 → b ∉ w.ct j) (he : Ext (fun x => x = W ∨ (w.rows j).p = some (bk x) ∨ x = b) h h')
    (hrow : ∀ b, s'.p = some (bk b) → (w.rows j).p = some (bk b) ∨ h b = none) : Mem h' W tm { w with rows := fup w.rows j s', ct := fup w.ct j (w.ct j ++ [b]) } := by
  obtain ⟨lb, hb0⟩ := hb0
  have nrow : ∀ x T l, Blk h x T l → T ≠ 62 → ¬ (w.rows j).p = some (bk x) := fun x T l hx hT => M.notRow (by omega) hx hT
  have rowk : ∀ k x, k < 257 → k ≠ j → (w.rows k).p = some (bk x) → ¬ (x = W ∨ (w.rows j).p = some (bk x) ∨ x = b) := by
    intro k x hk hne hp
    rintro (e | e | e)
    · subst e; exact M.notRow hk M.hW (by decide) hp
    · exact hne (M.rinj _ _ _ hk (by omega) hp e)
    · subst e; exact M.notRow hk hb0 (by decide) hp
  refine ⟨hW, ?_, ?_, ?_, ?_, ?_⟩
  · refine he _ _ M.hm ?_
    rintro (e | e | e)
    · exact (map_ne M.hW M.hm) e.symm
    · have hr := (M.own j (by omega)).2.2
      rw [e] at hr
      obtain ⟨_, cs, hr, _⟩ := hr
      exact (map_ne hr M.hm) rfl
    · exact (map_ne hb0 M.hm) e.symm
  · intro k hk
    simp only [fup]
    by_cases e : k = j
    · subst e; simp only [if_true]; exact ho
    · simp only [e, if_false]; exact (M.own k hk).ext he (fun x hx => rowk k x hk e hx)
  · intro k k' x hk hk' h1 h2
    simp only [fup] at h1 h2
    have new : ∀ k, k < 257 → k ≠ j → (w.rows k).p = some (bk x) → s'.p = some (bk x) → False := by
      intro k hk hne h3 h4
      rcases hrow x h4 with e | e
      · exact hne (M.rinj _ _ _ hk (by omega) h3 e)
      · exact M.there (.inr (.inr (.inl ⟨k, hk, h3⟩))) e
    by_cases e1 : k = j
    · by_cases e2 : k' = j
      · omega
      · simp only [e1, if_true] at h1; simp only [e2, if_false] at h2; exact (new k' hk' e2 h2 h1).elim
    · by_cases e2 : k' = j
      · simp only [e1, if_false] at h1; simp only [e2, if_true] at h2; exact (new k hk e1 h1 h2).elim
      · simp only [e1, if_false] at h1; simp only [e2, if_false] at h2; exact M.rinj _ _ _ hk hk' h1 h2
  · intro k hk p hp
    simp only [fup] at hp ⊢
    have old : ∀ k, k < 257 → ∀ p, p < (w.ct k).length → Blk h' ((w.ct k).getD p 0) 65 (tc (tm ((w.ct k).getD p 0)) (lvl k) p) := by
      intro k hk p hp
      have hx := M.tms k hk p hp
      refine he.blk hx ?_
      rintro (e | e | e)
      · exact (hx.ne M.hW (by decide)) e
      · exact nrow _ _ _ hx (by decide) e
      · exact hnb k hk (e ▸ mem_getD hp)
    by_cases e : k = j
    · subst e
      simp only [if_true] at hp ⊢
      simp only [List.length_append, List.length_cons, List.length_nil] at hp
      by_cases hpl : p < (w.ct k).length
      · have : (w.ct k ++ [b]).getD p 0 = (w.ct k).getD p 0 := by rw [List.getD_eq_getElem?_getD, List.getElem?_append_left hpl, ← List.getD_eq_getElem?_getD]
        rw [this]; exact old k hk p hpl
      · have hpe : p = (w.ct k).length := by omega
        subst hpe
        have : (w.ct k ++ [b]).getD (w.ct k).length 0 = b := by rw [List.getD_eq_getElem?_getD, List.getElem?_append_right (Nat.le_refl _)]; simp
        rw [this]; exact hb
    · simp only [e, if_false] at hp ⊢; exact old k hk p hp
  · have gl : ∀ p, p < (w.ct j).length → (w.ct j ++ [b]).getD p 0 = (w.ct j).getD p 0 := fun p hp => by
      rw [List.getD_eq_getElem?_getD, List.getElem?_append_left hp, ← List.getD_eq_getElem?_getD]
    have gb : (w.ct j ++ [b]).getD (w.ct j).length 0 = b := by rw [List.getD_eq_getElem?_getD, List.getElem?_append_right (Nat.le_refl _)]; simp
    intro k k' p p' hk hk' hp hp' heq
    simp only [fup] at hp hp' heq
    by_cases e1 : k = j
    · subst e1
      simp only [if_true, List.length_append, List.length_cons, List.length_nil] at hp heq
      by_cases e2 : k' = k
      · subst e2
        simp only [if_true, List.length_append, List.length_cons, List.length_nil] at hp' heq
        by_cases h1 : p < (w.ct k').length
        · by_cases h2 : p' < (w.ct k').length
          · rw [gl p h1, gl p' h2] at heq; exact M.nd _ _ _ _ hk hk h1 h2 heq
          · have : p' = (w.ct k').length := by omega
            subst this
            rw [gl p h1, gb] at heq; exact (hnb k' hk (heq ▸ mem_getD h1)).elim
        · have hpe : p = (w.ct k').length := by omega
          by_cases h2 : p' < (w.ct k').length
          · rw [hpe, gb, gl p' h2] at heq; exact (hnb k' hk (heq ▸ mem_getD h2)).elim
          · exact ⟨rfl, by omega⟩
      · simp only [e2, if_false] at hp' heq
        by_cases h1 : p < (w.ct k).length
        · rw [gl p h1] at heq; exact M.nd _ _ _ _ hk hk' h1 hp' heq
        · have hpe : p = (w.ct k).length := by omega
          rw [hpe, gb] at heq; exact (hnb k' hk' (heq ▸ mem_getD hp')).elim
    · simp only [e1, if_false] at hp heq
      by_cases e2 : k' = j
      · subst e2
        simp only [if_true, List.length_append, List.length_cons, List.length_nil] at hp' heq
        by_cases h2 : p' < (w.ct k').length
        · rw [gl p' h2] at heq; exact M.nd _ _ _ _ hk hk' hp h2 heq
        · have hpe : p' = (w.ct k').length := by omega
          rw [hpe, gb] at heq; exact (hnb k hk (heq ▸ mem_getD hp)).elim
      · simp only [e2, if_false] at hp' heq
        exact M.nd _ _ _ _ hk hk' hp hp' heq

/-- what laying or taking leaves of a wheel beside its rows -/
structure Beside (w w' : WS) : Prop where
  now : w'.now = w.now
  last : w'.last = w.last
  mb : w'.mb = w.mb
  es : w'.es = w.es
  clk : w'.clk = w.clk

theorem c28 {W b : Nat} {tm : Nat → Tm} {w : WS} {lv pl : Int} {h : Hp} {K : Hp → Prop} (M : Mem h W tm w) (hheap : Pq.Heap (ltT tm) (w.ct 256)) (hb : Blk h b 65 (tc (tm b) lv pl)) (hnb : ∀ j, j < 257 → b ∉ w.ct j)
    (hn0 : 0 ≤ w.now) (hn1 : w.now ≤ MaxT) (ht0 : 0 ≤ (tm b).tim) (ht1 : (tm b).tim ≤ MaxT) (hlen : ∀ j, j < 257 → (w.ct j).length < 1099511627776)
    (hK : ∀ h' w', Mem h' W tm w' → Beside w w' → (∀ j, j ≠ slotOf w.now (tm b).tim → w'.ct j = w.ct j) → (w'.ct (slotOf w.now (tm b).tim)).Perm (w.ct (slotOf w.now (tm b).tim) ++ [b]) → Pq.Heap (ltT tm) (w'.ct 256) →
      Ext (fun x => FP W w x ∨ x = b) h h' → (∀ x, FP W w' x → FP W w x ∨ x = b ∨ h x = none) → K h') : C28 (some (bk W)) (some (bk b)) h K := by
  apply S28; unfold N28
  have hb0 : cell h (bk b) = some (.int .i64 (tm b).tim) := by rw [hb.cell]; rfl
  unfold MaxT at hn1 ht1
  simp only [nn_some', hb0, xI_some]
  refine c35 M.hW wl_0 hn0 hn1 ht0 ht1 ?_
  have hlv := lev_bd w.now (tm b).tim
  by_cases hf : lev w.now (tm b).tim = -1
  · have : (lev w.now (tm b).tim == -1) = true := by simpa using hf
    rw [this, cond_true]
    simp only [add_bk]
    have hs : slotOf w.now (tm b).tim = 256 := slotOf_far.2 hf
    rw [hs] at hK
    refine c36 M.hea hheap hb (hnb 256 (by omega)) (hlen 256 (by omega)) wl_len ?_
    intro h' s' L' H' hperm hheap' he hrow
    rw [wl_setrow (j := 256) (by omega)] at H'
    have M' : Mem h' W tm { w with rows := fup w.rows 256 s', ct := fup w.ct 256 L' } := by
      refine M.ofHea H' he ?_ hrow ?_
      · rintro x (e | (e | e) | e)
        · exact .inl e
        · exact .inr (.inl e)
        · refine .inr (.inr ⟨?_, ?_⟩)
          · intro j hj hx
            obtain ⟨p, hp, e1⟩ := mem_getD' e
            obtain ⟨p', hp', e2⟩ := mem_getD' hx
            have := (M.nd 256 j p p' (by omega) (by omega) hp hp' (e1.trans e2.symm)).1
            omega
          · obtain ⟨p, hp, e1⟩ := mem_getD' e
            exact ⟨_, e1 ▸ M.tms 256 (by omega) p hp⟩
        · subst e; exact .inr (.inr ⟨fun j hj => hnb j (by omega), _, hb⟩)
      · intro x hx j hj
        have := hperm.mem_iff.1 hx
        rcases List.mem_append.1 this with e | e
        · intro hxj
          obtain ⟨p, hp, e1⟩ := mem_getD' e
          obtain ⟨p', hp', e2⟩ := mem_getD' hxj
          have := (M.nd 256 j p p' (by omega) (by omega) hp hp' (e1.trans e2.symm)).1
          omega
        · simp only [List.mem_singleton] at e; subst e; exact hnb j (by omega)
    refine hK h' _ M' ⟨rfl, rfl, rfl, rfl, rfl⟩ ?_ ?_ ?_ (he.mono ?_) ?_
    · intro j hj; simp [fup, hj]
    · simpa [fup] using hperm
    · simpa [fup] using hheap'
    · rintro x o _ (e | (e | e) | e)
      · exact .inl (.inl e)
      · exact .inl (.inr (.inr (.inl ⟨256, by omega, e⟩)))
      · exact .inl (.inr (.inr (.inr ⟨256, by omega, e⟩)))
      · exact .inr e
    · rintro x (e | e | ⟨j, hj, e⟩ | ⟨j, hj, e⟩)
      · exact .inl (.inl e)
      · exact .inl (.inr (.inl e))
      · simp only [fup] at e
        by_cases hj2 : j = 256
        · simp only [hj2, if_true] at e
          rcases hrow x e with h1 | h1
          · exact .inl (.inr (.inr (.inl ⟨256, by omega, h1⟩)))
          · exact .inr (.inr h1)
        · simp only [hj2, if_false] at e
          exact .inl (.inr (.inr (.inl ⟨j, hj, e⟩)))
      · simp only [fup] at e
        by_cases hj2 : j = 256
        · simp only [hj2, if_true] at e
          rcases List.mem_append.1 (hperm.mem_iff.1 e) with h1 | h1
          · exact .inl (.inr (.inr (.inr ⟨256, by omega, h1⟩)))
          · simp only [List.mem_singleton] at h1; exact .inr (.inl h1)
        · simp only [hj2, if_false] at e
          exact .inl (.inr (.inr (.inr ⟨j, hj, e⟩)))
  · have : (lev w.now (tm b).tim == -1) = false := by simpa using hf
    rw [this, cond_false]
    have hdg := dg_bd (tm b).tim (lev w.now (tm b).tim)
    have hs : slotOf w.now (tm b).tim = (lev w.now (tm b).tim).toNat * 64 + (dg (tm b).tim (lev w.now (tm b).tim)).toNat := by unfold slotOf; rw [if_neg hf]
    generalize hj : slotOf w.now (tm b).tim = j at hs hK
    generalize lev w.now (tm b).tim = k at hlv hf hdg hs
    generalize hd : dg (tm b).tim k = d at hdg hs
    have hj256 : j < 256 := by omega
    simp only [nn_some', hb0, xI_some]
    refine idx_of (by omega) (by omega) ?_
    refine c37 (by omega) (by omega) ht0 (by omega) ?_
    rw [hd]
    refine idx_of (by omega) (by omega) ?_
    have hoff : 2 + k.toNat * 64 + d.toNat * 1 = 2 + j := by omega
    simp only [add_bk, add_mk, hoff, M.hW.cell, wl_row (show j < 257 by omega), xL_v]
    have hWb : W ≠ b := M.hW.ne hb (by decide)
    refine hb.st (by simp [tc]) rfl ?_
    refine Blk.upd_same.st (by simp [tc]) rfl ?_
    have hlvl : k = lvl j := by
      unfold lvl; rw [if_neg (by omega)]; omega
    have hcells : ((tc (tm b) lv pl).set 3 (.int .i64 k)).set 4 (.int .i64 ((w.rows j).n : Nat)) = tc (tm b) (lvl j) (w.ct j).length := by
      rw [M.len (by omega), hlvl]; rfl
    rw [hcells]
    have x1 : Ext (fun x => x = b) h (upd (upd h b (.cells ⟨(tc (tm b) lv pl).set 3 (.int .i64 k)⟩ 65 (0, 0))) b (.cells ⟨tc (tm b) (lvl j) (w.ct j).length⟩ 65 (0, 0))) := Ext.trans (S := fun x => x = b) (Ext.upd rfl) (Ext.upd rfl)
    have hb1 : Blk (upd (upd h b (.cells ⟨(tc (tm b) lv pl).set 3 (.int .i64 k)⟩ 65 (0, 0))) b (.cells ⟨tc (tm b) (lvl j) (w.ct j).length⟩ 65 (0, 0))) b 65 (tc (tm b) (lvl j) (w.ct j).length) := Blk.upd_same
    revert x1 hb1
    generalize upd (upd h b _) b _ = h1
    intro x1 hb1
    have hW1 : Blk h1 W 58 (wl W w) := x1.blk M.hW hWb
    simp only [hW1.cell, wl_row (show j < 257 by omega), xL_v]
    intro b0 e0
    have x2 : Ext none' h1 (upd h1 b0 (.cells ⟨[ptr b]⟩ 62)) := Ext.new e0
    have ho1 : Own (upd h1 b0 (.cells ⟨[ptr b]⟩ 62)) 62 1 (w.rows j) ((w.ct j).map ptr) := ((M.own j (by omega)).ext x1 (fun x hx e => M.notRow (by omega) hb (by decide) (e ▸ hx))).ext x2 (fun _ _ => id)
    have hl := hlen j (by omega)
    have hln := M.len (show j < 257 by omega)
    refine app1 ho1 Blk.upd_same rfl (by omega) ?_
    intro s' h3 ho3 hn3 x3 hrow
    have nW : ¬ (w.rows j).p = some (bk W) := M.notRow (by omega) M.hW (by decide)
    have nb : ¬ (w.rows j).p = some (bk b) := M.notRow (by omega) hb (by decide)
    have hW3 : Blk h3 W 58 (wl W w) := x3.blk (x2.blk hW1 id) nW
    have hb3 := x3.blk (x2.blk hb1 id) nb
    refine hW3.st (by rw [wl_len]; omega) rfl ?_
    change K (upd h3 W (.cells ⟨(wl W w).set (2 + j) s'.v⟩ 58 (0, 0)))
    rw [wl_setrow (by omega)]
    have x4 : Ext (fun x => x = W) h3 (upd h3 W (.cells ⟨wl W { w with rows := fup w.rows j s' }⟩ 58 (0, 0))) := Ext.upd rfl
    have hW4 : Blk (upd h3 W (.cells ⟨wl W { w with rows := fup w.rows j s' }⟩ 58 (0, 0))) W 58 (wl W { w with rows := fup w.rows j s' }) := Blk.upd_same
    revert x4 hW4
    generalize upd h3 W _ = h4
    intro x4 hW4
    have none1 : ∀ x, h1 x = none → h x = none := by
      intro x hx
      cases hq : h x with
      | none => rfl
      | some o =>
        by_cases e : x = b
        · subst e; unfold Blk at hb1; rw [hb1] at hx; cases hx
        · have := x1 x o hq e; rw [hx] at this; cases this
    have hrow' : ∀ x, s'.p = some (bk x) → (w.rows j).p = some (bk x) ∨ h x = none := by
      intro x hx
      rcases hrow x hx with e | e
      · exact .inl e
      · refine .inr (none1 x ?_)
        by_cases e' : x = b0
        · subst e'; exact e0
        · rw [upd_ne e'] at e; exact e
    have he : Ext (fun x => x = W ∨ (w.rows j).p = some (bk x) ∨ x = b) h h4 := by
      refine (((x1.mono ?_).then x2 ?_).then x3 ?_).then x4 ?_
      · intro x o _ e; exact .inr (.inr e)
      · intro x o _ e; exact e.elim
      · intro x o _ e; exact .inr (.inl e)
      · intro x o _ e; exact .inl e
    have ho4 : Own h4 62 1 s' ((w.ct j ++ [b]).map ptr) := by
      rw [List.map_append]
      refine ho3.ext x4 ?_
      intro x hx e
      subst e
      exact Own.notRow ho3 hW3 (by decide) hx
    have hb4 := x4.blk hb3 hWb.symm
    have M' := M.push hj256 hW4 ho4 hb4 ⟨_, hb⟩ hnb he hrow'
    refine hK h4 _ M' ⟨rfl, rfl, rfl, rfl, rfl⟩ ?_ ?_ ?_ (he.mono ?_) ?_
    · intro i hi; simp [fup, hi]
    · simp [fup]
    · have : ¬ 256 = j := by omega
      simpa [fup, this] using hheap
    · rintro x o _ (e | e | e)
      · exact .inl (.inl e)
      · exact .inl (.inr (.inr (.inl ⟨j, by omega, e⟩)))
      · exact .inr e
    · rintro x (e | e | ⟨i, hi, e⟩ | ⟨i, hi, e⟩)
      · exact .inl (.inl e)
      · exact .inl (.inr (.inl e))
      · simp only [fup] at e
        by_cases hij : i = j
        · simp only [hij, if_true] at e
          rcases hrow' x e with h1 | h1
          · exact .inl (.inr (.inr (.inl ⟨j, by omega, h1⟩)))
          · exact .inr (.inr h1)
        · simp only [hij, if_false] at e
          exact .inl (.inr (.inr (.inl ⟨i, hi, e⟩)))
      · simp only [fup] at e
        by_cases hij : i = j
        · simp only [hij, if_true] at e
          rcases List.mem_append.1 e with h1 | h1
          · exact .inl (.inr (.inr (.inr ⟨j, by omega, h1⟩)))
          · simp only [List.mem_singleton] at h1; exact .inr (.inl h1)
        · simp only [hij, if_false] at e
          exact .inl (.inr (.inr (.inr ⟨i, hi, e⟩)))

end Go.Proofs.Ytfnlldbaplakoaa

/-
  The wheel: its map, a row in another one's place, a timer is taken.
-/
set_option linter.unusedSimpArgs false
set_option linter.unusedVariables false
namespace Go.Proofs.Ytfnlldbaplakoaa
open Go Go.Hw

/-! ### the map -/
def EsOk (tm : Nat → Tm) (es : List MapEntry) (bl : List Nat) : Prop := es.map (fun e => (e.key, e.val)) = bl.map fun b => (Value.int .i64 (tm b).id, ptr b)
theorem EsOk.len {tm : Nat → Tm} {es : List MapEntry} {bl : List Nat} (h : EsOk tm es bl) : es.length = bl.length := by
  have := congrArg List.length h; simpa using this
theorem find_es {tm : Nat → Tm} {n : Int} : ∀ {es : List MapEntry} {bl : List Nat} {k : Nat}, EsOk tm es bl →
    Instr.findNow (.int .i64) (.int .i64 n) es k = some ((bl.findIdx? (fun b => n == (tm b).id)).map fun i => (i + k, ptr (bl.getD i 0))) := by
  intro es
  induction es with
  | nil => intro bl k h; cases bl with
    | nil => rfl
    | cons b bl => simp [EsOk] at h
  | cons e es ih =>
    intro bl k h
    cases bl with
    | nil => simp [EsOk] at h
    | cons b bl =>
      unfold EsOk at h
      simp only [List.map_cons, List.cons.injEq, Prod.mk.injEq] at h
      obtain ⟨⟨h1, h2⟩, h3⟩ := h
      simp only [Instr.findNow, h1, Instr.sameNow, if_true, List.findIdx?_cons]
      cases hq : (n == (tm b).id) with
      | true => simp [h2]
      | false =>
        simp only [ih h3 (k := k + 1), cond_false, Option.map_map]
        congr 1
        simp only [Bool.false_eq_true, if_false, Option.map_map]
        congr 1
        funext i
        simp; omega
theorem idx_of_mem {tm : Nat → Tm} : ∀ {bl : List Nat} {b : Nat}, bl.Pairwise (fun a b => (tm a).id < (tm b).id) → b ∈ bl →
    ∃ i, bl.findIdx? (fun c => (tm b).id == (tm c).id) = some i ∧ bl.getD i 0 = b ∧ bl.eraseIdx i = bl.erase b ∧ i < bl.length := by
  intro bl
  induction bl with
  | nil => intro b _ h; cases h
  | cons c bl ih =>
    intro b hp hb
    rw [List.pairwise_cons] at hp
    rw [List.findIdx?_cons]
    by_cases e : b = c
    · subst e; exact ⟨0, by simp, rfl, by simp, by simp⟩
    · have hm : b ∈ bl := by simpa [e] using hb
      have h1 := hp.1 b hm
      have h2 : ((tm b).id == (tm c).id) = false := by simp; omega
      obtain ⟨i, a1, a2, a3, a4⟩ := ih hp.2 hm
      refine ⟨i + 1, by simp [h2, a1], by simpa using a2, ?_, by simp; omega⟩
      have : (c == b) = false := by simpa using fun e' : c = b => e e'.symm
      simp [List.eraseIdx_cons_succ, List.erase_cons, this, a3]
theorem eraseIdx_map' {α β : Type} (f : α → β) : ∀ (l : List α) (i : Nat), (l.eraseIdx i).map f = (l.map f).eraseIdx i := by
  intro l
  induction l with
  | nil => intro i; rfl
  | cons a l ih => intro i; cases i with
    | zero => rfl
    | succ i => simp [ih]
theorem EsOk.erase {tm : Nat → Tm} {es : List MapEntry} {bl : List Nat} (h : EsOk tm es bl) (i : Nat) : EsOk tm (es.eraseIdx i) (bl.eraseIdx i) := by
  unfold EsOk at h ⊢
  rw [eraseIdx_map', eraseIdx_map', h]
theorem EsOk.push {tm : Nat → Tm} {es : List MapEntry} {bl : List Nat} (h : EsOk tm es bl) {b c : Nat} : EsOk tm (es ++ [⟨.int .i64 (tm b).id, ptr b, c⟩]) (bl ++ [b]) := by
  unfold EsOk at h ⊢
  simp [h]
theorem xMap_of {h : Hp} {m : Nat} {es : Array MapEntry} {c : Nat} {F : List MapEntry → Nat → Prop} (hm : h m = some (.map es c)) (hF : F es.toList c) : xMap h (some m) F := by
  unfold xMap; simp only [hm]; exact hF
theorem u50 : Try.prog.underlying 50 = some (.map 3 62) := by kernel_rfl
theorem u3 : Try.prog.underlying 3 = some (.int .i64) := by kernel_rfl
theorem md50 {m : Nat} {n : Int} {h : Hp} {es : Array MapEntry} {c : Nat} {F : Hp → Prop} (hm : h m = some (.map es c))
    (hF : keyAt (.int .i64) (.int .i64 n) es.toList fun r => F (upd h m (mdel es c r))) : mdK Try.prog 50 (.map (some m)) (.int .i64 n) h F := by
  unfold mdK; rw [u50]; simp only [u3, plainKey, cond_true]
  unfold xMapO; simp only [hm]; exact hF
theorem mu50 {m : Nat} {n : Int} {x : Value} {h : Hp} {es : Array MapEntry} {c : Nat} {F : Hp → Prop} (hm : h m = some (.map es c))
    (hF : keyAt (.int .i64) (.int .i64 n) es.toList fun r => F (upd h m (mset es c (.int .i64 n) x r))) : muK Try.prog 50 (.map (some m)) (.int .i64 n) x h F := by
  unfold muK; rw [u50]; simp only [u3, plainKey, cond_true]
  unfold xMapO; simp only [hm]; exact hF

/-! ### a row in another one's place -/
theorem Mem.row {S : Nat → Prop} {h h' : Hp} {W : Nat} {tm : Nat → Tm} {w w' : WS} (M : Mem h W tm w) {j : Nat} (hj : j < 257) {s' : Sl} {L' : List Nat} (hr : w'.rows = fup w.rows j s') (hc : w'.ct = fup w.ct j L')
    (hW : Blk h' W 58 (wl W w')) (hm : h' w'.mb = some (.map w'.es w'.clk)) (ho : Own h' 62 1 s' (L'.map ptr))
    (ht : ∀ p, p < L'.length → Blk h' (L'.getD p 0) 65 (tc (tm (L'.getD p 0)) (lvl j) p)) (hnd : L'.Nodup) (hL : ∀ x ∈ L', ∀ k, k < 257 → k ≠ j → x ∉ w.ct k)
    (he : Ext S h h') (hS1 : ∀ k, k < 257 → k ≠ j → ∀ x ∈ w.ct k, ¬ S x) (hS2 : ∀ k, k < 257 → k ≠ j → ∀ x, (w.rows k).p = some (bk x) → ¬ S x)
    (hrow : ∀ b, s'.p = some (bk b) → (w.rows j).p = some (bk b) ∨ h b = none) : Mem h' W tm w' := by
  refine ⟨hW, hm, ?_, ?_, ?_, ?_⟩
  · intro k hk
    rw [hr, hc]; simp only [fup]
    by_cases e : k = j
    · subst e; simp only [if_true]; exact ho
    · simp only [e, if_false]; exact (M.own k hk).ext he (fun x hx => hS2 k hk e x hx)
  · intro k k' x hk hk' h1 h2
    rw [hr] at h1 h2
    simp only [fup] at h1 h2
    have new : ∀ k, k < 257 → k ≠ j → (w.rows k).p = some (bk x) → s'.p = some (bk x) → False := by
      intro k hk hne h3 h4
      rcases hrow x h4 with e | e
      · exact hne (M.rinj _ _ _ hk (by omega) h3 e)
      · exact M.there (.inr (.inr (.inl ⟨k, hk, h3⟩))) e
    by_cases e1 : k = j
    · by_cases e2 : k' = j
      · omega
      · simp only [e1, if_true] at h1; simp only [e2, if_false] at h2; exact (new k' hk' e2 h2 h1).elim
    · by_cases e2 : k' = j
      · simp only [e1, if_false] at h1; simp only [e2, if_true] at h2; exact (new k hk e1 h1 h2).elim
      · simp only [e1, if_false] at h1; simp only [e2, if_false] at h2; exact M.rinj _ _ _ hk hk' h1 h2
  · intro k hk p hp
    rw [hc] at hp ⊢
    simp only [fup] at hp ⊢
    by_cases e : k = j
    · subst e
      simp only [if_true] at hp ⊢
      exact ht p hp
    · simp only [e, if_false] at hp ⊢; exact he.blk (M.tms k hk p hp) (hS1 k hk e _ (mem_getD hp))
  · intro k k' p p' hk hk' hp hp' heq
    rw [hc] at hp hp' heq
    simp only [fup] at hp hp' heq
    by_cases e1 : k = j
    · subst e1
      simp only [if_true] at hp heq
      by_cases e2 : k' = k
      · subst e2
        simp only [if_true] at hp' heq
        refine ⟨rfl, ?_⟩
        unfold List.Nodup at hnd
        rw [List.pairwise_iff_getElem] at hnd
        rw [List.getD_eq_getElem?_getD, List.getElem?_eq_getElem hp, List.getD_eq_getElem?_getD, List.getElem?_eq_getElem hp'] at heq
        simp only [Option.getD_some] at heq
        rcases Nat.lt_trichotomy p p' with h1 | h1 | h1
        · exact (hnd p p' hp hp' h1 heq).elim
        · exact h1
        · exact (hnd p' p hp' hp h1 heq.symm).elim
      · simp only [e2, if_false] at hp' heq
        exact (hL _ (mem_getD hp) k' hk' e2 (heq ▸ mem_getD hp')).elim
    · simp only [e1, if_false] at hp heq
      by_cases e2 : k' = j
      · subst e2
        simp only [if_true] at hp' heq
        exact (hL _ (mem_getD hp') k hk e1 (heq ▸ mem_getD hp)).elim
      · simp only [e2, if_false] at hp' heq
        exact M.nd _ _ _ _ hk hk' hp hp' heq
theorem Mem.nodup {h : Hp} {W : Nat} {tm : Nat → Tm} {w : WS} (M : Mem h W tm w) {j : Nat} (hj : j < 257) : (w.ct j).Nodup :=
  nodup_of fun a b ha hb hab e => hab (M.nd j j a b hj hj ha hb e).2
theorem Mem.one {h : Hp} {W : Nat} {tm : Nat → Tm} {w : WS} (M : Mem h W tm w) {j k x : Nat} (hj : j < 257) (hk : k < 257) (h1 : x ∈ w.ct j) (h2 : x ∈ w.ct k) : j = k := by
  obtain ⟨p, hp, e⟩ := mem_getD' h1
  obtain ⟨q, hq, f⟩ := mem_getD' h2
  exact (M.nd j k p q hj hk hp hq (e.trans f.symm)).1
theorem Mem.tblk {h : Hp} {W : Nat} {tm : Nat → Tm} {w : WS} (M : Mem h W tm w) {j x : Nat} (hj : j < 257) (h1 : x ∈ w.ct j) : ∃ pl, Blk h x 65 (tc (tm x) (lvl j) pl) := by
  obtain ⟨p, hp, e⟩ := mem_getD' h1
  have := M.tms j hj p hp
  rw [e] at this; exact ⟨_, this⟩
theorem Mem.rblk {h : Hp} {W : Nat} {tm : Nat → Tm} {w : WS} (M : Mem h W tm w) {j x : Nat} (hj : j < 257) (h1 : (w.rows j).p = some (bk x)) : ∃ l, Blk h x 62 l := by
  have := (M.own j hj).2.2
  rw [h1] at this
  obtain ⟨_, cs, hb, _⟩ := this
  exact ⟨cs, hb⟩

/-- the map changes -/
theorem Mem.map {h : Hp} {W : Nat} {tm : Nat → Tm} {w : WS} (M : Mem h W tm w) (es : Array MapEntry) (c : Nat) : Mem (upd h w.mb (.map es c)) W tm { w with es := es, clk := c } := by
  have x : Ext (fun x => x = w.mb) h (upd h w.mb (.map es c)) := Ext.upd rfl
  refine ⟨x.blk M.hW (map_ne M.hW M.hm), Hw.upd_same, fun j hj => (M.own j hj).ext x ?_, M.rinj, fun j hj p hp => x.blk (M.tms j hj p hp) (map_ne (M.tms j hj p hp) M.hm), M.nd⟩
  intro b hb e
  obtain ⟨l, hl⟩ := M.rblk hj hb
  exact map_ne hl M.hm e

/-- what taking leaves beside the rows -/
structure Taken (tm : Nat → Tm) (w w' : WS) (bl : List Nat) (b : Nat) : Prop where
  now : w'.now = w.now
  last : w'.last = w.last
  mb : w'.mb = w.mb
  es : EsOk tm w'.es.toList (bl.erase b)
  clk : w'.clk = w.clk

theorem swap_perm {L : List Nat} {k p b : Nat} (hk : L.length = k + 1) (hp : p < L.length) (hb : L.getD p 0 = b) (hn : L.Nodup) : ((L.set p (L.getD k 0)).take k).Perm (L.erase b) := by
  have hs := count_dropLast hk
  by_cases e : p = k
  · subst e
    rw [List.take_set_of_le (Nat.le_refl _)]
    have hnt : b ∉ L.take p := by
      intro hm
      have : L.Nodup := hn
      rw [hs, hb, List.nodup_append] at this
      exact this.2.2 b hm b (by simp) rfl
    have : L.erase b = L.take p := by
      conv => lhs; rw [hs]
      rw [hb, List.erase_append_right _ hnt]; simp
    rw [this]
  · rw [List.take_set]
    have htk : (L.take k).getD p 0 = b := by rw [List.getD_eq_getElem?_getD, List.getElem?_take, if_pos (by omega), ← List.getD_eq_getElem?_getD]; exact hb
    have := erase_set_perm (M := L.take k) (i := p) (a := L.getD k 0) (by simp; omega) htk
    rw [← hs] at this; exact this

theorem c29 {W b j p : Nat} {tm : Nat → Tm} {w : WS} {bl : List Nat} {h : Hp} {K : Hp → Prop} (M : Mem h W tm w) (hheap : Pq.Heap (ltT tm) (w.ct 256)) (hes : EsOk tm w.es.toList bl) (hbl : b ∈ bl)
    (hid : bl.Pairwise (fun a b => (tm a).id < (tm b).id)) (hj : j < 257) (hp : p < (w.ct j).length) (hpb : (w.ct j).getD p 0 = b) (hdg : j < 256 → dg (tm b).tim (lvl j) = ((j % 64 : Nat) : Int))
    (ht0 : 0 ≤ (tm b).tim) (ht1 : (tm b).tim ≤ MaxT) (hlen : ∀ j, j < 257 → (w.ct j).length < 1099511627776)
    (hK : ∀ h' w', Mem h' W tm w' → Taken tm w w' bl b → (∀ k, k ≠ j → w'.ct k = w.ct k) → (w'.ct j).Perm ((w.ct j).erase b) → Pq.Heap (ltT tm) (w'.ct 256) →
      Ext (FP W w) h h' → (∀ x, FP W w' x → FP W w x) → (∃ lv pl, Blk h' b 65 (tc (tm b) lv pl)) → K h') : C29 (some (bk W)) (some (bk b)) h K := by
  apply S29; unfold N29
  have hb : Blk h b 65 (tc (tm b) (lvl j) p) := by have := M.tms j hj p hp; rw [hpb] at this; exact this
  simp only [nn_some', add_bk, M.hW.cell, wl_260, xM_some, hb.cell, tc, List.getElem?_cons_zero, List.getElem?_cons_succ, xI_some]
  refine md50 M.hm ?_
  obtain ⟨i, hi1, hi2, hi3, hi4⟩ := idx_of_mem hid hbl
  unfold keyAt
  rw [find_es hes, hi1]
  simp only [Option.map_some, mdel, Nat.add_zero]
  have hes' : EsOk tm (w.es.eraseIdxIfInBounds i).toList (bl.erase b) := by
    have := hes.erase i
    rw [hi3] at this
    rw [Array.toList_eraseIdxIfInBounds]; exact this
  have M1 := M.map (w.es.eraseIdxIfInBounds i) w.clk
  have x1 : Ext (fun x => x = w.mb) h (upd h w.mb (.map (w.es.eraseIdxIfInBounds i) w.clk)) := Ext.upd rfl
  revert M1 x1
  generalize upd h w.mb _ = h1
  intro M1 x1
  have hb1 := x1.blk hb (map_ne hb M.hm)
  simp only [hb1.cell, tc, List.getElem?_cons_zero, List.getElem?_cons_succ, xI_some]
  by_cases hf : j = 256
  · subst hf
    have : (lvl 256 == (-1 : Int)) = true := rfl
    rw [this, cond_true]
    refine c38 M1.hea hheap hp hpb (hlen 256 (by omega)) wl_len ?_
    intro h' s' L' H' hperm hheap' he hsp
    rw [wl_setrow (j := 256) (by omega)] at H'
    have memL : ∀ x, x ∈ w.ct 256 → (∀ j, j < 256 → x ∉ w.ct j) ∧ ∃ l, Blk h1 x 65 l := by
      intro x hx
      refine ⟨fun k hk hx2 => ?_, ?_⟩
      · have := M.one (by omega) (by omega) hx hx2; omega
      · obtain ⟨pl, h'⟩ := M1.tblk (j := 256) (by omega) hx; exact ⟨_, h'⟩
    have M' := M1.ofHea H' he (by
      rintro x (e | e | ⟨e, _⟩)
      · exact .inl e
      · exact .inr (.inl e)
      · exact .inr (.inr (memL x e))) (by intro x hx; left; rw [← hsp]; exact hx) (fun x hx => (memL x (List.mem_of_mem_erase (hperm.mem_iff.1 hx))).1)
    refine hK h' _ M' ⟨rfl, rfl, rfl, hes', rfl⟩ ?_ ?_ ?_ ((x1.mono ?_).then he ?_) ?_ ⟨_, _, he.blk hb1 ?_⟩
    · intro k hk; simp [fup, hk]
    · simpa [fup] using hperm
    · simpa [fup] using hheap'
    · rintro x o _ e; exact .inr (.inl e)
    · rintro x o _ (e | e | ⟨e, _⟩)
      · exact .inl e
      · exact .inr (.inr (.inl ⟨256, by omega, e⟩))
      · exact .inr (.inr (.inr ⟨256, by omega, e⟩))
    · rintro x (e | e | ⟨k, hk, e⟩ | ⟨k, hk, e⟩)
      · exact .inl e
      · exact .inr (.inl e)
      · simp only [fup] at e
        by_cases hk2 : k = 256
        · simp only [hk2, if_true] at e; exact .inr (.inr (.inl ⟨256, by omega, hsp ▸ e⟩))
        · simp only [hk2, if_false] at e; exact .inr (.inr (.inl ⟨k, hk, e⟩))
      · simp only [fup] at e
        by_cases hk2 : k = 256
        · simp only [hk2, if_true] at e; exact .inr (.inr (.inr ⟨256, by omega, List.mem_of_mem_erase (hperm.mem_iff.1 e)⟩))
        · simp only [hk2, if_false] at e; exact .inr (.inr (.inr ⟨k, hk, e⟩))
    · rintro (e | e | ⟨_, e⟩)
      · exact hb1.ne M1.hW (by decide) e
      · exact M1.notRow (by omega) hb1 (by decide) e
      · exact e rfl
  · have hj2 : j < 256 := by omega
    have hlv : lvl j = ((j / 64 : Nat) : Int) := by unfold lvl; rw [if_neg hf]
    have hd := hdg hj2
    have : (lvl j == (-1 : Int)) = false := by rw [hlv]; simp; omega
    rw [this, cond_false]
    refine idx_of (by omega) (by omega) ?_
    unfold MaxT at ht1
    refine c37 (by omega) (by omega) ht0 (by omega) ?_
    rw [hd]
    simp only [hb1.cell, tc, List.getElem?_cons_zero, List.getElem?_cons_succ, xI_some, both_only, only_self, true_and]
    refine idx_of (by omega) (by omega) ?_
    have hoff : 2 + (lvl j).toNat * 64 + j % 64 = 2 + j := by omega
    obtain ⟨k, hk⟩ : ∃ k, (w.ct j).length = k + 1 := ⟨(w.ct j).length - 1, by omega⟩
    have hn := M.len hj
    have hl := hlen j hj
    have wn : IntKind.wrap .i64 ((((w.rows j).n : Nat) : Int) - 1) = ((k : Nat) : Int) := by rw [wrap64 (by omega) (by omega)]; omega
    have hrowW : (wl W { w with es := w.es.eraseIdxIfInBounds i, clk := w.clk })[2 + j]? = some (w.rows j).v := wl_row (by omega)
    simp only [add_bk, add_mk, hoff, M1.hW.cell, hrowW, xL_v, wn, Int.toNat_natCast, Nat.mul_one]
    refine idx_of (by omega) (by omega) ?_
    obtain ⟨r, hr, hcell⟩ := Own.ptr (M1.own j hj) (k := k) (by show k < (w.ct j).length; omega)
    have hr' : (w.rows j).p = some (bk r) := hr
    rw [hr']
    simp only [nn_some', add_bk, hcell, xP_some]
    refine idx_of (by omega) (by omega) ?_
    have := Int.toNat_natCast p
    obtain ⟨r', hr2, ⟨csr, hrb⟩, hst⟩ := (M1.own j hj).st (k := p) (by simpa using hp)
    have er : r' = r := by
      have : (w.rows j).p = some (bk r') := hr2
      rw [hr'] at this; simp only [Option.some.injEq] at this; exact (congrArg Addr.block this).symm
    subst er
    refine hst _ _ rfl ?_
    intro h3 ho3 x3
    have nbr : b ≠ r' := hb1.ne hrb (by decide)
    have hb3 := x3.blk hb1 nbr
    have hW3 := x3.blk M1.hW (M1.hW.ne hrb (by decide))
    have hlast1 : Blk h1 ((w.ct j).getD k 0) 65 (tc (tm ((w.ct j).getD k 0)) (lvl j) k) := M1.tms j hj k (by show k < (w.ct j).length; omega)
    have nlr := hlast1.ne hrb (by decide)
    have hlast3 := x3.blk hlast1 nlr
    have nlW := hlast1.ne M1.hW (by decide)
    simp only [hb3.cell, tc, List.getElem?_cons_zero, List.getElem?_cons_succ, xI_some, nn_some', add_bk]
    have lastm : (w.ct j).getD k 0 ∈ w.ct j := mem_getD (by omega)
    generalize hla : (w.ct j).getD k 0 = la at *
    refine hlast3.st (by simp [tc]) rfl ?_
    have hcs : (tc (tm la) (lvl j) k).set 4 (.int .i64 (p : Int)) = tc (tm la) (lvl j) p := rfl
    rw [hcs]
    have x4 : Ext (fun x => x = la) h3 (upd h3 la (.cells ⟨tc (tm la) (lvl j) p⟩ 65 (0, 0))) := Ext.upd rfl
    have hla4 : Blk (upd h3 la (.cells ⟨tc (tm la) (lvl j) p⟩ 65 (0, 0))) la 65 (tc (tm la) (lvl j) p) := Blk.upd_same
    revert x4 hla4
    generalize upd h3 la _ = h4
    intro x4 hla4
    have hW4 := x4.blk hW3 nlW.symm
    simp only [hW4.cell, hrowW, xL_v]
    rw [hr']
    simp only [sadr_zero]
    have hcap := (M.own j hj).2.1
    refine bd_nat (by omega) ?_
    refine hW4.st (by rw [wl_len]; omega) rfl ?_
    have hset : (wl W { w with es := w.es.eraseIdxIfInBounds i, clk := w.clk }).set (2 + j) (.slice (some (bk r')) k (w.rows j).c) = wl W { w with es := w.es.eraseIdxIfInBounds i, clk := w.clk, rows := fup w.rows j ⟨some (bk r'), k, (w.rows j).c⟩, ct := fup w.ct j (((w.ct j).set p la).take k) } := wl_setrow (s := ⟨some (bk r'), k, (w.rows j).c⟩) (by omega)
    rw [hset]
    have x5 : Ext (fun x => x = W) h4 (upd h4 W (.cells ⟨wl W { w with es := w.es.eraseIdxIfInBounds i, clk := w.clk, rows := fup w.rows j ⟨some (bk r'), k, (w.rows j).c⟩, ct := fup w.ct j (((w.ct j).set p la).take k) }⟩ 58 (0, 0))) := Ext.upd rfl
    have hW5 : Blk (upd h4 W (.cells ⟨wl W { w with es := w.es.eraseIdxIfInBounds i, clk := w.clk, rows := fup w.rows j ⟨some (bk r'), k, (w.rows j).c⟩, ct := fup w.ct j (((w.ct j).set p la).take k) }⟩ 58 (0, 0))) W 58 (wl W { w with es := w.es.eraseIdxIfInBounds i, clk := w.clk, rows := fup w.rows j ⟨some (bk r'), k, (w.rows j).c⟩, ct := fup w.ct j (((w.ct j).set p la).take k) }) := Blk.upd_same
    revert x5 hW5
    generalize upd h4 W _ = h5
    intro x5 hW5
    have x15 : Ext (fun x => x = r' ∨ x = la ∨ x = W) h1 h5 := ((x3.mono (fun x o _ e => .inl e)).then x4 (fun x o _ e => .inr (.inl e))).then x5 (fun x o _ e => .inr (.inr e))
    have pm := swap_perm (b := b) hk hp hpb (M.nodup hj)
    rw [hla] at pm
    have hLlen : (((w.ct j).set p la).take k).length = k := by simp; omega
    have hLget : ∀ q, q < k → (((w.ct j).set p la).take k).getD q 0 = if q = p then la else (w.ct j).getD q 0 := by
      intro q hq
      rw [List.getD_eq_getElem?_getD, List.getElem?_take, if_pos hq, ← List.getD_eq_getElem?_getD, Pq.getD_set]
      by_cases e : q = p
      · subst e; rw [if_pos ⟨rfl, hp⟩, if_pos rfl]
      · rw [if_neg (fun e' => e e'.1.symm), if_neg e]
    have subL : ∀ x, x ∈ ((w.ct j).set p la).take k → x ∈ w.ct j := fun x hx => List.mem_of_mem_erase (pm.mem_iff.1 hx)
    have M' : Mem h5 W tm { w with es := w.es.eraseIdxIfInBounds i, clk := w.clk, rows := fup w.rows j ⟨some (bk r'), k, (w.rows j).c⟩, ct := fup w.ct j (((w.ct j).set p la).take k) } := by
      refine M1.row hj (s' := ⟨some (bk r'), k, (w.rows j).c⟩) (L' := ((w.ct j).set p la).take k) rfl rfl hW5 ?_ ?_ ?_ ?_ ?_ x15 ?_ ?_ ?_
      · refine x15 _ _ M1.hm ?_
        rintro (e | e | e)
        · exact map_ne hrb M1.hm e.symm
        · exact map_ne hlast1 M1.hm e.symm
        · exact map_ne M1.hW M1.hm e.symm
      · have c1 := (ho3.cut (k := k) (by show k ≤ (w.rows j).n; omega)).ext (x4.mono (S' := fun x => x = la ∨ x = W) (fun x o _ e => .inl e) |>.then x5 (fun x o _ e => .inr e)) ?_
        · rw [← List.map_set, Nat.mul_one, ← List.map_take] at c1
          rw [hr] at c1
          exact c1
        · intro x hx
          rw [hr] at hx
          have : r' = x := congrArg Addr.block (Option.some.inj hx)
          subst this
          rintro (e | e)
          · exact nlr e.symm
          · exact M1.hW.ne hrb (by decide) e.symm
      · intro q hq
        rw [hLlen] at hq
        rw [hLget q hq]
        by_cases e : q = p
        · subst e; rw [if_pos rfl]; exact x5.blk hla4 nlW
        · rw [if_neg e]
          have hq2 : q < (w.ct j).length := by omega
          have hbq : Blk h1 ((w.ct j).getD q 0) 65 (tc (tm ((w.ct j).getD q 0)) (lvl j) q) := M1.tms j hj q hq2
          refine x15.blk hbq ?_
          rintro (e2 | e2 | e2)
          · exact hbq.ne hrb (by decide) e2
          · have := (M.nd j j q k hj hj hq2 (by omega) (e2.trans hla.symm)).2; omega
          · exact hbq.ne M1.hW (by decide) e2
      · exact pm.nodup_iff.2 ((M.nodup hj).erase _)
      · intro x hx k' hk' hne hx2
        exact hne (M.one hk' hj hx2 (subL x hx))
      · intro k' hk' hne x hx
        obtain ⟨pl, hbx⟩ := M1.tblk hk' hx
        rintro (e | e | e)
        · exact hbx.ne hrb (by decide) e
        · subst e; exact hne (M.one hk' hj hx lastm)
        · exact hbx.ne M1.hW (by decide) e
      · intro k' hk' hne x hx
        obtain ⟨l, hbx⟩ := M1.rblk hk' hx
        rintro (e | e | e)
        · subst e; exact hne (M.rinj _ _ _ hk' hj hx hr')
        · exact hbx.ne hlast1 (by decide) e
        · exact hbx.ne M1.hW (by decide) e
      · intro x hx; left; show (w.rows j).p = _; rw [hr']; exact hx
    refine hK h5 _ M' ⟨rfl, rfl, rfl, hes', rfl⟩ ?_ ?_ ?_ ((x1.mono ?_).then x15 ?_) ?_ ?_
    · intro k hk; simp [fup, hk]
    · simpa [fup] using pm
    · have : ¬ 256 = j := by omega
      simpa [fup, this] using hheap
    · rintro x o _ e; exact .inr (.inl e)
    · rintro x o _ (e | e | e)
      · subst e; exact .inr (.inr (.inl ⟨j, hj, hr'⟩))
      · subst e; exact .inr (.inr (.inr ⟨j, hj, lastm⟩))
      · exact .inl e
    · rintro x (e | e | ⟨k', hk', e⟩ | ⟨k', hk', e⟩)
      · exact .inl e
      · exact .inr (.inl e)
      · simp only [fup] at e
        by_cases hk2 : k' = j
        · simp only [hk2, if_true] at e; exact .inr (.inr (.inl ⟨j, by omega, hr'.trans e⟩))
        · simp only [hk2, if_false] at e; exact .inr (.inr (.inl ⟨k', hk', e⟩))
      · simp only [fup] at e
        by_cases hk2 : k' = j
        · simp only [hk2, if_true] at e; exact .inr (.inr (.inr ⟨j, by omega, subL x e⟩))
        · simp only [hk2, if_false] at e; exact .inr (.inr (.inr ⟨k', hk', e⟩))
    · by_cases e : b = la
      · subst e; exact ⟨_, _, x5.blk hla4 nlW⟩
      · refine ⟨_, _, x15.blk hb1 ?_⟩
        rintro (e2 | e2 | e2)
        · exact nbr e2
        · exact e e2
        · exact hb1.ne M1.hW (by decide) e2

end Go.Proofs.Ytfnlldbaplakoaa
