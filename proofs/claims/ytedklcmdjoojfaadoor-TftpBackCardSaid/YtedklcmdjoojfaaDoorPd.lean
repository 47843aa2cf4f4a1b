/- Texts of a walk over heaps, printed by program and by hand: lemmas for the law that is proved in this claim. No condition. -/
import Derived.Test.YtedklcmdjoojfaaDoorProg
import Derived.Test.YtedklcmdjoojfaaDoorPc
set_option linter.unusedSimpArgs false
set_option linter.unusedVariables false
set_option maxRecDepth 100000
namespace Go.Proofs.YtedklcmdjoojfaaDoor
open Go Go.Hw
def E : Nat → Bool := fun f => Nat.blt 2 f && Nat.blt f 76
theorem hE : EnterOk Tryd.prog E := by
  have all : ∀ f ∈ List.range' 3 73, (!E f || match Tryd.prog.funcs[f]? with | some fn => !fn.body.isNone && !(fn.name == "runtime.NumGoroutine") | none => false) = true := by
    rw [← List.all_eq_true]
    kernel_rfl
  intro f h
  have hm : f ∈ List.range' 3 73 := by
    simp only [E, Bool.and_eq_true, Bool.or_eq_true, Nat.blt_eq] at h
    simp only [List.mem_range'_1]; omega
  have := all f hm
  rw [h] at this
  simp only [Bool.not_true, Bool.false_or] at this
  split at this
  · rename_i fn hf
    simp only [Bool.and_eq_true, Bool.not_eq_true'] at this
    exact ⟨fn, hf, this.1, this.2⟩
  · cases this
theorem hm : Tryd.prog.follows .mixedOrders = true := by kernel_rfl
def C7 (x0_0 : Int) (x0_1 : ByteArray) (x0_2 : ByteArray) (x0_3 : Sl) (x0_4 : Int) (x0_5 : Sl) (x0_6 : Int) (x0_7 : ByteArray) (x1 : Sl) (x2_0 : Int) (x2_1 : Int) (x2_2 : Int) (x2_3 : Int) (x2_4 : ByteArray) (h : Hp) (K : Bool → Hp → Prop) : Prop :=
  HCalls Tryd.prog 7 ⟨[.agg ⟨[.int .i64 x0_0, .string x0_1, .string x0_2, .slice x0_3.p x0_3.n x0_3.c, .int .i64 x0_4, .slice x0_5.p x0_5.n x0_5.c, .int .i64 x0_6, .string x0_7]⟩, .slice x1.p x1.n x1.c, .agg ⟨[.int .i64 x2_0, .int .i64 x2_1, .int .i64 x2_2, .int .i64 x2_3, .string x2_4]⟩]⟩ h fun v h' => VT.on (.c (.bool)) (some v) fun r => K r h'
def C8  (h : Hp) (K : Bool → Hp → Prop) : Prop :=
  HCalls Tryd.prog 8 ⟨[]⟩ h fun v h' => VT.on (.c (.bool)) (some v) fun r => K r h'
def C11 (x0_0 : Int) (x0_1 : ByteArray) (x0_2 : ByteArray) (x0_3 : Sl) (x0_4 : Int) (x0_5 : Sl) (x0_6 : Int) (x0_7 : ByteArray) (h : Hp) (K : Sl → Int → Hp → Prop) : Prop :=
  HCalls Tryd.prog 11 ⟨[.agg ⟨[.int .i64 x0_0, .string x0_1, .string x0_2, .slice x0_3.p x0_3.n x0_3.c, .int .i64 x0_4, .slice x0_5.p x0_5.n x0_5.c, .int .i64 x0_6, .string x0_7]⟩]⟩ h fun v h' => tupOn [.c (.slice), .c (.int .i64)] v fun r => K r.1 r.2 h'
def C17 (x0 : Sl) (h : Hp) (K : Int → ByteArray → ByteArray → Sl → Int → Sl → Int → ByteArray → Int → Hp → Prop) : Prop :=
  HCalls Tryd.prog 17 ⟨[.slice x0.p x0.n x0.c]⟩ h fun v h' => tupOn [.agg [.int .i64, .str, .str, .slice, .int .i64, .slice, .int .i64, .str], .c (.int .i64)] v fun r => K r.1.1 r.1.2.1 r.1.2.2.1 r.1.2.2.2.1 r.1.2.2.2.2.1 r.1.2.2.2.2.2.1 r.1.2.2.2.2.2.2.1 r.1.2.2.2.2.2.2.2 r.2 h'
def C19 (x0_0 : Int) (x0_1 : ByteArray) (x0_2 : ByteArray) (x0_3 : Sl) (x0_4 : Int) (x0_5 : Sl) (x0_6 : Int) (x0_7 : ByteArray) (x1_0 : Int) (x1_1 : ByteArray) (x1_2 : ByteArray) (x1_3 : Sl) (x1_4 : Int) (x1_5 : Sl) (x1_6 : Int) (x1_7 : ByteArray) (h : Hp) (K : Bool → Hp → Prop) : Prop :=
  HCalls Tryd.prog 19 ⟨[.agg ⟨[.int .i64 x0_0, .string x0_1, .string x0_2, .slice x0_3.p x0_3.n x0_3.c, .int .i64 x0_4, .slice x0_5.p x0_5.n x0_5.c, .int .i64 x0_6, .string x0_7]⟩, .agg ⟨[.int .i64 x1_0, .string x1_1, .string x1_2, .slice x1_3.p x1_3.n x1_3.c, .int .i64 x1_4, .slice x1_5.p x1_5.n x1_5.c, .int .i64 x1_6, .string x1_7]⟩]⟩ h fun v h' => VT.on (.c (.bool)) (some v) fun r => K r h'
def C21 (x0 : Sl) (x1 : ByteArray) (h : Hp) (K : Int → Bool → Hp → Prop) : Prop :=
  HCalls Tryd.prog 21 ⟨[.slice x0.p x0.n x0.c, .string x1]⟩ h fun v h' => tupOn [.c (.int .i64), .c (.bool)] v fun r => K r.1 r.2 h'
def C22 (x0 : Sl) (x1 : Int) (x2 : Int) (x3 : Int) (h : Hp) (K : Int → Int → Sl → Hp → Prop) : Prop :=
  HCalls Tryd.prog 22 ⟨[.slice x0.p x0.n x0.c, .int .i64 x1, .int .i64 x2, .int .i64 x3]⟩ h fun v h' => tupOn [.c (.int .i64), .c (.int .i64), .c (.slice)] v fun r => K r.1 r.2.1 r.2.2 h'
def C23 (x0 : Sl) (x1 : Sl) (x2 : Int) (h : Hp) (K : Int → Int → Int → Hp → Prop) : Prop :=
  HCalls Tryd.prog 23 ⟨[.slice x0.p x0.n x0.c, .slice x1.p x1.n x1.c, .int .i64 x2]⟩ h fun v h' => tupOn [.c (.int .i64), .c (.int .i64), .c (.int .i64)] v fun r => K r.1 r.2.1 r.2.2 h'
def C27 (x0 : Sl) (x1 : Sl) (h : Hp) (K : Bool → Hp → Prop) : Prop :=
  HCalls Tryd.prog 27 ⟨[.slice x0.p x0.n x0.c, .slice x1.p x1.n x1.c]⟩ h fun v h' => VT.on (.c (.bool)) (some v) fun r => K r h'
def C28 (x0_0 : Int) (x0_1 : ByteArray) (x0_2 : ByteArray) (x0_3 : Sl) (x0_4 : Int) (x0_5 : Sl) (x0_6 : Int) (x0_7 : ByteArray) (h : Hp) (K : Int → Hp → Prop) : Prop :=
  HCalls Tryd.prog 28 ⟨[.agg ⟨[.int .i64 x0_0, .string x0_1, .string x0_2, .slice x0_3.p x0_3.n x0_3.c, .int .i64 x0_4, .slice x0_5.p x0_5.n x0_5.c, .int .i64 x0_6, .string x0_7]⟩]⟩ h fun v h' => VT.on (.c (.int .i64)) (some v) fun r => K r h'
def C29 (x0 : Sl) (x1 : Int) (h : Hp) (K : Sl → Hp → Prop) : Prop :=
  HCalls Tryd.prog 29 ⟨[.slice x0.p x0.n x0.c, .int .i64 x1]⟩ h fun v h' => VT.on (.c (.slice)) (some v) fun r => K r h'
def C30 (x0 : Sl) (x1 : ByteArray) (h : Hp) (K : Sl → Hp → Prop) : Prop :=
  HCalls Tryd.prog 30 ⟨[.slice x0.p x0.n x0.c, .string x1]⟩ h fun v h' => VT.on (.c (.slice)) (some v) fun r => K r h'
def C31 (x0 : Int) (h : Hp) (K : ByteArray → Hp → Prop) : Prop :=
  HCalls Tryd.prog 31 ⟨[.int .i64 x0]⟩ h fun v h' => VT.on (.c (.str)) (some v) fun r => K r h'
def C38 (x0 : Option Addr) (h : Hp) (K : Int → Int → Hp → Prop) : Prop :=
  HCalls Tryd.prog 38 ⟨[.pointer x0]⟩ h fun v h' => tupOn [.c (.int .i64), .c (.int .i64)] v fun r => K r.1 r.2 h'
def C39 (x0 : Option Addr) (x1 : Option Addr) (h : Hp) (K : Int → Hp → Prop) : Prop :=
  HCalls Tryd.prog 39 ⟨[.pointer x0, .pointer x1]⟩ h fun v h' => VT.on (.c (.int .i64)) (some v) fun r => K r h'
def C43 (x0 : Sl) (x1 : Int) (h : Hp) (K : Bool → Hp → Prop) : Prop :=
  HCalls Tryd.prog 43 ⟨[.slice x0.p x0.n x0.c, .int .i64 x1]⟩ h fun v h' => VT.on (.c (.bool)) (some v) fun r => K r h'
def C44 (x0 : ByteArray) (h : Hp) (K : Bool → Hp → Prop) : Prop :=
  HCalls Tryd.prog 44 ⟨[.string x0]⟩ h fun v h' => VT.on (.c (.bool)) (some v) fun r => K r h'
def C48 (x0 : ByteArray) (h : Hp) (K : Bool → Hp → Prop) : Prop :=
  HCalls Tryd.prog 48 ⟨[.string x0]⟩ h fun v h' => VT.on (.c (.bool)) (some v) fun r => K r h'
def C49 (x0 : Sl) (h : Hp) (K : Bool → Hp → Prop) : Prop :=
  HCalls Tryd.prog 49 ⟨[.slice x0.p x0.n x0.c]⟩ h fun v h' => VT.on (.c (.bool)) (some v) fun r => K r h'
def C50 (x0 : ByteArray) (x1 : ByteArray) (h : Hp) (K : Bool → Hp → Prop) : Prop :=
  HCalls Tryd.prog 50 ⟨[.string x0, .string x1]⟩ h fun v h' => VT.on (.c (.bool)) (some v) fun r => K r h'
def C51 (x0 : Int) (x1 : Int) (h : Hp) (K : Sl → Hp → Prop) : Prop :=
  HCalls Tryd.prog 51 ⟨[.int .u64 x0, .int .i64 x1]⟩ h fun v h' => VT.on (.c (.slice)) (some v) fun r => K r h'
def C56 (x0 : Sl) (x1 : Int) (x2 : Int) (h : Hp) (K : Int → Int → Hp → Prop) : Prop :=
  HCalls Tryd.prog 56 ⟨[.slice x0.p x0.n x0.c, .int .i64 x1, .int .i64 x2]⟩ h fun v h' => tupOn [.c (.int .u64), .c (.int .i64)] v fun r => K r.1 r.2 h'
def C57 (x0 : Option Addr) (h : Hp) (K : ByteArray → Int → Hp → Prop) : Prop :=
  HCalls Tryd.prog 57 ⟨[.pointer x0]⟩ h fun v h' => tupOn [.c (.str), .c (.int .i64)] v fun r => K r.1 r.2 h'
def C58 (x0 : Option Addr) (h : Hp) (K : Sl → Int → Hp → Prop) : Prop :=
  HCalls Tryd.prog 58 ⟨[.pointer x0]⟩ h fun v h' => tupOn [.c (.slice), .c (.int .i64)] v fun r => K r.1 r.2 h'
def C59 (x0 : Sl) (h : Hp) (K : Sl → Hp → Prop) : Prop :=
  HCalls Tryd.prog 59 ⟨[.slice x0.p x0.n x0.c]⟩ h fun v h' => VT.on (.c (.slice)) (some v) fun r => K r h'
def C60 (x0 : Option Addr) (h : Hp) (K : ByteArray → Int → Hp → Prop) : Prop :=
  HCalls Tryd.prog 60 ⟨[.pointer x0]⟩ h fun v h' => tupOn [.c (.str), .c (.int .i64)] v fun r => K r.1 r.2 h'
def C65 (x0 : ByteArray) (h : Hp) (K : ByteArray → Hp → Prop) : Prop :=
  HCalls Tryd.prog 65 ⟨[.string x0]⟩ h fun v h' => VT.on (.c (.str)) (some v) fun r => K r h'
def C66 (x0 : ByteArray) (h : Hp) (K : Int → Bool → Hp → Prop) : Prop :=
  HCalls Tryd.prog 66 ⟨[.string x0]⟩ h fun v h' => tupOn [.c (.int .i64), .c (.bool)] v fun r => K r.1 r.2 h'
def C67 (x0 : Sl) (x1 : Sl) (h : Hp) (K : Sl → Sl → Bool → Hp → Prop) : Prop :=
  HCalls Tryd.prog 67 ⟨[.slice x0.p x0.n x0.c, .slice x1.p x1.n x1.c]⟩ h fun v h' => tupOn [.c (.slice), .c (.slice), .c (.bool)] v fun r => K r.1 r.2.1 r.2.2 h'
def C73 (x0 : ByteArray) (h : Hp) (K : Int → Value → Hp → Prop) : Prop :=
  HCalls Tryd.prog 73 ⟨[.string x0]⟩ h fun v h' => tupOn [.c (.int .i64), .c (.any)] v fun r => K r.1 r.2 h'
end Go.Proofs.YtedklcmdjoojfaaDoor

set_option linter.unusedVariables false
set_option maxRecDepth 100000
namespace Go.Proofs.YtedklcmdjoojfaaDoor
open Go Go.Hw
end Go.Proofs.YtedklcmdjoojfaaDoor

set_option linter.unusedVariables false
set_option maxRecDepth 100000
namespace Go.Proofs.YtedklcmdjoojfaaDoor
open Go Go.Hw
end Go.Proofs.YtedklcmdjoojfaaDoor

set_option linter.unusedVariables false
set_option maxRecDepth 100000
namespace Go.Proofs.YtedklcmdjoojfaaDoor
open Go Go.Hw
noncomputable def B65 : Code := match Tryd.f65.body with | some c => c | none => .skip
def N65_j1 (x3_out : Sl) (x4_i : Int) (x9 : Option Addr) (x19 : Bool) (h : Hp) (K_normal : Hp → Prop) : Prop :=
  bif x19 then
    idx x4_i x3_out.n <|
    nn x3_out.p fun a0 =>
    xI .u8 (cell h (a0.add (x4_i.toNat * 1))) fun n0 =>
    idx x4_i x3_out.n <|
    nn x3_out.p fun a1 =>
    st h (a1.add (x4_i.toNat * 1)) (.int .u8 (IntKind.wrap .u8 (n0 + 32))) fun h0 =>
    K_normal h0
  else
    K_normal h
noncomputable def N65_j1_t : Xf := pieceT [(3, .c (.slice)), (4, .c (.int .i64)), (9, .c (.ptr)), (19, .c (.bool))] (codeAt B65 [1, 1, 0, 1, 0, 0, 1, 1, 0, 1, 1]) fun x h Q => N65_j1 x.1 x.2.1 x.2.2.1 x.2.2.2 h (fun h' => Q .normal (Sg.env [] ()) h')
theorem N65_j1_ok : Sound Tryd.prog Tryd.f65.ntmps N65_j1_t (codeAt B65 [1, 1, 0, 1, 0, 0, 1, 1, 0, 1, 1]) := by
  refine piece_sound (fun e => match e with | .normal => [] | _ => []) ?_
  intro x h Q hb
  refine den_sound hE hm _ .leaf _ _ _ (annOk_leaf) ?_
  refine cast ?_ hb
  kernel_rfl
def N65_l0_b (x3_out : Sl) (x9 : Option Addr) (Φ : Hp → Prop)  (h : Hp) (K_e0 : Hp → Prop) : Prop :=
  nxS h x9 (fun n0 n1 h0 =>
    bif (decide (n1 ≥ 65)) then
      N65_j1 x3_out n0 x9 (decide (n1 ≤ 90)) h0
        (fun h2 =>
          Φ h2)
    else
      N65_j1 x3_out n0 x9 false h0
        (fun h3 =>
          Φ h3))
    (fun h1 =>
    K_e0 h1)
def N65_l0_B (x3_out : Sl) (x9 : Option Addr) (K_e0 : Hp → Prop) (s : Sg.T []) (h : Hp) (Φ : Sg.T [] → Hp → Prop) : Prop :=
  N65_l0_b x3_out x9 (fun h => Φ () h)  h K_e0
def N65_l0 (x3_out : Sl) (x9 : Option Addr)  (h : Hp) (K_e0 : Hp → Prop) : Prop :=
  loopP (N65_l0_B x3_out x9 K_e0) () h
noncomputable def N65_l0_t : Xf := loopT [(3, .c (.slice)), (9, .c (.ptr))] [] (codeAt B65 [1, 1, 0, 1, 0, 0]) fun F Q => N65_l0_B F.1 F.2 (fun h' => Q (.exit 0) (Sg.env [] ()) h')
theorem N65_l0_ok : Sound Tryd.prog Tryd.f65.ntmps N65_l0_t (codeAt B65 [1, 1, 0, 1, 0]) := by
  refine loop_sound (fun e => match e with | .exit 0 => [] | _ => []) (by kernel_rfl) ?_
  intro F Q s h Φ hb
  refine den_sound hE hm _ (.two .leaf (.two .leaf (.one (.two .leaf (.two .leaf (.xf N65_j1_t)))))) _ _ _ (⟨annOk_leaf, ⟨annOk_leaf, ⟨annOk_leaf, ⟨annOk_leaf, N65_j1_ok⟩⟩⟩⟩) ?_
  refine cast ?_ hb
  kernel_rfl
def N65 (x0 : ByteArray) (h : Hp) (K : ByteArray → Hp → Prop) : Prop :=
  s2b 5 x0 h fun s0 h0 =>
  rgS h0 x0 fun p0 h1 =>
  N65_l0 s0 p0 h1
    (fun h2 =>
      b2s h2 s0.p s0.n fun s1 =>
      K s1 h2)
theorem S65 {x0 : ByteArray} {h : Hp} {K : ByteArray → Hp → Prop} (hn : N65 x0 h K) : C65 x0 h K := by
  refine calls_of_D Tryd.func65 (c := B65) rfl (by kernel_rfl) ?_
  refine den_sound hE hm _ (.two .leaf (.two .leaf (.two (.two .leaf (.one (.xf N65_l0_t))) .leaf))) _ _ _ (⟨annOk_leaf, ⟨annOk_leaf, ⟨⟨annOk_leaf, N65_l0_ok⟩, annOk_leaf⟩⟩⟩) ?_
  refine cast ?_ hn
  kernel_rfl
end Go.Proofs.YtedklcmdjoojfaaDoor

/-
  What stands in separate blocks: a list of assertions, each with blocks of its own.
-/
set_option linter.unusedSimpArgs false
set_option linter.unusedVariables false
namespace Go.Hw
open Go
structure Asn where
  on : (Nat → Prop) → Hp → Prop
  loc : ∀ {F : Nat → Prop} {h h' : Hp}, (∀ x, F x → h' x = h x) → on F h → on F h'
  dom : ∀ {F : Nat → Prop} {h : Hp} {x : Nat}, on F h → F x → h x ≠ none
def Sat (L : List Asn) (h : Hp) : Prop :=
  ∃ F : Nat → Nat → Prop, (∀ (i : Nat) (A : Asn), L[i]? = some A → A.on (F i) h) ∧ ∀ i j x, i < L.length → j < L.length → F i x → F j x → i = j
theorem Sat.nil {h : Hp} : Sat [] h := ⟨fun _ _ => False, by simp, by simp⟩
theorem Sat.get {L : List Asn} {h : Hp} (hs : Sat L h) {i : Nat} {A : Asn} (hi : L[i]? = some A) : ∃ F, A.on F h := let ⟨F, h1, _⟩ := hs; ⟨F i, h1 i A hi⟩
theorem lt_of_get {α : Type} {l : List α} {i : Nat} {x : α} (h : l[i]? = some x) : i < l.length := (List.getElem?_eq_some_iff.1 h).1
theorem get_of_lt {α : Type} {l : List α} {i : Nat} (h : i < l.length) : ∃ x, l[i]? = some x := ⟨l[i], List.getElem?_eq_getElem h⟩
theorem Sat.step {L : List Asn} {h h' : Hp} {i : Nat} {A A' : Asn} (hs : Sat L h) (hi : L[i]? = some A)
    (hst : ∀ F, A.on F h → ∃ F', A'.on F' h' ∧ (∀ x, F' x → F x ∨ h x = none) ∧ ∀ x, ¬ F x → h x ≠ none → h' x = h x) : Sat (L.set i A') h' := by
  obtain ⟨F, h1, h2⟩ := hs
  obtain ⟨F', g1, g2, g3⟩ := hst _ (h1 i A hi)
  have hil := lt_of_get hi
  have dm : ∀ j x, j < L.length → F j x → h x ≠ none := fun j x hj hx => let ⟨B, hB⟩ := get_of_lt hj; B.dom (h1 j B hB) hx
  refine ⟨fun j => if j = i then F' else F j, ?_, ?_⟩
  · intro j B hj
    by_cases e : j = i
    · subst e
      rw [List.getElem?_set_self hil] at hj
      cases hj; simpa using g1
    · rw [List.getElem?_set_ne (fun q => e q.symm)] at hj
      simp only [if_neg e]
      refine B.loc ?_ (h1 j B hj)
      intro x hx
      refine g3 x (fun hq => e (h2 j i x (lt_of_get hj) hil hx hq)) (dm j x (lt_of_get hj) hx)
  · intro j k x hj hk hx hy
    rw [List.length_set] at hj hk
    by_cases e : j = i
    · subst e
      simp only [if_true] at hx
      by_cases e2 : k = j
      · exact e2.symm
      · simp only [if_neg e2] at hy
        rcases g2 x hx with q | q
        · exact h2 j k x hj hk q hy
        · exact (dm k x hk hy q).elim
    · simp only [if_neg e] at hx
      by_cases e2 : k = i
      · subst e2
        simp only [if_true] at hy
        rcases g2 x hy with q | q
        · exact h2 j k x hj hk hx q
        · exact (dm j x hj hx q).elim
      · simp only [if_neg e2] at hy
        exact h2 j k x hj hk hx hy
theorem Sat.ext {L : List Asn} {h h' : Hp} (hs : Sat L h) (he : Ext none' h h') : Sat L h' := by
  obtain ⟨F, h1, h2⟩ := hs
  refine ⟨F, fun i A hi => ?_, h2⟩
  refine A.loc (fun x hx => ?_) (h1 i A hi)
  cases hq : h x with
  | none => exact (A.dom (h1 i A hi) hx hq).elim
  | some o => exact he x o hq (fun e => e)
theorem Sat.more {L : List Asn} {h h' : Hp} {A : Asn} {F' : Nat → Prop} (hs : Sat L h) (he : Ext none' h h') (ha : A.on F' h') (hf : ∀ x, F' x → h x = none) : Sat (L ++ [A]) h' := by
  have hs' := hs.ext he
  obtain ⟨F, h1, h2⟩ := hs
  have dm : ∀ j x, j < L.length → F j x → h x ≠ none := fun j x hj hx => let ⟨B, hB⟩ := get_of_lt hj; B.dom (h1 j B hB) hx
  refine ⟨fun j => if j = L.length then F' else F j, ?_, ?_⟩
  · intro j B hj
    by_cases e : j = L.length
    · subst e
      simp at hj; subst hj; simpa using ha
    · have hlt : j < L.length := by have := lt_of_get hj; simp at this; omega
      rw [List.getElem?_append_left hlt] at hj
      simp only [if_neg e]
      refine B.loc (fun x hx => ?_) (h1 j B hj)
      cases hq : h x with
      | none => exact (dm j x hlt hx hq).elim
      | some o => exact he x o hq (fun e => e)
  · intro j k x hj hk hx hy
    simp at hj hk
    by_cases e : j = L.length
    · simp only [e, if_true] at hx
      by_cases e2 : k = L.length
      · omega
      · simp only [if_neg e2] at hy; exact (dm k x (by omega) hy (hf x hx)).elim
    · simp only [if_neg e] at hx
      by_cases e2 : k = L.length
      · simp only [e2, if_true] at hy; exact (dm j x (by omega) hx (hf x hy)).elim
      · simp only [if_neg e2] at hy; exact h2 j k x (by omega) (by omega) hx hy
theorem Sat.pick {L M : List Asn} {h : Hp} (hs : Sat L h) (f : Nat → Nat) (hf : ∀ (i : Nat) (A : Asn), M[i]? = some A → L[f i]? = some A) (hi : ∀ i j, i < M.length → j < M.length → f i = f j → i = j) : Sat M h := by
  obtain ⟨F, h1, h2⟩ := hs
  refine ⟨fun i => F (f i), fun i A hA => h1 _ A (hf i A hA), fun i j x hil hjl hx hy => ?_⟩
  obtain ⟨A, hA⟩ := get_of_lt hil
  obtain ⟨B, hB⟩ := get_of_lt hjl
  exact hi i j hil hjl (h2 _ _ x (lt_of_get (hf i A hA)) (lt_of_get (hf j B hB)) hx hy)
theorem Sat.left {L M : List Asn} {h : Hp} (hs : Sat (L ++ M) h) : Sat L h :=
  hs.pick (fun i => i) (fun i A hA => by rw [List.getElem?_append_left (lt_of_get hA)]; exact hA) (fun _ _ _ _ e => e)
def emp : Asn := ⟨fun F _ => ∀ x, ¬ F x, fun _ h => h, fun h hx => (h _ hx).elim⟩
def was (h0 : Hp) : Asn := ⟨fun F h => ∀ x, (F x ↔ h0 x ≠ none) ∧ (F x → h x = h0 x), fun hl h x => ⟨(h x).1, fun hx => (hl x hx).trans ((h x).2 hx)⟩, fun {F h x} hh hx => by rw [(hh x).2 hx]; exact ((hh x).1).1 hx⟩
def pt (b : Nat) (o : Obj) : Asn := ⟨fun F h => (∀ x, F x ↔ x = b) ∧ h b = some o, fun hl h => ⟨h.1, (hl b ((h.1 b).2 rfl)).trans h.2⟩, fun {F h x} hh hx => by rw [(hh.1 x).1 hx, hh.2]; simp⟩
def row (b : Nat) (T : TypeId) (cs : List Value) : Asn := pt b (.cells ⟨cs⟩ T (0, 0))
def own (T : TypeId) (sz : Nat) (s : Sl) (vs : List Value) : Asn :=
  ⟨fun F h => (∀ x, F x ↔ s.p = some (bk x)) ∧ Own h T sz s vs,
   fun {F h h'} hl hh => ⟨hh.1, by
    obtain ⟨h1, h2, h3⟩ := hh.2
    refine ⟨h1, h2, ?_⟩
    cases hp : s.p with
    | none => rw [hp] at h3; exact h3
    | some a =>
      rw [hp] at h3
      obtain ⟨e, cs, hb, hr⟩ := h3
      exact ⟨e, cs, (hl a.block ((hh.1 _).2 (by rw [hp, e]))).trans hb, hr⟩⟩,
   fun {F h x} hh hx => by
    have hp := (hh.1 x).1 hx
    have h3 := hh.2.2.2
    rw [hp] at h3
    obtain ⟨_, cs, hb, _⟩ := h3
    rw [show h x = _ from hb]; simp⟩
def pur (p : Prop) : Asn := ⟨fun F _ => (∀ x, ¬ F x) ∧ p, fun _ h => h, fun h hx => (h.1 _ hx).elim⟩
def exs {α : Type} (A : α → Asn) : Asn := ⟨fun F h => ∃ a, (A a).on F h, fun hl ⟨a, h⟩ => ⟨a, (A a).loc hl h⟩, fun ⟨a, h⟩ hx => (A a).dom h hx⟩
def star (M : List Asn) : Asn :=
  ⟨fun F h => ∃ G : Nat → Nat → Prop, (∀ (i : Nat) (A : Asn), M[i]? = some A → A.on (G i) h) ∧ (∀ i j x, i < M.length → j < M.length → G i x → G j x → i = j) ∧ ∀ x, F x ↔ ∃ i, i < M.length ∧ G i x,
   fun hl ⟨G, h1, h2, h3⟩ => ⟨G, fun i A hi => A.loc (fun x hx => hl x ((h3 x).2 ⟨i, lt_of_get hi, hx⟩)) (h1 i A hi), h2, h3⟩,
   fun {F h x} ⟨G, h1, h2, h3⟩ hx => by
    obtain ⟨i, hi, hg⟩ := (h3 x).1 hx
    obtain ⟨A, hA⟩ := get_of_lt hi
    exact A.dom (h1 i A hA) hg⟩
theorem Sat.open {L M : List Asn} {h : Hp} (hs : Sat (L ++ [star M]) h) : Sat (L ++ M) h := by
  obtain ⟨F, h1, h2⟩ := hs
  obtain ⟨G, g1, g2, g3⟩ := h1 L.length (star M) (by simp)
  refine ⟨fun i => if i < L.length then F i else G (i - L.length), ?_, ?_⟩
  · intro i A hi
    by_cases e : i < L.length
    · simp only [if_pos e]
      rw [List.getElem?_append_left e] at hi
      exact h1 i A (by rw [List.getElem?_append_left e]; exact hi)
    · simp only [if_neg e]
      rw [List.getElem?_append_right (by omega)] at hi
      exact g1 _ A hi
  · intro i j x hi hj hx hy
    simp only [List.length_append] at hi hj
    have key : ∀ i, i < L.length → ∀ j, ¬ j < L.length → j < L.length + M.length → F i x → G (j - L.length) x → False := by
      intro i hi j hj hj2 hx hy
      have := h2 i L.length x (by simp; omega) (by simp) hx ((g3 x).2 ⟨_, by omega, hy⟩)
      omega
    by_cases e : i < L.length
    · simp only [if_pos e] at hx
      by_cases e2 : j < L.length
      · simp only [if_pos e2] at hy
        exact h2 i j x (by simp; omega) (by simp; omega) hx hy
      · simp only [if_neg e2] at hy
        exact (key i e j e2 hj hx hy).elim
    · simp only [if_neg e] at hx
      by_cases e2 : j < L.length
      · simp only [if_pos e2] at hy
        exact (key j e2 i e hi hy hx).elim
      · simp only [if_neg e2] at hy
        have := g2 _ _ x (by omega) (by omega) hx hy
        omega
theorem Sat.close {L M : List Asn} {h : Hp} (hs : Sat (L ++ M) h) : Sat (L ++ [star M]) h := by
  obtain ⟨F, h1, h2⟩ := hs
  refine ⟨fun i => if i < L.length then F i else fun x => ∃ k, k < M.length ∧ F (L.length + k) x, ?_, ?_⟩
  · intro i A hi
    by_cases e : i < L.length
    · simp only [if_pos e]
      rw [List.getElem?_append_left e] at hi
      exact h1 i A (by rw [List.getElem?_append_left e]; exact hi)
    · simp only [if_neg e]
      have hlt := lt_of_get hi
      simp at hlt
      have : i = L.length := by omega
      subst this
      simp at hi; subst hi
      refine ⟨fun k => F (L.length + k), fun k A hk => h1 _ A (by rw [List.getElem?_append_right (by omega)]; simpa using hk), fun k l x hk hl hx hy => ?_, fun x => Iff.rfl⟩
      have := h2 _ _ x (by simp; omega) (by simp; omega) hx hy
      omega
  · intro i j x hi hj hx hy
    simp at hi hj
    by_cases e : i < L.length
    · simp only [if_pos e] at hx
      by_cases e2 : j < L.length
      · simp only [if_pos e2] at hy
        exact h2 i j x (by simp; omega) (by simp; omega) hx hy
      · simp only [if_neg e2] at hy
        obtain ⟨k, hk, hy⟩ := hy
        have := h2 _ _ x (by simp; omega) (by simp; omega) hx hy
        omega
    · simp only [if_neg e] at hx
      by_cases e2 : j < L.length
      · simp only [if_pos e2] at hy
        obtain ⟨k, hk, hx⟩ := hx
        have := h2 _ _ x (by simp; omega) (by simp; omega) hx hy
        omega
      · omega
theorem Sat.rot {L M : List Asn} {h : Hp} (hs : Sat (L ++ M) h) (j : Nat) {A : Asn} (hj : M[j]? = some A) : Sat ((L ++ M.eraseIdx j) ++ [A]) h := by
  have hjl := lt_of_get hj
  have hel : (M.eraseIdx j).length + 1 = M.length := by rw [List.length_eraseIdx_of_lt hjl]; omega
  refine hs.pick (fun i => if i < L.length + j then i else if i = L.length + (M.length - 1) then L.length + j else i + 1) ?_ ?_
  · intro i B hi
    have hlt := lt_of_get hi
    simp only [List.length_append, List.length_singleton] at hlt
    by_cases e : i < L.length + j
    · simp only [if_pos e]
      rw [List.getElem?_append_left (by simp; omega)] at hi
      by_cases e2 : i < L.length
      · rw [List.getElem?_append_left e2] at hi ⊢; exact hi
      · rw [List.getElem?_append_right (by omega)] at hi ⊢
        rw [List.getElem?_eraseIdx_of_lt (by omega)] at hi; exact hi
    · simp only [if_neg e]
      by_cases e2 : i = L.length + (M.length - 1)
      · simp only [if_pos e2]
        rw [List.getElem?_append_right (by simp; omega)] at hi
        have : i - (L ++ M.eraseIdx j).length = 0 := by simp; omega
        rw [this] at hi
        simp at hi
        rw [List.getElem?_append_right (by omega)]
        simp only [Nat.add_sub_cancel_left]
        rw [hj, hi]
      · simp only [if_neg e2]
        rw [List.getElem?_append_left (by simp; omega)] at hi
        rw [List.getElem?_append_right (by omega)] at hi ⊢
        rw [List.getElem?_eraseIdx_of_ge (by omega)] at hi
        rw [show i + 1 - L.length = i - L.length + 1 by omega]; exact hi
  · intro i k hi hk e
    simp only [List.length_append, List.length_singleton] at hi hk
    split at e <;> split at e <;> (try split at e) <;> (try split at e) <;> omega
theorem Sat.back {L M : List Asn} {h : Hp} {j : Nat} {A' : Asn} (hs : Sat ((L ++ M.eraseIdx j) ++ [A']) h) (hjl : j < M.length) : Sat (L ++ M.set j A') h := by
  have hel : (M.eraseIdx j).length + 1 = M.length := by rw [List.length_eraseIdx_of_lt hjl]; omega
  refine hs.pick (fun i => if i < L.length + j then i else if i = L.length + j then L.length + (M.length - 1) else i - 1) ?_ ?_
  · intro i B hi
    have hlt := lt_of_get hi
    simp only [List.length_append, List.length_set] at hlt
    by_cases e : i < L.length + j
    · simp only [if_pos e]
      rw [List.getElem?_append_left (by simp; omega)]
      by_cases e2 : i < L.length
      · rw [List.getElem?_append_left e2] at hi ⊢; exact hi
      · rw [List.getElem?_append_right (by omega)] at hi ⊢
        rw [List.getElem?_eraseIdx_of_lt (by omega)]
        rw [List.getElem?_set_ne (by omega)] at hi; exact hi
    · simp only [if_neg e]
      by_cases e2 : i = L.length + j
      · simp only [if_pos e2]
        rw [List.getElem?_append_right (by simp; omega)]
        have : L.length + (M.length - 1) - (L ++ M.eraseIdx j).length = 0 := by simp; omega
        rw [this]
        rw [List.getElem?_append_right (by omega)] at hi
        rw [show i - L.length = j by omega, List.getElem?_set_self hjl] at hi
        simpa using hi
      · simp only [if_neg e2]
        rw [List.getElem?_append_left (by simp; omega)]
        rw [List.getElem?_append_right (by omega)] at hi ⊢
        rw [List.getElem?_eraseIdx_of_ge (by omega)]
        rw [List.getElem?_set_ne (by omega)] at hi
        rw [show i - 1 - L.length + 1 = i - L.length by omega]; exact hi
  · intro i k hi hk e
    simp only [List.length_append, List.length_set] at hi hk
    split at e <;> split at e <;> (try split at e) <;> (try split at e) <;> omega
theorem Sat.imp {L M : List Asn} {h : Hp} (hs : Sat (L ++ M) h) (j : Nat) {A A' : Asn} (hj : M[j]? = some A) (hi : ∀ F, A.on F h → A'.on F h) : Sat (L ++ M.set j A') h := by
  have hjl := lt_of_get hj
  have := Sat.step (i := L.length + j) (A := A) (A' := A') (h' := h) hs (by rw [List.getElem?_append_right (by omega)]; simpa using hj) (fun F hF => ⟨F, hi F hF, fun x hx => .inl hx, fun _ _ _ => rfl⟩)
  rwa [List.set_append_right _ _ (by omega), Nat.add_sub_cancel_left] at this
theorem Sat.at {L M : List Asn} {h h' : Hp} (hs : Sat (L ++ M) h) (j : Nat) {A A' : Asn} (hj : M[j]? = some A)
    (hst : ∀ F, A.on F h → ∃ F', A'.on F' h' ∧ (∀ x, F' x → F x ∨ h x = none) ∧ ∀ x, ¬ F x → h x ≠ none → h' x = h x) : Sat (L ++ M.set j A') h' := by
  have hjl := lt_of_get hj
  have := Sat.step (i := L.length + j) (A := A) (A' := A') (h' := h') hs (by rw [List.getElem?_append_right (by omega)]; simpa using hj) hst
  rwa [List.set_append_right _ _ (by omega), Nat.add_sub_cancel_left] at this
theorem Sat.get' {L M : List Asn} {h : Hp} (hs : Sat (L ++ M) h) (j : Nat) {A : Asn} (hj : M[j]? = some A) : ∃ F, A.on F h :=
  hs.get (i := L.length + j) (by rw [List.getElem?_append_right (by omega)]; simpa using hj)
theorem Sat.add {L M : List Asn} {h h' : Hp} {A : Asn} {F' : Nat → Prop} (hs : Sat (L ++ M) h) (he : Ext none' h h') (ha : A.on F' h') (hf : ∀ x, F' x → h x = none) : Sat (L ++ (M ++ [A])) h' := by
  rw [← List.append_assoc]; exact hs.more he ha hf
theorem Sat.pt {L M : List Asn} {h : Hp} (hs : Sat (L ++ M) h) (j : Nat) {b : Nat} {o : Obj} (hj : M[j]? = some (Hw.pt b o)) : h b = some o := let ⟨_, hF⟩ := hs.get' j hj; hF.2
theorem Sat.blk {L M : List Asn} {h : Hp} (hs : Sat (L ++ M) h) (j : Nat) {b : Nat} {T : TypeId} {cs : List Value} (hj : M[j]? = some (row b T cs)) : Blk h b T cs := let ⟨_, hF⟩ := hs.get' j hj; hF.2
theorem Sat.own {L M : List Asn} {h : Hp} (hs : Sat (L ++ M) h) (j : Nat) {T : TypeId} {sz : Nat} {s : Sl} {vs : List Value} (hj : M[j]? = some (Hw.own T sz s vs)) : Own h T sz s vs := let ⟨_, hF⟩ := hs.get' j hj; hF.2
theorem Sat.was {L M : List Asn} {h h0 : Hp} (hs : Sat (L ++ M) h) (j : Nat) (hj : M[j]? = some (Hw.was h0)) : Ext none' h0 h := by
  obtain ⟨F, hF⟩ := hs.get' j hj
  intro b o hb _
  have := (hF b).2 ((hF b).1.2 (by rw [hb]; simp))
  rw [this]; exact hb
theorem Sat.pur {L M : List Asn} {h : Hp} (hs : Sat (L ++ M) h) (j : Nat) {p : Prop} (hj : M[j]? = some (Hw.pur p)) : p := let ⟨_, hF⟩ := hs.get' j hj; hF.2
theorem Sat.put {L M : List Asn} {h : Hp} (hs : Sat (L ++ M) h) (j : Nat) {b : Nat} {o o' : Obj} (hj : M[j]? = some (Hw.pt b o)) : Sat (L ++ M.set j (Hw.pt b o')) (upd h b o') :=
  hs.at j hj fun F hF => ⟨F, ⟨hF.1, upd_same⟩, fun x hx => .inl hx, fun x hx _ => upd_ne (fun e => hx ((hF.1 x).2 e))⟩
theorem Sat.new {L M : List Asn} {h : Hp} {b : Nat} (hs : Sat (L ++ M) h) (hb : h b = none) (o : Obj) : Sat (L ++ (M ++ [Hw.pt b o])) (upd h b o) :=
  hs.add (Ext.new hb) (F' := fun x => x = b) ⟨fun _ => Iff.rfl, upd_same⟩ (fun x hx => by rw [hx]; exact hb)
theorem Sat.st {L M : List Asn} {h : Hp} {b k : Nat} {T : TypeId} {cs : List Value} {v : Value} {F : Hp → Prop} (hs : Sat (L ++ M) h) (j : Nat) (hj : M[j]? = some (row b T cs)) (hk : k < cs.length) (hp : plain v = true)
    (hF : ∀ h', Sat (L ++ M.set j (row b T (cs.set k v))) h' → F h') : Hw.st h ⟨b, k, none⟩ v F :=
  (hs.blk j hj).st hk hp (hF _ (hs.put j hj))
theorem Sat.addOwn {L M : List Asn} {h h' : Hp} {T : TypeId} {sz : Nat} {s : Sl} {vs : List Value} (hs : Sat (L ++ M) h) (he : Ext none' h h') (ho : Own h' T sz s vs) (hf : ∀ b, s.p = some (bk b) → h b = none) : Sat (L ++ (M ++ [Hw.own T sz s vs])) h' :=
  hs.add he (F' := fun x => s.p = some (bk x)) ⟨fun _ => Iff.rfl, ho⟩ hf
theorem Sat.ap {P : Program} {L M : List Asn} {T : TypeId} {sz : Nat} {s : Sl} {vs ns : List Value} {y : Value} {h : Hp} {F : Sl → Hp → Prop} {n : Nat} (hs : Sat (L ++ M) h) (j : Nat) (hj : M[j]? = some (Hw.own T sz s vs))
    (hsz : P.cellsOf T = sz) (hz : (zc P T).length = sz) (hln : ∀ G : Nat → Prop, lnK y G = G n) (hsrc : ∀ G : List Value → Prop, G ns → srcK h sz n y G)
    (hns : ns.length = n * sz) (hpl : ∀ v ∈ ns, plain v = true) (hby : (s.n + n) * 2 * P.bytesOf T ≤ 2 ^ 48)
    (hF : ∀ s' h', Sat (L ++ M.set j (Hw.own T sz s' (vs ++ ns))) h' → s'.n = s.n + n → F s' h') : apK P T s y h F := by
  refine apK_own (hs.own j hj) hsz hz hln hsrc hns hpl hby ?_
  intro s' h' ho hn he hr
  refine hF s' h' (hs.at j hj fun G hG => ⟨fun x => s'.p = some (bk x), ⟨fun _ => Iff.rfl, ho⟩, fun x hx => ?_, fun x hx hne => ?_⟩) hn
  · rcases hr x hx with e | e
    · exact .inl ((hG.1 x).2 e)
    · exact .inr e
  · cases hq : h x with
    | none => exact (hne hq).elim
    | some o => exact he x o hq (fun e => hx ((hG.1 x).2 e))
theorem Sat.drop {L M : List Asn} {h : Hp} (hs : Sat (L ++ M) h) : Sat L h := hs.left
def orA (A B : Asn) : Asn := ⟨fun F h => A.on F h ∨ B.on F h, fun hl hh => hh.imp (A.loc hl) (B.loc hl), fun hh hx => hh.elim (fun h => A.dom h hx) (fun h => B.dom h hx)⟩
end Go.Hw

/-
  Bytes: slices that read as lists of bytes; rows that are pushed to; new slices.
-/
set_option linter.unusedSimpArgs false
set_option linter.unusedVariables false
namespace Go.Hw
open Go
theorem cellx {h h' : Hp} (he : Ext none' h h') {a : Addr} {v : Value} (hc : cell h a = some v) : cell h' a = some v := by
  unfold cell at hc ⊢
  cases hb : h a.block with
  | none => rw [hb] at hc; cases hc
  | some o => rw [hb] at hc; rw [he _ _ hb (fun e => e)]; exact hc
theorem addadd (a : Addr) (m n : Nat) : (a.add m).add n = a.add (m + n) := by
  unfold Addr.add
  by_cases h1 : m = 0
  · subst h1; simp
  · by_cases h2 : n = 0
    · subst h2; simp
    · simp [h1, h2, Nat.add_assoc]
@[simp] theorem addzero (a : Addr) : a.add 0 = a := by simp [Addr.add]
def Rdc (h : Hp) (p : Option Addr) (vs : List Value) : Prop := ∀ (i : Nat) (v : Value), vs[i]? = some v → ∃ a, p = some a ∧ cell h (a.add i) = some v
theorem Rdc.ext {h h' : Hp} {p : Option Addr} {vs : List Value} (H : Rdc h p vs) (he : Ext none' h h') : Rdc h' p vs := fun i v hi => let ⟨a, hp, hc⟩ := H i v hi; ⟨a, hp, cellx he hc⟩
theorem Rdc.drop {h : Hp} {a : Addr} {vs : List Value} (H : Rdc h (some a) vs) (k : Nat) : Rdc h (some (a.add k)) (vs.drop k) := by
  intro i v hi
  rw [List.getElem?_drop] at hi
  obtain ⟨b, hb, hc⟩ := H _ v hi
  cases hb
  exact ⟨_, rfl, by rw [addadd]; exact hc⟩
theorem Rdc.take {h : Hp} {p : Option Addr} {vs : List Value} (H : Rdc h p vs) (k : Nat) : Rdc h p (vs.take k) := by
  intro i v hi
  rw [List.getElem?_take] at hi
  split at hi
  · exact H i v hi
  · cases hi
theorem Rdc.rdN {h : Hp} {a : Addr} {vs : List Value} (H : Rdc h (some a) vs) : ∀ (n i : Nat), i + n ≤ vs.length → Hw.rdN h a i n = some ((vs.drop i).take n) := by
  intro n
  induction n with
  | zero => intro i _; simp [Hw.rdN]
  | succ n ih =>
    intro i hi
    have hlt : i < vs.length := by omega
    obtain ⟨b, hb, hc⟩ := H i vs[i] (List.getElem?_eq_getElem hlt)
    cases hb
    simp only [Hw.rdN, hc, ih (i + 1) (by omega)]
    rw [List.drop_eq_getElem_cons hlt, List.take_succ_cons]
theorem Blk.rdc {h : Hp} {b : Nat} {T : TypeId} {cs : List Value} (hb : Blk h b T cs) : Rdc h (some (bk b)) cs := fun i v hi => ⟨_, rfl, by rw [add_bk, hb.cell]; exact hi⟩
theorem Own.rdc {h : Hp} {T : TypeId} {sz : Nat} {s : Sl} {vs : List Value} (ho : Own h T sz s vs) : Rdc h s.p vs := by
  intro i v hi
  obtain ⟨b, hp, hc⟩ := ho.get hi
  exact ⟨bk b, hp, by rw [add_bk]; exact hc⟩
def bc (l : List UInt8) : List Value := l.map fun b => .int .u8 b.toNat
@[simp] theorem bc_len (l : List UInt8) : (bc l).length = l.length := by simp [bc]
@[simp] theorem bc_nil : bc [] = [] := rfl
@[simp] theorem bc_cons (b : UInt8) (l : List UInt8) : bc (b :: l) = .int .u8 b.toNat :: bc l := rfl
theorem bc_app (l m : List UInt8) : bc (l ++ m) = bc l ++ bc m := by simp [bc]
theorem bc_get (l : List UInt8) (i : Nat) : (bc l)[i]? = l[i]?.map fun b => .int .u8 b.toNat := by simp [bc]
theorem bc_take (l : List UInt8) (n : Nat) : bc (l.take n) = (bc l).take n := by simp [bc, List.map_take]
theorem bc_drop (l : List UInt8) (n : Nat) : bc (l.drop n) = (bc l).drop n := by simp [bc, List.map_drop]
theorem bc_set (l : List UInt8) (n : Nat) (b : UInt8) : bc (l.set n b) = (bc l).set n (.int .u8 b.toNat) := by simp [bc, List.map_set]
theorem bcells_bc (s : ByteArray) : bcells s = bc s.data.toList := rfl
theorem bc_plain {l : List UInt8} : ∀ v ∈ bc l, plain v = true := by
  intro v hv
  obtain ⟨b, _, rfl⟩ := List.mem_map.1 hv
  rfl
theorem cbytes_bc : ∀ (l : List UInt8), cbytes (bc l) = some l := by
  intro l
  induction l with
  | nil => rfl
  | cons b l ih => simp only [bc_cons, cbytes, ih]; simp
structure RdB (h : Hp) (s : Sl) (l : List UInt8) : Prop where
  n : s.n = l.length
  c : s.n ≤ s.c
  r : Rdc h s.p (bc l)
theorem RdB.ext {h h' : Hp} {s : Sl} {l : List UInt8} (H : RdB h s l) (he : Ext none' h h') : RdB h' s l := ⟨H.n, H.c, H.r.ext he⟩
theorem Own.rdb {h : Hp} {T : TypeId} {s : Sl} {l : List UInt8} (ho : Own h T 1 s (bc l)) : RdB h s l := ⟨by have := ho.1; simpa using this.symm, ho.2.1, ho.rdc⟩
theorem RdB.nil {h : Hp} {p : Option Addr} {c : Nat} : RdB h ⟨p, 0, c⟩ [] := ⟨rfl, Nat.zero_le _, by intro i v hi; simp at hi⟩
theorem RdB.get {h : Hp} {s : Sl} {l : List UInt8} (H : RdB h s l) {i : Nat} (hi : i < l.length) : ∃ a, s.p = some a ∧ cell h (a.add i) = some (.int .u8 (l[i]'hi).toNat) :=
  H.r i _ (by rw [bc_get, List.getElem?_eq_getElem hi]; rfl)
theorem RdB.at {h : Hp} {s : Sl} {l : List UInt8} (H : RdB h s l) {x : Int} {i : Nat} (hx : x = i) (hi : i < l.length) {F : Int → Prop} (hF : F ((l[i]'hi).toNat : Int)) :
    idx x s.n (nn s.p fun a => xI .u8 (cell h (a.add (x.toNat * 1))) F) := by
  obtain ⟨a, hp, hc⟩ := H.get hi
  refine idx_of (by omega) (by have := H.n; omega) ?_
  rw [hp]
  subst hx
  simp only [nn_some', Nat.mul_one, Int.toNat_natCast, hc, xI_some]
  exact hF
theorem RdB.b2s {h : Hp} {s : Sl} {l : List UInt8} (H : RdB h s l) {F : ByteArray → Prop} (hF : F ⟨⟨l⟩⟩) : Hw.b2s h s.p s.n F := by
  unfold Hw.b2s
  cases hp : s.p with
  | none =>
    have : l = [] := by
      cases l with
      | nil => rfl
      | cons b l => obtain ⟨a, ha, _⟩ := H.get (i := 0) (by simp); rw [hp] at ha; cases ha
    subst this; exact hF
  | some a =>
    have hr := H.r
    rw [hp] at hr
    simp only []
    rw [hr.rdN _ _ (by rw [H.n]; simp), H.n]
    simp only [List.drop_zero]
    rw [← bc_len, List.take_length, cbytes_bc]
    exact hF
theorem RdB.srcK {h : Hp} {s : Sl} {l : List UInt8} (H : RdB h s l) {n : Nat} (hn : n ≤ l.length) {F : List Value → Prop} (hF : F (bc (l.take n))) : Hw.srcK h 1 n s.v F := by
  unfold Hw.srcK Sl.v
  simp only []
  cases hp : s.p with
  | none =>
    have : l = [] := by
      cases l with
      | nil => rfl
      | cons b l => obtain ⟨a, ha, _⟩ := H.get (i := 0) (by simp); rw [hp] at ha; cases ha
    subst this; simpa using hF
  | some a =>
    have hr := H.r
    rw [hp] at hr
    simp only []
    rw [hr.rdN _ _ (by simp; omega)]
    simp only [List.drop_zero, Nat.mul_one]
    rw [← bc_take]; exact hF
theorem RdB.sub {h : Hp} {s : Sl} {l : List UInt8} (H : RdB h s l) {lo hi : Nat} (h1 : lo ≤ hi) (h2 : hi ≤ l.length) : RdB h ⟨sadr s.p s.c lo 1, hi - lo, s.c - lo⟩ ((l.drop lo).take (hi - lo)) := by
  have hn := H.n
  have hc := H.c
  refine ⟨by simp; omega, by simp; omega, ?_⟩
  show Rdc h (sadr s.p s.c lo 1) _
  unfold sadr
  split
  · have : hi - lo = 0 := by omega
    rw [this]
    intro i v hi; simp at hi
  · cases hp : s.p with
    | none =>
      intro i v hi
      obtain ⟨a, ha, _⟩ := H.get (i := 0) (by
        rw [bc_get] at hi
        simp only [Option.map_eq_some_iff] at hi
        obtain ⟨b, hb, _⟩ := hi
        have := lt_of_get hb
        simp at this; omega)
      rw [hp] at ha; cases ha
    | some a =>
      have hr := H.r
      rw [hp] at hr
      have := (hr.drop (lo * 1)).take (hi - lo)
      rw [Nat.mul_one] at this ⊢
      rw [bc_take, bc_drop]
      exact this
theorem Sat.start {h : Hp} : Sat ([] ++ [Hw.was h]) h :=
  ⟨fun _ x => h x ≠ none, fun i A hi => by
    have : i = 0 := by have := lt_of_get hi; simp at this; omega
    subst this
    simp at hi; subst hi
    exact fun x => ⟨Iff.rfl, fun _ => rfl⟩, fun i j x hi hj _ _ => by simp at hi hj; omega⟩
def NewO (h h' : Hp) (T : TypeId) (sz : Nat) (s : Sl) (vs : List Value) : Prop := Ext none' h h' ∧ Own h' T sz s vs ∧ ∀ b, s.p = some (bk b) → h b = none
theorem Sat.newO {L M : List Asn} {h h0 : Hp} (hs : Sat (L ++ M) h) (i j : Nat) {T : TypeId} {sz : Nat} {s : Sl} {vs : List Value} (hi : M[i]? = some (Hw.was h0)) (hj : M[j]? = some (Hw.own T sz s vs)) (hij : i ≠ j) : NewO h0 h T sz s vs := by
  refine ⟨hs.was i hi, hs.own j hj, ?_⟩
  obtain ⟨F, h1, h2⟩ := hs
  intro b hb
  cases hq : h0 b with
  | none => rfl
  | some o =>
    have w := h1 (L.length + i) (Hw.was h0) (by rw [List.getElem?_append_right (by omega)]; simpa using hi)
    have u := h1 (L.length + j) (Hw.own T sz s vs) (by rw [List.getElem?_append_right (by omega)]; simpa using hj)
    have li := lt_of_get hi
    have lj := lt_of_get hj
    have := h2 (L.length + i) (L.length + j) b (by simp; omega) (by simp; omega) ((w b).1.2 (by rw [hq]; simp)) ((u.1 b).2 hb)
    omega
theorem NewO.nil {h : Hp} {T : TypeId} {sz : Nat} : NewO h h T sz ⟨none, 0, 0⟩ [] := ⟨Ext.refl, Own.nil, by intro b hb; cases hb⟩
theorem Sat.addNew {L M : List Asn} {h h' : Hp} {T : TypeId} {sz : Nat} {s : Sl} {vs : List Value} (hs : Sat (L ++ M) h) (hn : NewO h h' T sz s vs) : Sat (L ++ (M ++ [Hw.own T sz s vs])) h' := hs.addOwn hn.1 hn.2.1 hn.2.2
theorem Sat.addNil {L M : List Asn} {h : Hp} (T : TypeId) (sz : Nat) (hs : Sat (L ++ M) h) : Sat (L ++ (M ++ [Hw.own T sz ⟨none, 0, 0⟩ []])) h := hs.addNew NewO.nil
theorem NewO.trans {h h1 h' : Hp} {T : TypeId} {sz : Nat} {s : Sl} {vs : List Value} (he : Ext none' h h1) (hn : NewO h1 h' T sz s vs) : NewO h h' T sz s vs := by
  refine ⟨he.trans hn.1, hn.2.1, fun b hb => ?_⟩
  cases hq : h b with
  | none => rfl
  | some o => have := he b o hq (fun e => e); rw [hn.2.2 b hb] at this; cases this
theorem NewO.ext {h h1 h' : Hp} {T : TypeId} {sz : Nat} {s : Sl} {vs : List Value} (hn : NewO h h1 T sz s vs) (he : Ext none' h1 h') : NewO h h' T sz s vs :=
  ⟨hn.1.trans he, hn.2.1.ext he (fun _ _ e => e), hn.2.2⟩
theorem Sat.push {P : Program} {L M : List Asn} {T : TypeId} {sz k : Nat} {s : Sl} {vs ns : List Value} {h : Hp} {F : Sl → Hp → Prop} (hs : Sat (L ++ M) h) (j : Nat) (hj : M[j]? = some (Hw.own T sz s vs))
    (hsz : P.cellsOf T = sz) (hz : (zc P T).length = sz) (hns : ns.length = k * sz) (hpl : ∀ v ∈ ns, plain v = true) (hby : (s.n + k) * 2 * P.bytesOf T ≤ 2 ^ 48)
    (hF : ∀ s' h', Sat (L ++ M.set j (Hw.own T sz s' (vs ++ ns))) h' → s'.n = s.n + k → F s' h') :
    nw h (.cells ⟨ns⟩ T) fun b0 h0 => apK P T s (.slice (some (bk b0)) k k) h0 F := by
  intro b0 e0
  have hs1 := hs.ext (Ext.new (o := .cells ⟨ns⟩ T (0, 0)) e0)
  refine hs1.ap j hj hsz hz (n := k) (fun _ => rfl) ?_ hns hpl hby hF
  intro G hG
  unfold srcK
  simp only []
  rw [rdN_blk (T := T) (cs := ns) Blk.upd_same _ _ (by omega)]
  simp only [List.drop_zero]
  rw [← hns, List.take_length]; exact hG
theorem Sat.mk {P : Program} {L M : List Asn} {T : TypeId} {sz : Nat} {l c : Int} {h : Hp} {F : Sl → Hp → Prop} (hs : Sat (L ++ M) h) (hz : (zc P T).length = sz) (h0 : 0 ≤ l) (h1 : l ≤ c) (h2 : P.bytesOf T * c ≤ 2 ^ 48) (h3 : c ≤ 9223372036854775807)
    (hF : ∀ s' h' , s'.n = l.toNat → s'.c = c.toNat → Sat (L ++ (M ++ [Hw.own T sz s' (zeros P T l.toNat).toList])) h' → F s' h') : mkK P T l c h F := by
  unfold mkK
  simp only [h0, h1, h2, h3, decide_true, Bool.and_self, cond_true]
  intro b hb
  have split : (zeros P T c.toNat).toList.take (l.toNat * (zc P T).length) = (zeros P T l.toNat).toList := by
    unfold zeros Builtin.zeroCells
    have : min (l.toNat * (zc P T).length) (c.toNat * (zc P T).length) = l.toNat * (zc P T).length := Nat.min_eq_left (Nat.mul_le_mul_right _ (by omega))
    simp [← List.map_take, List.take_range, this]
  refine hF ⟨some (bk b), l.toNat, c.toNat⟩ _ rfl rfl (hs.addOwn (Ext.new hb) ⟨?_, ?_, rfl, (zeros P T c.toNat).toList, ?_, ?_, ?_⟩ ?_)
  · rw [zeros_len, hz]
  · show l.toNat ≤ c.toNat; omega
  · show upd h b _ b = some (.cells ⟨(zeros P T c.toNat).toList⟩ T (0, 0))
    rw [upd_same]
  · rw [zeros_len, hz]
  · rw [zeros_len]; exact split
  · intro b' hb'
    simp only [Option.some.injEq] at hb'
    have : b = b' := congrArg Addr.block hb'
    subst this; exact hb
theorem putd_u8 {n : Int} (h0 : 0 ≤ n) (h1 : n < 256) : ((UInt8.ofNat n.toNat).toNat : Int) = n := by
  rw [UInt8.toNat_ofNat']
  omega
end Go.Hw

/-
  Rows of bytes that may bear a mark behind their end (a string's bytes, taken as a slice): reading, writing, append.
-/
set_option linter.unusedSimpArgs false
set_option linter.unusedVariables false
namespace Go.Hw
open Go
def Blm (h : Hp) (b : Nat) (T : TypeId) (l : List Value) : Prop := ∃ z : Nat × Nat, (z.1 = z.2 ∨ l.length ≤ z.1) ∧ h b = some (.cells ⟨l⟩ T z)
theorem Blk.m {h : Hp} {b : Nat} {T : TypeId} {l : List Value} (hb : Blk h b T l) : Blm h b T l := ⟨(0, 0), .inl rfl, hb⟩
theorem Blm.cell {h : Hp} {b k : Nat} {T : TypeId} {l : List Value} (hb : Blm h b T l) : Hw.cell h ⟨b, k, none⟩ = l[k]? := by
  obtain ⟨z, _, hb⟩ := hb; exact cell_at hb
theorem Blm.st {h : Hp} {b k : Nat} {T : TypeId} {l : List Value} {v : Value} {F : Hp → Prop} (hb : Blm h b T l) (hk : k < l.length) (hp : plain v = true)
    (hF : ∀ h', Blm h' b T (l.set k v) → (∀ c, c ≠ b → h' c = h c) → F h') : Hw.st h ⟨b, k, none⟩ v F := by
  obtain ⟨⟨z1, z2⟩, hz, hb⟩ := hb
  unfold Hw.st; rw [hp]
  refine ⟨⟨by rw [cell_at hb]; simp [hk], ?_⟩, ?_⟩
  · unfold frz
    simp only [hb]
    rcases hz with hz | hz
    · have hz : z1 = z2 := hz
      subst hz
      by_cases hq : z1 ≤ k
      · have : ¬ k < z1 := by omega
        simp [this]
      · simp [hq]
    · have : ¬ z1 ≤ k := by have : l.length ≤ z1 := hz; omega
      simp [this]
  · have e : setc h ⟨b, k, none⟩ v = upd h b (.cells ⟨l.set k v⟩ T (z1, z2)) := by simp [Hw.setc, hb]
    rw [e]
    exact hF _ ⟨(z1, z2), by simpa using hz, upd_same⟩ fun c hc => upd_ne hc
theorem wrL_blm {b : Nat} {T : TypeId} {F : Hp → Prop} {o : Nat} : ∀ (l : List Value) (i : Nat) (h : Hp) (cs : List Value), Blm h b T cs → o + i + l.length ≤ cs.length → (∀ v ∈ l, plain v = true) →
    (∀ h', Blm h' b T (setL cs (o + i) l) → (∀ c, c ≠ b → h' c = h c) → F h') → wrL ⟨b, o, none⟩ i l h F := by
  intro l
  induction l with
  | nil => intro i h cs hb _ _ hF; exact hF h hb fun _ _ => rfl
  | cons v l ih =>
    intro i h cs hb hi hp hF
    simp only [List.length_cons] at hi
    simp only [wrL, add_mk]
    refine hb.st (by omega) (hp v (List.mem_cons_self ..)) ?_
    intro h1 hb1 hf1
    refine ih (i + 1) _ (cs.set (o + i) v) hb1 (by simp; omega) (fun w hw => hp w (List.mem_cons_of_mem _ hw)) ?_
    intro h' hb' hf
    refine hF h' hb' ?_
    intro c hc; rw [hf c hc, hf1 c hc]
def OwnB (h : Hp) (T : TypeId) (s : Sl) (l : List UInt8) : Prop :=
  l.length = s.n ∧ s.n ≤ s.c ∧
  match s.p with
  | none => s.c = 0
  | some a => a = bk a.block ∧ ∃ cs, Blm h a.block T cs ∧ cs.length = s.c ∧ cs.take l.length = bc l
theorem OwnB.rdb {h : Hp} {T : TypeId} {s : Sl} {l : List UInt8} (ho : OwnB h T s l) : RdB h s l := by
  obtain ⟨h1, h2, h3⟩ := ho
  refine ⟨h1.symm, h2, ?_⟩
  intro i v hi
  have hil := (List.getElem?_eq_some_iff.1 hi).1
  rw [bc_len] at hil
  cases hp : s.p with
  | none => rw [hp] at h3; have : s.c = 0 := h3; omega
  | some a =>
    rw [hp] at h3
    obtain ⟨e, cs, hb, hl, ht⟩ := h3
    refine ⟨a, rfl, ?_⟩
    rw [e, add_bk, hb.cell]
    rw [← ht, List.getElem?_take, if_pos hil] at hi
    exact hi
theorem OwnB.st {h : Hp} {T : TypeId} {s : Sl} {l : List UInt8} (ho : OwnB h T s l) {k : Nat} (hk : k < l.length) {v : UInt8} {F : Hp → Prop}
    (hF : ∀ b h', s.p = some (bk b) → OwnB h' T s (l.set k v) → (∀ c, c ≠ b → h' c = h c) → F h') : ∃ b, s.p = some (bk b) ∧ Hw.st h ⟨b, k, none⟩ (.int .u8 v.toNat) F := by
  obtain ⟨h1, h2, h3⟩ := ho
  cases hp : s.p with
  | none => rw [hp] at h3; have : s.c = 0 := h3; omega
  | some a =>
    rw [hp] at h3
    obtain ⟨e, cs, hb, hl, ht⟩ := h3
    refine ⟨a.block, by rw [← e], ?_⟩
    refine hb.st (by omega) rfl ?_
    intro h' hb' hf
    refine hF a.block h' (by rw [hp, ← e]) ⟨by simpa using h1, h2, ?_⟩ hf
    show match s.p with | none => _ | some a => _
    rw [hp]
    refine ⟨e, _, hb', by simpa using hl, ?_⟩
    rw [List.length_set, List.take_set, ht, bc_set]
theorem OwnB.ap {P : Program} {T : TypeId} {s : Sl} {l m : List UInt8} {y : Value} {h : Hp} {F : Sl → Hp → Prop} (ho : OwnB h T s l)
    (hsz : P.cellsOf T = 1) (hz : (zc P T).length = 1) (hln : ∀ G : Nat → Prop, lnK y G = G m.length) (hsrc : ∀ G : List Value → Prop, G (bc m) → srcK h 1 m.length y G) (hby : (s.n + m.length) * 2 * P.bytesOf T ≤ 2 ^ 48)
    (hF : ∀ s' h', OwnB h' T s' (l ++ m) → Ext (fun b => s.p = some (bk b)) h h' → (∀ b, s'.p = some (bk b) → s.p = some (bk b) ∨ h b = none) → F s' h') : apK P T s y h F := by
  have hr := ho.rdb
  unfold apK
  rw [hln]
  obtain ⟨h1, h2, h3⟩ := ho
  refine ⟨fun hc => ?_, fun hc => ⟨?_, ?_⟩⟩
  · rw [hsz]
    refine hsrc _ ?_
    cases hp : s.p with
    | none =>
      rw [hp] at h3
      have h3' : s.c = 0 := h3
      have hm : m = [] := List.length_eq_zero_iff.1 (by omega)
      subst hm
      simp only []
      refine hF ⟨none, s.n + 0, s.c⟩ h ⟨by simp; omega, by simp; omega, h3'⟩ Ext.refl (by intro b hb; cases hb)
    | some a =>
      rw [hp] at h3
      obtain ⟨e, cs, hb, hl, ht⟩ := h3
      simp only []
      rw [e, add_bk, Nat.mul_one]
      refine wrL_blm (bc m) 0 h cs hb (by rw [bc_len]; omega) bc_plain ?_
      intro h' hb' hf
      rw [Nat.add_zero, setL_eq (by rw [bc_len]; omega)] at hb'
      refine hF ⟨some (bk a.block), s.n + m.length, s.c⟩ h' ⟨by simp; omega, hc, rfl, _, hb', ?_, ?_⟩ ?_ ?_
      · simp; omega
      · rw [← h1, ht, bc_app, List.append_assoc, ← List.append_assoc (bc l)]
        exact List.take_left' (by simp)
      · intro c o hco hn
        have : c ≠ a.block := by rintro rfl; exact hn (by show s.p = some (bk a.block); rw [hp, ← e])
        rw [hf c this]; exact hco
      · intro b hb; left; rw [← hb]; rw [hp, ← e]
  · have := nextcap_le (s.n + m.length) s.c hc
    calc _ ≤ 2 * (s.n + m.length) * P.bytesOf T := Nat.mul_le_mul_right _ this
      _ = (s.n + m.length) * 2 * P.bytesOf T := by rw [Nat.mul_comm 2]
      _ ≤ 2 ^ 48 := hby
  · rw [hsz]
    refine hr.srcK (n := s.n) (by omega) ?_
    refine hsrc _ ?_
    intro c b hcb hb
    rw [← h1, List.take_length]
    have harr : (⟨bc l ++ bc m⟩ : Array Value) ++ zeros P T (c - (l.length + m.length)) = ⟨(bc l ++ bc m) ++ (zeros P T (c - (l.length + m.length))).toList⟩ := by apply Array.ext'; simp
    rw [harr]
    refine hF ⟨some (bk b), l.length + m.length, c⟩ _ ⟨by simp, by show l.length + m.length ≤ c; omega, rfl, _, ⟨(0, 0), .inl rfl, upd_same⟩, ?_, ?_⟩ (Ext.new hb) ?_
    · show _ = c
      rw [List.length_append, zeros_len, hz, List.length_append, bc_len, bc_len]; omega
    · rw [bc_app]; exact List.take_left' (by simp)
    · intro b' hb'; right
      simp only [Option.some.injEq] at hb'
      have : b = b' := congrArg Addr.block hb'
      subst this; exact hb
def byt (T : TypeId) (s : Sl) (l : List UInt8) : Asn :=
  ⟨fun F h => (∀ x, F x ↔ s.p = some (bk x)) ∧ OwnB h T s l,
   fun {F h h'} hl hh => ⟨hh.1, by
    obtain ⟨h1, h2, h3⟩ := hh.2
    refine ⟨h1, h2, ?_⟩
    cases hp : s.p with
    | none => rw [hp] at h3; exact h3
    | some a =>
      rw [hp] at h3
      obtain ⟨e, cs, ⟨z, hz, hb⟩, hr⟩ := h3
      exact ⟨e, cs, ⟨z, hz, (hl a.block ((hh.1 _).2 (by rw [hp, e]))).trans hb⟩, hr⟩⟩,
   fun {F h x} hh hx => by
    have hp := (hh.1 x).1 hx
    have h3 := hh.2.2.2
    rw [hp] at h3
    obtain ⟨_, cs, ⟨z, _, hb⟩, _⟩ := h3
    rw [show h x = _ from hb]; simp⟩
theorem Sat.byt {L M : List Asn} {h : Hp} (hs : Sat (L ++ M) h) (j : Nat) {T : TypeId} {s : Sl} {l : List UInt8} (hj : M[j]? = some (Hw.byt T s l)) : OwnB h T s l := let ⟨_, hF⟩ := hs.get' j hj; hF.2
theorem Sat.addB {L M : List Asn} {h h' : Hp} {T : TypeId} {s : Sl} {l : List UInt8} (hs : Sat (L ++ M) h) (he : Ext none' h h') (ho : OwnB h' T s l) (hf : ∀ b, s.p = some (bk b) → h b = none) : Sat (L ++ (M ++ [Hw.byt T s l])) h' :=
  hs.add he (F' := fun x => s.p = some (bk x)) ⟨fun _ => Iff.rfl, ho⟩ hf
theorem Sat.s2b {L M : List Asn} {h : Hp} {T : TypeId} {l : List UInt8} {F : Sl → Hp → Prop} (hs : Sat (L ++ M) h) (hF : ∀ s h', Sat (L ++ (M ++ [Hw.byt T s l])) h' → F s h') : Hw.s2b T ⟨⟨l⟩⟩ h F := by
  intro c b hc hb
  have hsz : (⟨⟨l⟩⟩ : ByteArray).size = l.length := rfl
  rw [hsz] at hc ⊢
  refine hF _ _ (hs.addB (s := ⟨some ⟨b, 0, none⟩, l.length, c⟩) (Ext.new hb) ⟨rfl, hc, rfl, _, ⟨(c, c + 1), .inr ?_, upd_same⟩, ?_, ?_⟩ ?_)
  · rw [bcells_bc]; simp; omega
  · rw [bcells_bc]; simp; omega
  · rw [bcells_bc]; exact List.take_left' (by simp)
  · intro b' hb'
    simp only [Option.some.injEq] at hb'
    have : b = b' := congrArg Addr.block hb'
    subst this; exact hb
theorem Sat.stB {L M : List Asn} {h : Hp} {T : TypeId} {k : Nat} {x n : Int} {s : Sl} {l : List UInt8} {v : UInt8} {F : Hp → Prop} (hs : Sat (L ++ M) h) (j : Nat) (hj : M[j]? = some (Hw.byt T s l)) (hx : x = k) (hk : k < l.length) (hn : n = v.toNat)
    (hF : ∀ h', Sat (L ++ M.set j (Hw.byt T s (l.set k v))) h' → F h') : idx x s.n (nn s.p fun a => Hw.st h (a.add (x.toNat * 1)) (.int .u8 n) F) := by
  have ho := hs.byt j hj
  refine idx_of (by omega) (by have := ho.1; omega) ?_
  subst hn
  obtain ⟨b, hb, hst⟩ := ho.st (F := F) hk (v := v) (fun b h' hp ho' hf => hF h' (hs.at j hj fun G hG => ⟨G, ⟨hG.1, ho'⟩, fun x hx => .inl hx, fun x hx _ => hf x (fun e => hx ((hG.1 x).2 (by rw [hp, e])))⟩))
  rw [hb]
  subst hx
  simp only [nn_some', add_bk, Int.toNat_natCast, Nat.mul_one]
  exact hst
end Go.Hw

/-
  Copy, for elements of any number of cells.
-/
set_option linter.unusedSimpArgs false
set_option linter.unusedVariables false
namespace Go.Hw
open Go
end Go.Hw

/-
  More on separate blocks: another order, loads out of rows, one of a star.
-/
set_option linter.unusedSimpArgs false
set_option linter.unusedVariables false
namespace Go.Hw
open Go
theorem Sat.sel {L M : List Asn} {h : Hp} (hs : Sat (L ++ M) h) (is : List Nat) (hn : is.Nodup) {M' : List Asn} (hM : is.map (fun i => M[i]?) = M'.map some) : Sat (L ++ M') h := by
  have hlen : is.length = M'.length := by have := congrArg List.length hM; simpa using this
  have key : ∀ (i : Nat) (A : Asn), M'[i]? = some A → ∃ k : Nat, is[i]? = some k ∧ M[k]? = some A := by
    intro i A hA
    have h1 := congrArg (fun l => l[i]?) hM
    simp only [List.getElem?_map, hA, Option.map_some] at h1
    cases hk : is[i]? with
    | none => rw [hk] at h1; cases h1
    | some k => rw [hk] at h1; exact ⟨k, rfl, by simpa using h1⟩
  refine hs.pick (fun i => if i < L.length then i else L.length + is.getD (i - L.length) 0) ?_ ?_
  · intro i A hi
    by_cases e : i < L.length
    · rw [if_pos e]; rw [List.getElem?_append_left e] at hi ⊢; exact hi
    · rw [if_neg e]
      rw [List.getElem?_append_right (by omega)] at hi
      obtain ⟨k, hk, hA⟩ := key _ _ hi
      rw [List.getElem?_append_right (by omega), Nat.add_sub_cancel_left]
      simp only [List.getD, hk, Option.getD_some]; exact hA
  · intro i j hi hj e
    simp only [List.length_append] at hi hj
    by_cases e1 : i < L.length
    · by_cases e2 : j < L.length
      · simp only [if_pos e1, if_pos e2] at e; exact e
      · simp only [if_pos e1, if_neg e2] at e; omega
    · by_cases e2 : j < L.length
      · simp only [if_neg e1, if_pos e2] at e; omega
      · simp only [if_neg e1, if_neg e2] at e
        have hi' : i - L.length < is.length := by omega
        have hj' : j - L.length < is.length := by omega
        simp only [List.getD, List.getElem?_eq_getElem hi', List.getElem?_eq_getElem hj', Option.getD_some] at e
        have e3 : is[i - L.length] = is[j - L.length] := by omega
        have : i - L.length = j - L.length := (List.getElem_inj hn).1 e3
        omega
theorem Sat.asc {L A B : List Asn} {h : Hp} (hs : Sat ((L ++ A) ++ B) h) : Sat (L ++ (A ++ B)) h := by rw [← List.append_assoc]; exact hs
theorem Sat.csa {L A B : List Asn} {h : Hp} (hs : Sat (L ++ (A ++ B)) h) : Sat ((L ++ A) ++ B) h := by rw [List.append_assoc]; exact hs
theorem Sat.mv {L A B C D : List Asn} {h : Hp} (hs : Sat ((L ++ A) ++ B) h) (e : A ++ B = C ++ D := by rfl) : Sat ((L ++ C) ++ D) h := by rw [List.append_assoc, ← e, ← List.append_assoc]; exact hs
section
variable {L M : List Asn} {h : Hp} {b k : Nat} {T : TypeId} {cs : List Value}
theorem Sat.lI (hs : Sat (L ++ M) h) (j : Nat) {κ : IntKind} {n : Int} {F : Int → Prop} (hj : M[j]? = some (row b T cs)) (hc : cs[k]? = some (.int κ n)) (hF : F n) : xI κ (cell h ⟨b, k, none⟩) F :=
  xI_of (by rw [(hs.blk j hj).cell]; exact hc) hF
theorem Sat.lS (hs : Sat (L ++ M) h) (j : Nat) {n : ByteArray} {F : ByteArray → Prop} (hj : M[j]? = some (row b T cs)) (hc : cs[k]? = some (.string n)) (hF : F n) : xS (cell h ⟨b, k, none⟩) F :=
  xS_of (by rw [(hs.blk j hj).cell]; exact hc) hF
theorem Sat.lL (hs : Sat (L ++ M) h) (j : Nat) {p : Option Addr} {n c : Nat} {F : Sl → Prop} (hj : M[j]? = some (row b T cs)) (hc : cs[k]? = some (.slice p n c)) (hF : F ⟨p, n, c⟩) : xL (cell h ⟨b, k, none⟩) F :=
  xL_of (s := ⟨p, n, c⟩) (by rw [(hs.blk j hj).cell]; exact hc) hF
end
section
variable {L M : List Asn} {h : Hp} {T : TypeId} {sz : Nat} {s : Sl} {vs : List Value}
end
theorem Sat.out {L X : List Asn} {A : Asn} {h : Hp} (hs : Sat (L ++ [star X]) h) (j : Nat) (hj : X[j]? = some A) : Sat (L ++ [star (X.eraseIdx j), A]) h := by
  have h1 := hs.open.rot j hj
  have h2 : Sat ((L ++ [A]) ++ X.eraseIdx j) h := by
    have hlen := lt_of_get hj
    refine h1.pick (fun i => if i < L.length then i else if i = L.length then (L ++ X.eraseIdx j).length else i - 1) ?_ ?_
    · intro i B hi
      have hil := lt_of_get hi
      simp only [List.length_append, List.length_singleton] at hil
      by_cases e : i < L.length
      · simp only [if_pos e]
        rw [List.getElem?_append_left (by simp; omega), List.getElem?_append_left e] at hi
        rw [List.getElem?_append_left (by simp; omega), List.getElem?_append_left e]; exact hi
      · simp only [if_neg e]
        by_cases e2 : i = L.length
        · simp only [if_pos e2]
          rw [e2, List.getElem?_append_left (by simp), List.getElem?_append_right (Nat.le_refl _), Nat.sub_self] at hi
          rw [List.getElem?_append_right (Nat.le_refl _), Nat.sub_self]; exact hi
        · simp only [if_neg e2]
          rw [List.getElem?_append_right (by simp; omega)] at hi
          rw [List.getElem?_append_left (by simp; omega), List.getElem?_append_right (by omega)]
          rw [show i - 1 - L.length = i - (L ++ [A]).length by simp; omega]; exact hi
    · intro i k hi hk e
      simp only [List.length_append, List.length_singleton] at hi hk e
      split at e <;> split at e <;> (try split at e) <;> (try split at e) <;> omega
  have h3 := h2.close
  have h4 : Sat (L ++ [A, star (X.eraseIdx j)]) h := by simpa using h3
  exact h4.sel [1, 0] (by decide) rfl
theorem Sat.call2 {L : List Asn} {A : Asn} {h : Hp} (hs : Sat (L ++ [A]) h) :
    ∃ F, A.on F h ∧ ∀ (h' : Hp) (A' B : Asn) (F' G : Nat → Prop), A'.on F' h' → B.on G h' → (∀ x, F' x → ¬ G x) → Ext F h h' → (∀ x, F' x → F x ∨ h x = none) → (∀ x, G x → F x ∨ h x = none) → Sat (L ++ [A', B]) h' := by
  obtain ⟨F, h1, h2⟩ := hs
  have hA := h1 L.length A (by simp)
  refine ⟨F L.length, hA, fun h' A' B F' G ha hb hd he hf hg => ?_⟩
  have dm : ∀ (i : Nat) x, i < (L ++ [A]).length → F i x → h x ≠ none := fun i x hi hx => let ⟨C, hC⟩ := get_of_lt hi; C.dom (h1 i C hC) hx
  refine ⟨fun i => if i < L.length then F i else if i = L.length then F' else G, ?_, ?_⟩
  · intro i C hi
    have hil := lt_of_get hi
    simp only [List.length_append, List.length_cons, List.length_nil] at hil
    by_cases e : i < L.length
    · simp only [if_pos e]
      rw [List.getElem?_append_left e] at hi
      have hi' : (L ++ [A])[i]? = some C := by rw [List.getElem?_append_left e]; exact hi
      refine C.loc (fun x hx => ?_) (h1 i C hi')
      cases hq : h x with
      | none => exact (dm i x (lt_of_get hi') hx hq).elim
      | some o => exact he x o hq fun hfx => by have := h2 i _ x (lt_of_get hi') (by simp) hx hfx; omega
    · simp only [if_neg e]
      rw [List.getElem?_append_right (by omega)] at hi
      by_cases e2 : i = L.length
      · simp only [if_pos e2]
        rw [show i - L.length = 0 by omega] at hi
        simp at hi; subst hi; exact ha
      · simp only [if_neg e2]
        rw [show i - L.length = 1 by omega] at hi
        simp at hi; subst hi; exact hb
  · have key : ∀ i x, i < L.length → F i x → ¬ (F L.length x ∨ h x = none) := by
      intro i x hi hx hq
      rcases hq with q | q
      · have := h2 i _ x (by simp; omega) (by simp) hx q; omega
      · exact dm i x (by simp; omega) hx q
    intro i k x hi hk hx hy
    simp only [List.length_append, List.length_cons, List.length_nil] at hi hk
    by_cases e : i < L.length
    · simp only [if_pos e] at hx
      by_cases e2 : k < L.length
      · simp only [if_pos e2] at hy
        exact h2 i k x (by simp; omega) (by simp; omega) hx hy
      · simp only [if_neg e2] at hy
        by_cases e3 : k = L.length
        · simp only [if_pos e3] at hy; exact (key i x e hx (hf x hy)).elim
        · simp only [if_neg e3] at hy; exact (key i x e hx (hg x hy)).elim
    · simp only [if_neg e] at hx
      by_cases e2 : k < L.length
      · simp only [if_pos e2] at hy
        by_cases e3 : i = L.length
        · simp only [if_pos e3] at hx; exact (key k x e2 hy (hf x hx)).elim
        · simp only [if_neg e3] at hx; exact (key k x e2 hy (hg x hx)).elim
      · simp only [if_neg e2] at hy
        by_cases e3 : i = L.length
        · simp only [if_pos e3] at hx
          by_cases e4 : k = L.length
          · omega
          · simp only [if_neg e4] at hy; exact (hd x hx hy).elim
        · simp only [if_neg e3] at hx
          by_cases e4 : k = L.length
          · simp only [if_pos e4] at hy; exact (hd x hy hx).elim
          · omega
theorem Sat.call {L : List Asn} {A : Asn} {h : Hp} (hs : Sat (L ++ [A]) h) :
    ∃ F, A.on F h ∧ ∀ (h' : Hp) (A' : Asn) (F' : Nat → Prop), A'.on F' h' → Ext F h h' → (∀ x, F' x → F x ∨ h x = none) → Sat (L ++ [A']) h' := by
  obtain ⟨F, h1, h2⟩ := hs.call2
  refine ⟨F, h1, fun h' A' F' ha he hf => ?_⟩
  have := h2 h' A' emp F' (fun _ => False) ha (fun _ e => e) (fun _ _ e => e) he hf (fun _ e => e.elim)
  exact this.sel [0] (by decide) rfl
end Go.Hw

/-
  Numbers of Go: what wraps, what bits do, in Lean's numbers.
-/
set_option linter.unusedSimpArgs false
set_option linter.unusedVariables false
namespace Go.Hw
open Go
theorem wu8 (x : Int) : IntKind.wrap .u8 x = x % 256 := by unfold IntKind.wrap; rfl
theorem wu64 (x : Int) : IntKind.wrap .u64 x = x % 18446744073709551616 := by unfold IntKind.wrap; rfl
theorem wu8i {x : Int} (h0 : 0 ≤ x) (h1 : x < 256) : IntKind.wrap .u8 x = x := by rw [wu8]; omega
theorem wu64i {x : Int} (h0 : 0 ≤ x) (h1 : x < 18446744073709551616) : IntKind.wrap .u64 x = x := by rw [wu64]; omega
theorem wi64i {x : Int} (h0 : -9223372036854775808 ≤ x) (h1 : x < 9223372036854775808) : IntKind.wrap .i64 x = x := wrap_id h0 (by omega)
theorem bvn (w : Nat) (n : Nat) (h : n < 2 ^ w) : (BitVec.ofInt w (n : Int)).toNat = n := by
  rw [BitVec.toNat_ofInt]
  have h2 : ((n : Int)) % ((2 ^ w : Nat) : Int) = n := Int.emod_eq_of_lt (by omega) (by exact_mod_cast h)
  simp only [h2]; simp
theorem bor_low {w : Nat} {x y : Int} (k : Nat) (hx0 : 0 ≤ x) (hx : x * 2 ^ k < 2 ^ w) (hy0 : 0 ≤ y) (hy : y < 2 ^ k) (hk : k ≤ w) : ((BitVec.ofInt w (x * 2 ^ k) ||| BitVec.ofInt w y).toNat : Int) = x * 2 ^ k + y := by
  obtain ⟨a, rfl⟩ := Int.eq_ofNat_of_zero_le hx0
  obtain ⟨b, rfl⟩ := Int.eq_ofNat_of_zero_le hy0
  have ha : a * 2 ^ k < 2 ^ w := by exact_mod_cast hx
  have hb : b < 2 ^ k := by exact_mod_cast hy
  have hb2 : b < 2 ^ w := Nat.lt_of_lt_of_le hb (Nat.pow_le_pow_right (by omega) hk)
  have e : ((a : Int) * 2 ^ k) = ((a * 2 ^ k : Nat) : Int) := by push_cast; rfl
  rw [e, BitVec.toNat_or, bvn w _ ha, bvn w b hb2]
  rw [← Nat.shiftLeft_eq, ← Nat.shiftLeft_add_eq_or_of_lt hb, Nat.shiftLeft_eq]
  push_cast; rfl
theorem nat_succ64 {i : Nat} (h : i < 9223372036854775807) : IntKind.wrap .i64 ((i : Int) + 1) = ((i + 1 : Nat) : Int) := by rw [wi64i (by omega) (by omega)]; omega
end Go.Hw

/-
  Texts that are read: cut at a zero, small letters.
-/
set_option linter.unusedSimpArgs false
set_option linter.unusedVariables false
namespace Go.Proofs.YtedklcmdjoojfaaDoor
open Go Go.Hw
def cutL : List UInt8 → Option (List UInt8 × List UInt8)
  | [] => none
  | b :: l => if b = 0 then some ([], l) else (cutL l).map fun p => (b :: p.1, p.2)
theorem cutL_at : ∀ {l : List UInt8} {i : Nat} (hi : i < l.length), (∀ j b, j < i → l[j]? = some b → b ≠ 0) → l[i] = 0 → cutL l = some (l.take i, l.drop (i + 1)) := by
  intro l
  induction l with
  | nil => intro i hi; simp at hi
  | cons b l ih =>
    intro i hi hno h0
    cases i with
    | zero => simp only [List.getElem_cons_zero] at h0; simp [cutL, h0]
    | succ i =>
      have hb : b ≠ 0 := hno 0 b (by omega) rfl
      simp only [List.length_cons] at hi
      have := ih (i := i) (by omega) (fun j c hj hc => hno (j + 1) c (by omega) (by simpa using hc)) (by simpa using h0)
      simp [cutL, hb, this]
theorem cutL_none : ∀ {l : List UInt8}, (∀ b ∈ l, b ≠ 0) → cutL l = none := by
  intro l
  induction l with
  | nil => intro _; rfl
  | cons b l ih =>
    intro h
    have := ih fun c hc => h c (List.mem_cons_of_mem _ hc)
    simp [cutL, h b (List.mem_cons_self ..), this]
theorem cutL_len : ∀ {l x y : List UInt8}, cutL l = some (x, y) → x.length + y.length + 1 = l.length := by
  intro l
  induction l with
  | nil => intro x y h; cases h
  | cons b l ih =>
    intro x y h
    simp only [cutL] at h
    split at h
    · cases h; simp
    · cases hc : cutL l with
      | none => rw [hc] at h; cases h
      | some p =>
        obtain ⟨u, v⟩ := p
        rw [hc] at h
        simp only [Option.map_some, Option.some.injEq, Prod.mk.injEq] at h
        obtain ⟨rfl, rfl⟩ := h
        have := ih hc
        simp only [List.length_cons]; omega
theorem rdb_tail {h : Hp} {s : Sl} {l : List UInt8} (H : RdB h s l) {i : Nat} (hi : i ≤ l.length) : RdB h ⟨sadr s.p s.c i 1, s.n - i, s.c - i⟩ (l.drop i) := by
  have := H.sub (lo := i) (hi := l.length) hi (Nat.le_refl _)
  rw [← H.n] at this
  have e : (l.drop i).take (s.n - i) = l.drop i := List.take_of_length_le (by have := H.n; simp; omega)
  rw [e] at this; exact this
def smallB (b : UInt8) : UInt8 := if 65 ≤ b.toNat ∧ b.toNat ≤ 90 then b + 32 else b
theorem smallB_up {b : UInt8} (h1 : 65 ≤ b.toNat) (h2 : b.toNat ≤ 90) : ((smallB b).toNat : Int) = IntKind.wrap .u8 ((b.toNat : Int) + 32) := by
  unfold smallB
  rw [if_pos ⟨h1, h2⟩, wu8i (by omega) (by omega)]
  rw [UInt8.toNat_add]
  have : (32 : UInt8).toNat = 32 := rfl
  rw [this]
  omega
theorem smallB_id {b : UInt8} (h : ¬ (65 ≤ b.toNat ∧ b.toNat ≤ 90)) : smallB b = b := by unfold smallB; rw [if_neg h]
def mixL (l : List UInt8) (n : Nat) : List UInt8 := (l.take n).map smallB ++ l.drop n
theorem mixL_get {l : List UInt8} {n i : Nat} : (mixL l n)[i]? = if i < n then (l[i]?).map smallB else l[i]? := by
  unfold mixL
  by_cases h : i < n
  · rw [if_pos h]
    by_cases h2 : i < l.length
    · rw [List.getElem?_append_left (by simp; omega), List.getElem?_map, List.getElem?_take, if_pos h]
    · have e1 : l[i]? = none := List.getElem?_eq_none (by omega)
      rw [e1, List.getElem?_eq_none (by simp; omega)]; rfl
  · rw [if_neg h]
    by_cases h2 : n ≤ l.length
    · rw [List.getElem?_append_right (by simp; omega), List.getElem?_drop]
      congr 1; simp; omega
    · have e1 : l[i]? = none := List.getElem?_eq_none (by omega)
      rw [e1, List.getElem?_eq_none (by simp; omega)]
theorem mixL_len {l : List UInt8} {n : Nat} : (mixL l n).length = l.length := by unfold mixL; simp; omega
theorem mixL_all (l : List UInt8) : mixL l l.length = l.map smallB := by unfold mixL; simp
theorem mixL_skip {l : List UInt8} {n w : Nat} (h : ∀ i b, n ≤ i → i < n + w → l[i]? = some b → smallB b = b) : mixL l n = mixL l (n + w) := by
  apply List.ext_getElem?
  intro i
  rw [mixL_get, mixL_get]
  by_cases h1 : i < n
  · rw [if_pos h1, if_pos (by omega)]
  · rw [if_neg h1]
    by_cases h2 : i < n + w
    · rw [if_pos h2]
      cases hb : l[i]? with
      | none => rfl
      | some b => rw [Option.map_some, h i b (by omega) h2 hb]
    · rw [if_neg h2]
theorem mixL_set {l : List UInt8} {n : Nat} (hn : n < l.length) : (mixL l n).set n (smallB l[n]) = mixL l (n + 1) := by
  apply List.ext_getElem?
  intro i
  rw [List.getElem?_set, mixL_get, mixL_get, mixL_len]
  by_cases h : n = i
  · subst h
    rw [if_pos rfl, if_pos hn, if_pos (by omega), List.getElem?_eq_getElem hn]; rfl
  · rw [if_neg h]
    by_cases h1 : i < n
    · rw [if_pos h1, if_pos (by omega)]
    · rw [if_neg h1, if_neg (by omega)]
theorem get_bang {l : List UInt8} {i : Nat} (hi : i < l.length) : (⟨⟨l⟩⟩ : ByteArray).get! i = l[i] := by
  simp [ByteArray.get!, hi]
theorem utf_small {l : List UInt8} {n : Nat} (hn : n < l.length) (hb : l[n].toNat < 128) : Utf8.decode ⟨⟨l⟩⟩ n = (l[n].toNat, 1) := by
  unfold Utf8.decode
  simp only [Nat.add_zero, get_bang hn]
  rw [if_pos hb]
theorem utf_great {l : List UInt8} {n : Nat} (hn : n < l.length) (hb : ¬ l[n].toNat < 128) : 128 ≤ (Utf8.decode ⟨⟨l⟩⟩ n).1 ∧ 1 ≤ (Utf8.decode ⟨⟨l⟩⟩ n).2 ∧ n + (Utf8.decode ⟨⟨l⟩⟩ n).2 ≤ l.length ∧ ∀ i b, n ≤ i → i < n + (Utf8.decode ⟨⟨l⟩⟩ n).2 → l[i]? = some b → 128 ≤ b.toNat := by
  have hsz : (⟨⟨l⟩⟩ : ByteArray).size = l.length := rfl
  have one : ∀ i b, n ≤ i → i < n + 1 → l[i]? = some b → 128 ≤ b.toNat := by
    intro i b h1 h2 h3
    have : i = n := by omega
    subst this
    rw [List.getElem?_eq_getElem hn] at h3
    cases h3; omega
  have cont : ∀ k, (n + k < (⟨⟨l⟩⟩ : ByteArray).size && ((⟨⟨l⟩⟩ : ByteArray).get! (n + k)).toNat / 64 == 2) = true → n + k < l.length ∧ ∀ b, l[n + k]? = some b → 128 ≤ b.toNat := by
    intro k hk
    simp only [Bool.and_eq_true, decide_eq_true_eq, beq_iff_eq, hsz] at hk
    refine ⟨hk.1, fun b h3 => ?_⟩
    rw [get_bang hk.1] at hk
    rw [List.getElem?_eq_getElem hk.1] at h3
    cases h3; omega
  have rune : 128 ≤ Utf8.runeError := by decide
  unfold Utf8.decode
  simp only [Nat.add_zero, get_bang hn]
  rw [if_neg hb]
  split
  · rename_i hc
    simp only [Bool.and_eq_true] at hc
    have c1 := cont 1 (by simpa using hc.2)
    split
    · refine ⟨by omega, by omega, by omega, fun i b h1 h2 h3 => ?_⟩
      by_cases e : i = n
      · exact one i b h1 (by omega) h3
      · have : i = n + 1 := by omega
        subst this; exact c1.2 b h3
    · exact ⟨rune, by omega, by omega, one⟩
  · split
    · rename_i hc
      simp only [Bool.and_eq_true] at hc
      have c1 := cont 1 (by simpa using hc.1.2)
      have c2 := cont 2 (by simpa using hc.2)
      split
      · rename_i hv
        simp only [Bool.and_eq_true, decide_eq_true_eq] at hv
        refine ⟨by omega, by omega, by omega, fun i b h1 h2 h3 => ?_⟩
        by_cases e : i = n
        · exact one i b h1 (by omega) h3
        · by_cases e1 : i = n + 1
          · subst e1; exact c1.2 b h3
          · have : i = n + 2 := by omega
            subst this; exact c2.2 b h3
      · exact ⟨rune, by omega, by omega, one⟩
    · split
      · rename_i hc
        simp only [Bool.and_eq_true] at hc
        have c1 := cont 1 (by simpa using hc.1.1.2)
        have c2 := cont 2 (by simpa using hc.1.2)
        have c3 := cont 3 (by simpa using hc.2)
        split
        · rename_i hv
          simp only [Bool.and_eq_true, decide_eq_true_eq] at hv
          refine ⟨by omega, by omega, by omega, fun i b h1 h2 h3 => ?_⟩
          by_cases e : i = n
          · exact one i b h1 (by omega) h3
          · by_cases e1 : i = n + 1
            · subst e1; exact c1.2 b h3
            · by_cases e2 : i = n + 2
              · subst e2; exact c2.2 b h3
              · have : i = n + 3 := by omega
                subst this; exact c3.2 b h3
        · exact ⟨rune, by omega, by omega, one⟩
      · exact ⟨rune, by omega, by omega, one⟩
def itLeft (b : Nat) (h : Hp) : Nat := match h b with
  | some (.stringIter s n) => s.size - n
  | _ => 0
theorem c_lower {l : List UInt8} {h : Hp} {K : ByteArray → Hp → Prop} (hK : ∀ h', Ext none' h h' → K ⟨⟨l.map smallB⟩⟩ h') : C65 ⟨⟨l⟩⟩ h K := by
  apply S65; unfold N65
  refine (Sat.start (h := h)).s2b ?_
  intro s h1 hs1
  intro b e0
  have hs2 := hs1.new e0 (.stringIter ⟨⟨l⟩⟩ 0)
  revert hs2
  generalize upd h1 b _ = h2
  intro hs2
  have hs2 : Sat ([] ++ [Hw.was h, Hw.byt 5 s (mixL l 0), Hw.pt b (.stringIter ⟨⟨l⟩⟩ 0)]) h2 := by
    have e : mixL l 0 = l := by simp [mixL]
    rw [e]; exact hs2
  unfold N65_l0
  refine loopP_inv (fun (_ : Unit) hc => ∃ n : Nat, n ≤ l.length ∧ Sat ([] ++ [Hw.was h, Hw.byt 5 s (mixL l n), Hw.pt b (.stringIter ⟨⟨l⟩⟩ n)]) hc) (fun _ hc => itLeft b hc) ?_ ⟨0, Nat.zero_le _, hs2⟩
  clear hs2 hs1
  rintro _ hc ⟨n, hn, hs⟩
  have hb : hc b = some (.stringIter ⟨⟨l⟩⟩ n) := (hs.get' 2 rfl).elim fun F hF => hF.2
  have hm : itLeft b hc = l.length - n := by unfold itLeft; rw [hb]; rfl
  have hsz : (⟨⟨l⟩⟩ : ByteArray).size = l.length := rfl
  unfold N65_l0_B N65_l0_b nxS
  simp only [hb, hsz]
  by_cases hlt : n < l.length
  · simp only [hlt, decide_true, cond_true]
    have step : ∀ w, Sat ([] ++ [Hw.was h, Hw.byt 5 s (mixL l n), Hw.pt b (.stringIter ⟨⟨l⟩⟩ (n + w))]) (upd hc b (.stringIter ⟨⟨l⟩⟩ (n + w))) := fun w =>
      hs.at 2 rfl fun G hG => ⟨G, ⟨hG.1, upd_same⟩, fun x hx => .inl hx, fun x hx _ => upd_ne fun e => hx ((hG.1 x).2 e)⟩
    have left : ∀ {h' : Hp} {m : Nat}, n < m → Sat ([] ++ [Hw.was h, Hw.byt 5 s (mixL l m), Hw.pt b (.stringIter ⟨⟨l⟩⟩ m)]) h' → itLeft b h' < itLeft b hc := by
      intro h' m hm' hs'
      have hb' : h' b = some (.stringIter ⟨⟨l⟩⟩ m) := (hs'.get' 2 rfl).elim fun F hF => hF.2
      rw [hm]
      unfold itLeft
      rw [hb']
      show l.length - m < _
      omega
    by_cases hsm : l[n].toNat < 128
    · rw [utf_small hlt hsm]
      have hs1 := step 1
      revert hs1
      generalize upd hc b _ = h3
      intro hs1
      by_cases c1 : 65 ≤ l[n].toNat
      · by_cases c2 : l[n].toNat ≤ 90
        · rw [show decide (((l[n].toNat : Nat) : Int) ≥ 65) = true from decide_eq_true (by omega), show decide (((l[n].toNat : Nat) : Int) ≤ 90) = true from decide_eq_true (by omega)]
          simp only [cond_true]
          unfold N65_j1
          rw [cond_true]
          have hml : n < (mixL l n).length := by rw [mixL_len]; exact hlt
          refine (hs1.byt 1 rfl).rdb.at rfl hml ?_
          have e1 : (mixL l n)[n] = l[n] := by
            have h1 : (mixL l n)[n]? = some (mixL l n)[n] := List.getElem?_eq_getElem hml
            rw [mixL_get, if_neg (by omega), List.getElem?_eq_getElem hlt] at h1
            exact (Option.some.inj h1).symm
          rw [e1]
          refine hs1.stB 1 rfl rfl hml (v := smallB l[n]) (smallB_up c1 c2).symm ?_
          intro h4 hs4
          have hs4 : Sat ([] ++ [Hw.was h, Hw.byt 5 s ((mixL l n).set n (smallB l[n])), Hw.pt b (.stringIter ⟨⟨l⟩⟩ (n + 1))]) h4 := hs4
          rw [mixL_set hlt] at hs4
          exact ⟨⟨n + 1, hlt, hs4⟩, left (by omega) hs4⟩
        · rw [show decide (((l[n].toNat : Nat) : Int) ≥ 65) = true from decide_eq_true (by omega), show decide (((l[n].toNat : Nat) : Int) ≤ 90) = false from decide_eq_false (by omega)]
          simp only [cond_true]
          unfold N65_j1
          rw [cond_false]
          rw [mixL_skip (w := 1) (fun i b' h1 h2 h3 => by
            have : i = n := by omega
            subst this
            rw [List.getElem?_eq_getElem hlt] at h3
            cases h3
            exact smallB_id (by omega))] at hs1
          exact ⟨⟨n + 1, hlt, hs1⟩, left (by omega) hs1⟩
      · rw [show decide (((l[n].toNat : Nat) : Int) ≥ 65) = false from decide_eq_false (by omega)]
        simp only [cond_false]
        unfold N65_j1
        rw [cond_false]
        rw [mixL_skip (w := 1) (fun i b' h1 h2 h3 => by
          have : i = n := by omega
          subst this
          rw [List.getElem?_eq_getElem hlt] at h3
          cases h3
          exact smallB_id (by omega))] at hs1
        exact ⟨⟨n + 1, hlt, hs1⟩, left (by omega) hs1⟩
    · obtain ⟨d1, d2, d3, d4⟩ := utf_great hlt hsm
      generalize (Utf8.decode ⟨⟨l⟩⟩ n).1 = c at d1 ⊢
      generalize (Utf8.decode ⟨⟨l⟩⟩ n).2 = w at d2 d3 d4 ⊢
      have hs1 := step w
      revert hs1
      generalize upd hc b _ = h3
      intro hs1
      rw [mixL_skip (w := w) (fun i b' h1 h2 h3 => smallB_id (by have := d4 i b' h1 h2 h3; omega))] at hs1
      rw [show decide ((c : Int) ≥ 65) = true from decide_eq_true (by omega), show decide ((c : Int) ≤ 90) = false from decide_eq_false (by omega)]
      simp only [cond_true]
      unfold N65_j1
      rw [cond_false]
      exact ⟨⟨n + w, d3, hs1⟩, left (by omega) hs1⟩
  · simp only [hlt, decide_false, cond_false]
    have : n = l.length := by omega
    subst this
    rw [mixL_all] at hs
    refine (hs.byt 1 rfl).rdb.b2s ?_
    exact hK hc (hs.was 0 rfl)
end Go.Proofs.YtedklcmdjoojfaaDoor

set_option linter.unusedVariables false
set_option maxRecDepth 100000
namespace Go.Proofs.YtedklcmdjoojfaaDoor
open Go Go.Hw
end Go.Proofs.YtedklcmdjoojfaaDoor

/-
  The small functions of layer 1 over numbers: folded words, changed words, hosts, groups.
-/
-- (no octet.folded)
-- (no ref01.Folded)
-- (no octet.Turn)
-- (no ref01.Turn)
-- (no octet.IsHost)
-- (no ref01.IsHost)
-- (no octet.Group)
-- (no ref01.Group)
-- (no octet.Everyone)
set_option linter.unusedSimpArgs false
set_option linter.unusedVariables false
namespace Go.Proofs.YtedklcmdjoojfaaDoor
open Go Go.Hw
def markN (list place : Nat) : Nat := (list * 7 + place * 13 + list / 256 + 1) % 256
end Go.Proofs.YtedklcmdjoojfaaDoor

set_option linter.unusedVariables false
set_option maxRecDepth 100000
namespace Go.Proofs.YtedklcmdjoojfaaDoor
open Go Go.Hw
noncomputable def B51 : Code := match Tryd.f51.body with | some c => c | none => .skip
def N51_l0_b (x0_n : Int) (Φ : Sl → Int → Hp → Prop) (x5_b : Sl) (x6_i : Int) (h : Hp) (K_e0 : Sl → Hp → Prop) : Prop :=
  bif (decide (x6_i ≥ 0)) then
    bif decide ((IntKind.wrap .i64 (8 * x6_i)) < 0) then False else
    nw h (.cells ⟨[.int .u8 (IntKind.wrap .u8 (Int.fdiv x0_n (2 ^ (min (IntKind.wrap .i64 (8 * x6_i)).toNat 64))))]⟩ 5) fun b0 h0 =>
    apK Tryd.prog 5 x5_b (.slice (some (bk b0)) 1 1) h0 fun s0 h1 =>
    Φ s0 (IntKind.wrap .i64 (x6_i - 1)) h1
  else
    K_e0 x5_b h
def N51_l0_B (x0_n : Int) (K_e0 : Sl → Hp → Prop) (s : Sg.T [(5, .c (.slice)), (6, .c (.int .i64))]) (h : Hp) (Φ : Sg.T [(5, .c (.slice)), (6, .c (.int .i64))] → Hp → Prop) : Prop :=
  N51_l0_b x0_n (fun x5_b x6_i h => Φ (x5_b, x6_i) h) s.1 s.2 h K_e0
def N51_l0 (x0_n : Int) (x5_b : Sl) (x6_i : Int) (h : Hp) (K_e0 : Sl → Hp → Prop) : Prop :=
  loopP (N51_l0_B x0_n K_e0) (x5_b, x6_i) h
noncomputable def N51_l0_t : Xf := loopT [(0, .c (.int .u64))] [(5, .c (.slice)), (6, .c (.int .i64))] (codeAt B51 [1, 1, 1, 0, 1, 0, 0]) fun F Q => N51_l0_B F (fun o0 h' => Q (.exit 0) (Sg.env [(5, .c (.slice))] o0) h')
theorem N51_l0_ok : Sound Tryd.prog Tryd.f51.ntmps N51_l0_t (codeAt B51 [1, 1, 1, 0, 1, 0]) := by
  refine loop_sound (fun e => match e with | .exit 0 => [5] | _ => []) (by kernel_rfl) ?_
  intro F Q s h Φ hb
  refine den_sound hE hm _ .leaf _ _ _ (annOk_leaf) ?_
  refine cast ?_ hb
  kernel_rfl
def N51 (x0 : Int) (x1 : Int) (h : Hp) (K : Sl → Hp → Prop) : Prop :=
  bif (decide (x1 < 1)) then
    K ⟨none, 0, 0⟩ h
  else
    bif (decide (x1 > 8)) then
      K ⟨none, 0, 0⟩ h
    else
      mkK Tryd.prog 5 0 x1 h fun s0 h0 =>
      N51_l0 x0 s0 (IntKind.wrap .i64 (x1 - 1)) h0
        (fun s1 h1 =>
          K s1 h1)
theorem S51 {x0 : Int} {x1 : Int} {h : Hp} {K : Sl → Hp → Prop} (hn : N51 x0 x1 h K) : C51 x0 x1 h K := by
  refine calls_of_D Tryd.func51 (c := B51) rfl (by kernel_rfl) ?_
  refine den_sound hE hm _ (.two .leaf (.two .leaf (.two .leaf (.two (.two .leaf (.one (.xf N51_l0_t))) .leaf)))) _ _ _ (⟨annOk_leaf, ⟨annOk_leaf, ⟨annOk_leaf, ⟨⟨annOk_leaf, N51_l0_ok⟩, annOk_leaf⟩⟩⟩⟩) ?_
  refine cast ?_ hn
  kernel_rfl
end Go.Proofs.YtedklcmdjoojfaaDoor

set_option linter.unusedVariables false
set_option maxRecDepth 100000
namespace Go.Proofs.YtedklcmdjoojfaaDoor
open Go Go.Hw
end Go.Proofs.YtedklcmdjoojfaaDoor

set_option linter.unusedVariables false
set_option maxRecDepth 100000
namespace Go.Proofs.YtedklcmdjoojfaaDoor
open Go Go.Hw
noncomputable def B56 : Code := match Tryd.f56.body with | some c => c | none => .skip
def N56_j0 (x0_b : Sl) (x1_at : Int) (x2_width : Int) (x11 : Bool) (h : Hp) (K_normal : Hp → Prop) (K_ret : Int → Int → Hp → Prop) : Prop :=
  bif x11 then
    K_ret 0 1 h
  else
    bif (decide (x1_at > ((x0_b.n : Nat) : Int))) then
      K_ret 0 5 h
    else
      bif (decide ((IntKind.wrap .i64 (((x0_b.n : Nat) : Int) - x1_at)) < x2_width)) then
        K_ret 0 5 h
      else
        K_normal h
noncomputable def N56_j0_t : Xf := pieceT [(0, .c (.slice)), (1, .c (.int .i64)), (2, .c (.int .i64)), (11, .c (.bool))] (codeAt B56 [1, 0, 0, 1]) fun x h Q => N56_j0 x.1 x.2.1 x.2.2.1 x.2.2.2 h (fun h' => Q .normal (Sg.env [] ()) h') (fun o0 o1 h' => Q .ret (Sg.env [(6, .c (.int .u64)), (7, .c (.int .i64))] (o0, o1)) h')
theorem N56_j0_ok : Sound Tryd.prog Tryd.f56.ntmps N56_j0_t (codeAt B56 [1, 0, 0, 1]) := by
  refine piece_sound (fun e => match e with | .normal => [] | .ret => [6, 7] | _ => []) ?_
  intro x h Q hb
  refine den_sound hE hm _ .leaf _ _ _ (annOk_leaf) ?_
  refine cast ?_ hb
  kernel_rfl
def N56_l2_b (x40 : Sl) (x41 : Int) (Φ : Int → Int → Hp → Prop) (x8_n : Int) (x42 : Int) (h : Hp) (K_e1 : Int → Hp → Prop) : Prop :=
  bif (decide (x42 < x41)) then
    idx x42 x40.n <|
    nn x40.p fun a0 =>
    xI .u8 (cell h (a0.add (x42.toNat * 1))) fun n0 =>
    Φ (IntKind.wrap .u64 (BitVec.ofInt 64 (IntKind.wrap .u64 (x8_n * 2 ^ 8)) ||| BitVec.ofInt 64 (IntKind.wrap .u64 n0)).toNat) (IntKind.wrap .i64 (x42 + 1)) h
  else
    K_e1 x8_n h
def N56_l2_B (x40 : Sl) (x41 : Int) (K_e1 : Int → Hp → Prop) (s : Sg.T [(8, .c (.int .u64)), (42, .c (.int .i64))]) (h : Hp) (Φ : Sg.T [(8, .c (.int .u64)), (42, .c (.int .i64))] → Hp → Prop) : Prop :=
  N56_l2_b x40 x41 (fun x8_n x42 h => Φ (x8_n, x42) h) s.1 s.2 h K_e1
def N56_l2 (x40 : Sl) (x41 : Int) (x8_n : Int) (x42 : Int) (h : Hp) (K_e1 : Int → Hp → Prop) : Prop :=
  loopP (N56_l2_B x40 x41 K_e1) (x8_n, x42) h
noncomputable def N56_l2_t : Xf := loopT [(40, .c (.slice)), (41, .c (.int .i64))] [(8, .c (.int .u64)), (42, .c (.int .i64))] (codeAt B56 [1, 1, 1, 0, 1, 0, 0]) fun F Q => N56_l2_B F.1 F.2 (fun o0 h' => Q (.exit 1) (Sg.env [(8, .c (.int .u64))] o0) h')
theorem N56_l2_ok : Sound Tryd.prog Tryd.f56.ntmps N56_l2_t (codeAt B56 [1, 1, 1, 0, 1, 0]) := by
  refine loop_sound (fun e => match e with | .exit 1 => [8] | _ => []) (by kernel_rfl) ?_
  intro F Q s h Φ hb
  refine den_sound hE hm _ .leaf _ _ _ (annOk_leaf) ?_
  refine cast ?_ hb
  kernel_rfl
def N56_j1 (x0_b : Sl) (x1_at : Int) (x2_width : Int) (h : Hp) (K_ret : Int → Int → Hp → Prop) : Prop :=
  bd (IntKind.wrap .i64 (x1_at + x2_width)) x0_b.c fun k0 =>
  bd x1_at k0 fun k1 =>
  N56_l2 ⟨sadr x0_b.p x0_b.c k1 1, k0 - k1, x0_b.c - k1⟩ ((k0 - k1 : Nat) : Int) 0 0 h
    (fun n0 h0 =>
      K_ret n0 0 h0)
noncomputable def N56_j1_t : Xf := pieceT [(0, .c (.slice)), (1, .c (.int .i64)), (2, .c (.int .i64))] (codeAt B56 [1, 1]) fun x h Q => N56_j1 x.1 x.2.1 x.2.2 h (fun o0 o1 h' => Q .ret (Sg.env [(6, .c (.int .u64)), (7, .c (.int .i64))] (o0, o1)) h')
theorem N56_j1_ok : Sound Tryd.prog Tryd.f56.ntmps N56_j1_t (codeAt B56 [1, 1]) := by
  refine piece_sound (fun e => match e with | .ret => [6, 7] | _ => []) ?_
  intro x h Q hb
  refine den_sound hE hm _ (.two .leaf (.two (.two .leaf (.one (.xf N56_l2_t))) .leaf)) _ _ _ (⟨annOk_leaf, ⟨⟨annOk_leaf, N56_l2_ok⟩, annOk_leaf⟩⟩) ?_
  refine cast ?_ hb
  kernel_rfl
def N56 (x0 : Sl) (x1 : Int) (x2 : Int) (h : Hp) (K : Int → Int → Hp → Prop) : Prop :=
  bif (decide (x2 < 1)) then
    N56_j0 x0 x1 x2 true h
      (fun h0 =>
        N56_j1 x0 x1 x2 h0
          (fun n0 n1 h1 =>
            K n0 n1 h1))
      (fun n2 n3 h2 =>
        K n2 n3 h2)
  else
    bif (decide (x2 > 8)) then
      N56_j0 x0 x1 x2 true h
        (fun h3 =>
          N56_j1 x0 x1 x2 h3
            (fun n4 n5 h4 =>
              K n4 n5 h4))
        (fun n6 n7 h5 =>
          K n6 n7 h5)
    else
      N56_j0 x0 x1 x2 (decide (x1 < 0)) h
        (fun h6 =>
          N56_j1 x0 x1 x2 h6
            (fun n8 n9 h7 =>
              K n8 n9 h7))
        (fun n10 n11 h8 =>
          K n10 n11 h8)
theorem S56 {x0 : Sl} {x1 : Int} {x2 : Int} {h : Hp} {K : Int → Int → Hp → Prop} (hn : N56 x0 x1 x2 h K) : C56 x0 x1 x2 h K := by
  refine calls_of_D Tryd.func56 (c := B56) rfl (by kernel_rfl) ?_
  refine den_sound hE hm _ (.two .leaf (.two (.one (.two .leaf (.xf N56_j0_t))) (.xf N56_j1_t))) _ _ _ (⟨annOk_leaf, ⟨⟨annOk_leaf, N56_j0_ok⟩, N56_j1_ok⟩⟩) ?_
  refine cast ?_ hn
  kernel_rfl
end Go.Proofs.YtedklcmdjoojfaaDoor

/-
  Numbers as bytes: Put and Get, the program's and the document's.
-/
-- (no ref01.Get)
set_option linter.unusedSimpArgs false
set_option linter.unusedVariables false
namespace Go.Proofs.YtedklcmdjoojfaaDoor
open Go Go.Hw
theorem y_a : Tryd.prog.cellsOf 5 = 1 := by kernel_rfl
theorem y_z : zc Tryd.prog 5 = [.int .u8 0] := by kernel_rfl
theorem y_zl : (zc Tryd.prog 5).length = 1 := by rw [y_z]; rfl
theorem y_b : Tryd.prog.bytesOf 5 = 1 := by kernel_rfl
theorem y_zeros (n : Nat) : (zeros Tryd.prog 5 n).toList = bc (List.replicate n 0) := by
  unfold zeros Builtin.zeroCells
  rw [y_z]
  simp only [bc, List.map_replicate]
  apply List.ext_getElem
  · simp
  · intro i h1 h2
    simp only [List.getElem_replicate]
    have : i % 1 = 0 := Nat.mod_one i
    simp [this]
def be (n : Nat) : Nat → List UInt8
  | 0 => []
  | w + 1 => UInt8.ofNat (n / 256 ^ w % 256) :: be n w
theorem be_len (n w : Nat) : (be n w).length = w := by induction w with | zero => rfl | succ w ih => simp [be, ih]
def putL (n : Nat) (w : Int) : List UInt8 := if w < 1 ∨ w > 8 then [] else be n w.toNat
theorem byte_of (n : Nat) : (((UInt8.ofNat (n % 256)).toNat : Nat) : Int) = ((n % 256 : Nat) : Int) := by rw [UInt8.toNat_ofNat']; omega
theorem c_put {n w : Int} {h : Hp} {K : Sl → Hp → Prop} (h0 : 0 ≤ n) (h1 : n < 18446744073709551616) (hK : ∀ h' s, NewO h h' 5 1 s (bc (putL n.toNat w)) → K s h') : C51 n w h K := by
  apply S51; unfold N51
  by_cases c1 : w < 1
  · simp only [c1, decide_true, cond_true]
    have e : putL n.toNat w = [] := by unfold putL; rw [if_pos (.inl c1)]
    rw [e] at hK
    exact hK h _ NewO.nil
  · by_cases c2 : w > 8
    · simp only [c1, c2, decide_true, decide_false, cond_true, cond_false]
      have e : putL n.toNat w = [] := by unfold putL; rw [if_pos (.inr c2)]
      rw [e] at hK
      exact hK h _ NewO.nil
    · simp only [c1, c2, decide_false, cond_false]
      have e : putL n.toNat w = be n.toNat w.toNat := by unfold putL; rw [if_neg (by omega)]
      rw [e] at hK
      refine (Sat.start (h := h)).mk (sz := 1) y_zl (by omega) (by omega) (by rw [y_b]; omega) (by omega) ?_
      intro s hb hn hc hs
      have z0 : (zeros Tryd.prog 5 (0 : Int).toNat).toList = bc [] := by rw [show (0 : Int).toNat = 0 from rfl, y_zeros]; rfl
      rw [z0] at hs
      unfold N51_l0
      refine loopP_inv (fun (x : Sl × Int) hc => ∃ (j : Nat) (c : List UInt8), x.2 = (j : Int) - 1 ∧ j ≤ w.toNat ∧ c ++ be n.toNat j = be n.toNat w.toNat ∧ x.1.n = c.length ∧ Sat ([] ++ [Hw.was h, Hw.own 5 1 x.1 (bc c)]) hc) (fun x _ => (x.2 + 1).toNat) ?_
        ⟨w.toNat, [], by rw [wi64i (by omega) (by omega)]; omega, Nat.le_refl _, rfl, by simpa using hn, hs⟩
      rintro ⟨t, x⟩ hc ⟨j, c, hx, hj, hcj, htn, hs⟩
      simp only at hx hs htn
      subst hx
      unfold N51_l0_B N51_l0_b
      dsimp only
      have clen : c.length + j = w.toNat := by have := congrArg List.length hcj; simpa [be_len] using this
      cases j with
      | zero =>
        simp only [Int.natCast_zero, show decide ((0 : Int) - 1 ≥ 0) = false from rfl, cond_false]
        refine hK _ t ?_
        have : c = be n.toNat w.toNat := by simpa [be] using hcj
        rw [← this]
        exact hs.newO 0 1 rfl rfl (by omega)
      | succ j =>
        have ex : ((j + 1 : Nat) : Int) - 1 = (j : Int) := by omega
        rw [ex]
        simp only [show decide ((j : Int) ≥ 0) = true by simp, cond_true]
        have e8 : IntKind.wrap .i64 (8 * (j : Int)) = ((8 * j : Nat) : Int) := by rw [wi64i (by omega) (by omega)]; omega
        have em : min (((8 * j : Nat) : Int)).toNat 64 = 8 * j := by omega
        rw [e8, em]
        simp only [show decide (((8 * j : Nat) : Int) < 0) = false by simp; omega, cond_false]
        have ep : (2 : Int) ^ (8 * j) = ((256 ^ j : Nat) : Int) := by rw [Int.pow_mul, show (2 : Int) ^ 8 = 256 from rfl, Int.natCast_pow]; rfl
        have ev : IntKind.wrap .u8 (Int.fdiv n (2 ^ (8 * j))) = (((UInt8.ofNat (n.toNat / 256 ^ j % 256)).toNat : Nat) : Int) := by
          rw [byte_of, ep, Int.fdiv_eq_ediv_of_nonneg _ (Int.natCast_nonneg _), wu8]
          obtain ⟨m, rfl⟩ := Int.eq_ofNat_of_zero_le h0
          simp only [Int.toNat_natCast]
          omega
        rw [ev]
        refine hs.push 1 rfl (k := 1) y_a y_zl rfl (by intro v hv; simp at hv; subst hv; rfl) (by rw [y_b]; omega) ?_
        intro s' h' hs' hn'
        have ew : IntKind.wrap .i64 ((j : Int) - 1) = (j : Int) - 1 := wi64i (by omega) (by omega)
        rw [ew]
        have ec : bc c ++ [Value.int .u8 (((UInt8.ofNat (n.toNat / 256 ^ j % 256)).toNat : Nat) : Int)] = bc (c ++ [UInt8.ofNat (n.toNat / 256 ^ j % 256)]) := by rw [bc_app]; rfl
        rw [ec] at hs'
        refine ⟨⟨j, _, rfl, by omega, ?_, ?_, hs'⟩, ?_⟩
        · rw [← hcj]; simp [be]
        · rw [hn', htn]; simp
        · show ((j : Int) - 1 + 1).toNat < ((j : Int) + 1).toNat; omega
def nat256 (l : List UInt8) : Nat := l.foldl (fun a b => a * 256 + b.toNat) 0
theorem nat256_snoc (l : List UInt8) (b : UInt8) : nat256 (l ++ [b]) = nat256 l * 256 + b.toNat := by simp [nat256]
theorem nat256_lt (l : List UInt8) : nat256 l < 256 ^ l.length := by
  have key : ∀ (l : List UInt8) (a : Nat), l.foldl (fun a b => a * 256 + b.toNat) a < (a + 1) * 256 ^ l.length := by
    intro l
    induction l with
    | nil => intro a; simp
    | cons b l ih =>
      intro a
      have hb := b.toNat_lt
      have h1 := ih (a * 256 + b.toNat)
      have h2 : (a * 256 + b.toNat + 1) * 256 ^ l.length ≤ ((a + 1) * 256) * 256 ^ l.length := Nat.mul_le_mul_right _ (by omega)
      simp only [List.foldl_cons, List.length_cons]
      rw [Nat.pow_succ, Nat.mul_comm (256 ^ l.length) 256, ← Nat.mul_assoc]
      omega
  have := key l 0
  unfold nat256; omega
def getV (l : List UInt8) (at_ w : Int) : Nat := if w < 1 ∨ w > 8 ∨ at_ < 0 then 0 else if at_ > l.length ∨ l.length - at_ < w then 0 else nat256 ((l.drop at_.toNat).take w.toNat)
def getE (l : List UInt8) (at_ w : Int) : Int := if w < 1 ∨ w > 8 ∨ at_ < 0 then 1 else if at_ > l.length ∨ l.length - at_ < w then 5 else 0
theorem pow256_le {k : Nat} (hk : k ≤ 7) : 256 ^ k ≤ 72057594037927936 := by
  have : 256 ^ k ≤ 256 ^ 7 := Nat.pow_le_pow_right (by omega) hk
  exact this
theorem get_step {m : Nat} {b : UInt8} (hm : m < 72057594037927936) : IntKind.wrap .u64 (BitVec.ofInt 64 (IntKind.wrap .u64 ((m : Int) * 2 ^ 8)) ||| BitVec.ofInt 64 (IntKind.wrap .u64 (b.toNat : Int))).toNat = ((m * 256 + b.toNat : Nat) : Int) := by
  have hb := b.toNat_lt
  rw [wu64i (x := (m : Int) * 2 ^ 8) (by omega) (by omega), wu64i (x := (b.toNat : Int)) (by omega) (by omega)]
  have := bor_low (w := 64) (x := (m : Int)) (y := (b.toNat : Int)) 8 (by omega) (by omega) (by omega) (by omega) (by omega)
  rw [this, wu64i (by omega) (by omega)]; omega
theorem c_get {s : Sl} {l : List UInt8} {at_ w : Int} {h : Hp} {K : Int → Int → Hp → Prop} (H : RdB h s l) (hl : l.length ≤ 140737488355328) (hK : K (getV l at_ w : Nat) (getE l at_ w) h) : C56 s at_ w h K := by
  apply S56; unfold N56
  have hn := H.n
  have hc := H.c
  by_cases c1 : w < 1
  · have e1 : getV l at_ w = 0 := by unfold getV; rw [if_pos (.inl c1)]
    have e2 : getE l at_ w = 1 := by unfold getE; rw [if_pos (.inl c1)]
    simp only [c1, decide_true, cond_true, N56_j0]
    rw [e1, e2] at hK; exact hK
  · by_cases c2 : w > 8
    · have e1 : getV l at_ w = 0 := by unfold getV; rw [if_pos (.inr (.inl c2))]
      have e2 : getE l at_ w = 1 := by unfold getE; rw [if_pos (.inr (.inl c2))]
      simp only [c1, c2, decide_true, decide_false, cond_true, cond_false, N56_j0]
      rw [e1, e2] at hK; exact hK
    · by_cases c3 : at_ < 0
      · have e1 : getV l at_ w = 0 := by unfold getV; rw [if_pos (.inr (.inr c3))]
        have e2 : getE l at_ w = 1 := by unfold getE; rw [if_pos (.inr (.inr c3))]
        simp only [c1, c2, c3, decide_true, decide_false, cond_true, cond_false, N56_j0]
        rw [e1, e2] at hK; exact hK
      · simp only [c1, c2, c3, decide_false, cond_false, N56_j0]
        rw [hn]
        by_cases c4 : at_ > (l.length : Int)
        · have e1 : getV l at_ w = 0 := by unfold getV; rw [if_neg (by omega), if_pos (.inl c4)]
          have e2 : getE l at_ w = 5 := by unfold getE; rw [if_neg (by omega), if_pos (.inl c4)]
          simp only [c4, decide_true, cond_true]
          rw [e1, e2] at hK; exact hK
        · simp only [c4, decide_false, cond_false]
          rw [wi64i (x := (l.length : Int) - at_) (by omega) (by omega)]
          by_cases c5 : (l.length : Int) - at_ < w
          · have e1 : getV l at_ w = 0 := by unfold getV; rw [if_neg (by omega), if_pos (.inr c5)]
            have e2 : getE l at_ w = 5 := by unfold getE; rw [if_neg (by omega), if_pos (.inr c5)]
            simp only [c5, decide_true, cond_true]
            rw [e1, e2] at hK; exact hK
          · have e1 : getV l at_ w = nat256 ((l.drop at_.toNat).take w.toNat) := by unfold getV; rw [if_neg (by omega), if_neg (by omega)]
            have e2 : getE l at_ w = 0 := by unfold getE; rw [if_neg (by omega), if_neg (by omega)]
            simp only [c5, decide_false, cond_false, N56_j1]
            rw [e1, e2] at hK
            rw [wi64i (x := at_ + w) (by omega) (by omega)]
            refine bd_of (by omega) (by omega) ?_
            refine bd_of (by omega) (by omega) ?_
            have hsub := H.sub (lo := at_.toNat) (hi := (at_ + w).toNat) (by omega) (by omega)
            have ed : (at_ + w).toNat - at_.toNat = w.toNat := by omega
            rw [ed] at hsub ⊢
            generalize hm : (l.drop at_.toNat).take w.toNat = m at hsub hK
            have ml : m.length = w.toNat := by rw [← hm]; simp; omega
            unfold N56_l2
            refine loopP_inv (fun (x : Int × Int) hc => hc = h ∧ ∃ i : Nat, x.2 = i ∧ i ≤ m.length ∧ x.1 = ((nat256 (m.take i) : Nat) : Int)) (fun x _ => m.length - x.2.toNat) ?_ ⟨rfl, 0, rfl, Nat.zero_le _, rfl⟩
            rintro ⟨v, x⟩ hc2 ⟨rfl, i, hx, hi, hv⟩
            simp only at hx hv
            subst hx; subst hv
            unfold N56_l2_B N56_l2_b
            dsimp only
            by_cases hlt : i < m.length
            · have : decide ((i : Int) < ((w.toNat : Nat) : Int)) = true := by simp; omega
              rw [this, cond_true]
              refine hsub.at rfl hlt ?_
              have hb := nat256_lt (m.take i)
              have hp := pow256_le (k := (m.take i).length) (by simp; omega)
              rw [get_step (by omega), nat_succ64 (by omega), ← nat256_snoc]
              have et : m.take i ++ [m[i]] = m.take (i + 1) := by rw [List.take_append_getElem]
              rw [et]
              exact ⟨⟨rfl, i + 1, rfl, hlt, rfl⟩, by show m.length - (((i + 1 : Nat) : Int)).toNat < m.length - ((i : Nat) : Int).toNat; omega⟩
            · have : decide ((i : Int) < ((w.toNat : Nat) : Int)) = false := by simp; omega
              rw [this, cond_false]
              rw [List.take_of_length_le (by omega)]
              exact hK
end Go.Proofs.YtedklcmdjoojfaaDoor
