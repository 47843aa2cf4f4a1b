/- Texts of a walk over heaps, printed by program and by hand: lemmas for the law that is proved in this claim. No condition. -/
import Derived.Test.YtkfccpabigikkaaPd
import Derived.Sort.LotD4
import Derived.Sort.LotD5
import Derived.MapKept
import Derived.Test.YtkfccpabigikkaaPb
set_option linter.unusedVariables false
set_option maxRecDepth 100000
namespace Go.Proofs.Ytkfccpabigikkaa
open Go Go.Hw
noncomputable def B79 : Code := match Try.f79.body with | some c => c | none => .skip
def N79_j1 (x0 : Sl) (x1 x6 : Int) (x7 : Option Addr) (x8 x9 x10 : Int) (h : Hp) (Kn : Hp → Prop) : Prop :=
 idx (IntKind.wrap .i64 (x1 + x10)) x0.n <|
 nn x0.p fun a0 =>
 xI .u32 (cell h (a0.add ((IntKind.wrap .i64 (x1 + x10)).toNat * 1))) fun n0 =>
 idx x9 x0.n <|
 nn x0.p fun a1 =>
 xI .u32 (cell h (a1.add (x9.toNat * 1))) fun n1 =>
 idx x9 x0.n <|
 nn x0.p fun a2 =>
 st h (a2.add (x9.toNat * 1)) (.int .u32 n0) fun h0 =>
 idx (IntKind.wrap .i64 (x1 + x10)) x0.n <|
 nn x0.p fun a3 =>
 st h0 (a3.add ((IntKind.wrap .i64 (x1 + x10)).toNat * 1)) (.int .u32 n1) fun h1 =>
 Kn h1
noncomputable def N79_j1_t : Xf := pieceT [(0, .c (.slice)), (1, .c (.int .i64)), (6, .c (.int .i64)), (7, .c (.ptr)), (8, .c (.int .u64)), (9, .c (.int .i64)), (10, .c (.int .i64))] (codeAt B79 [1, 1, 0, 1, 1, 1, 0, 0, 1, 0, 0, 1, 1]) fun x h Q => N79_j1 x.1 x.2.1 x.2.2.1 x.2.2.2.1 x.2.2.2.2.1 x.2.2.2.2.2.1 x.2.2.2.2.2.2 h (fun h' => Q .normal (Sg.env [] ()) h')
theorem N79_j1_ok : Sound Try.prog Try.f79.ntmps N79_j1_t (codeAt B79 [1, 1, 0, 1, 1, 1, 0, 0, 1, 0, 0, 1, 1]) := by
 refine piece_sound (fun e => match e with | .normal => [] | _ => []) ?_
 intro x h Q hb
 refine den_sound hE hm _ (.ord [0, 1, 2, 3, 4, 5, 6, 7, 8, 9, 10, 11, 12, 13, 14, 15, 16, 17, 18, 19]) _ _ _ (trivial) ?_
 refine cast ?_ hb
 kernel_rfl
def N79_l0_b (x0 : Sl) (x1 x6 : Int) (x7 : Option Addr) (x8 : Int) (Φ : Int → Hp → Prop) (x9 : Int) (h : Hp) (K0 : Hp → Prop) : Prop :=
 bif (decide (x9 ≤ (IntKind.wrap .i64 ((IntKind.wrap .i64 (x1 + (IntKind.wrap .i64 ((IntKind.wrap .i64 (Int.tdiv x6 4)) * 2)))) + 1)))) then
 C90 x7 h fun n0 h0 =>
 bif (decide ((IntKind.wrap .i64 (IntKind.wrap .u64 (BitVec.ofInt 64 n0 &&& BitVec.ofInt 64 (IntKind.wrap .u64 (x8 - 1))).toNat)) ≥ x6)) then
 N79_j1 x0 x1 x6 x7 x8 x9 (IntKind.wrap .i64 ((IntKind.wrap .i64 (IntKind.wrap .u64 (BitVec.ofInt 64 n0 &&& BitVec.ofInt 64 (IntKind.wrap .u64 (x8 - 1))).toNat)) - x6)) h0
 (fun h1 =>
 Φ (IntKind.wrap .i64 (x9 + 1)) h1)
 else
 N79_j1 x0 x1 x6 x7 x8 x9 (IntKind.wrap .i64 (IntKind.wrap .u64 (BitVec.ofInt 64 n0 &&& BitVec.ofInt 64 (IntKind.wrap .u64 (x8 - 1))).toNat)) h0
 (fun h2 =>
 Φ (IntKind.wrap .i64 (x9 + 1)) h2)
 else
 K0 h
def N79_l0_B (x0 : Sl) (x1 x6 : Int) (x7 : Option Addr) (x8 : Int) (K0 : Hp → Prop) (s : Sg.T [(9, .c (.int .i64))]) (h : Hp) (Φ : Sg.T [(9, .c (.int .i64))] → Hp → Prop) : Prop :=
 N79_l0_b x0 x1 x6 x7 x8 (fun x9 h => Φ x9 h) s h K0
def N79_l0 (x0 : Sl) (x1 x6 : Int) (x7 : Option Addr) (x8 x9 : Int) (h : Hp) (K0 : Hp → Prop) : Prop :=
 loopP (N79_l0_B x0 x1 x6 x7 x8 K0) x9 h
noncomputable def N79_l0_t : Xf := loopT [(0, .c (.slice)), (1, .c (.int .i64)), (6, .c (.int .i64)), (7, .c (.ptr)), (8, .c (.int .u64))] [(9, .c (.int .i64))] (codeAt B79 [1, 1, 0, 1, 1, 1, 0, 0]) fun F Q => N79_l0_B F.1 F.2.1 F.2.2.1 F.2.2.2.1 F.2.2.2.2 (fun h' => Q (.exit 0) (Sg.env [] ()) h')
theorem N79_l0_ok : Sound Try.prog Try.f79.ntmps N79_l0_t (codeAt B79 [1, 1, 0, 1, 1, 1, 0]) := by
 refine loop_sound (fun e => match e with | .exit 0 => [] | _ => []) (by kernel_rfl) ?_
 intro F Q s h Φ hb
 refine den_sound hE hm _ (.two .leaf (.two (.one (.two .leaf (.two .leaf (.xf N79_j1_t)))) .leaf)) _ _ _ (⟨annOk_leaf, ⟨⟨annOk_leaf, ⟨annOk_leaf, N79_j1_ok⟩⟩, annOk_leaf⟩⟩) ?_
 refine cast ?_ hb
 kernel_rfl
def N79 (x0 : Sl) (x1 x2 : Int) (h : Hp) (K : Hp → Prop) : Prop :=
 bif (decide ((IntKind.wrap .i64 (x2 - x1)) ≥ 8)) then
 nw h (.cells ⟨[.int .u64 0]⟩ 129) fun b0 h0 =>
 st h0 (bk b0) (.int .u64 (IntKind.wrap .u64 (IntKind.wrap .i64 (x2 - x1)))) fun h1 =>
 C89 (IntKind.wrap .i64 (x2 - x1)) h1 fun n0 h2 =>
 N79_l0 x0 x1 (IntKind.wrap .i64 (x2 - x1)) (some (bk b0)) n0 (IntKind.wrap .i64 ((IntKind.wrap .i64 (x1 + (IntKind.wrap .i64 ((IntKind.wrap .i64 (Int.tdiv (IntKind.wrap .i64 (x2 - x1)) 4)) * 2)))) - 1)) h2
 (fun h3 =>
 K h3)
 else
 K h
theorem S79 {x0 : Sl} {x1 x2 : Int} {h : Hp} {K : Hp → Prop} (hn : N79 x0 x1 x2 h K) : C79 x0 x1 x2 h K := by
 refine calls_of_D Try.func79 (c := B79) rfl (by kernel_rfl) ?_
 refine den_sound hE hm _ (.two .leaf (.two .leaf (.two (.two .leaf (.two .leaf (.two .leaf (.one (.xf N79_l0_t))))) .leaf))) _ _ _ (⟨annOk_leaf, ⟨annOk_leaf, ⟨⟨annOk_leaf, ⟨annOk_leaf, ⟨annOk_leaf, N79_l0_ok⟩⟩⟩, annOk_leaf⟩⟩⟩) ?_
 refine cast ?_ hn
 kernel_rfl
end Go.Proofs.Ytkfccpabigikkaa

set_option linter.unusedVariables false
set_option maxRecDepth 100000
namespace Go.Proofs.Ytkfccpabigikkaa
open Go Go.Hw
noncomputable def B89 : Code := match Try.f89.body with | some c => c | none => .skip
def N89 (x0 : Int) (h : Hp) (K : Int → Hp → Prop) : Prop :=
 C76 (IntKind.wrap .u64 x0) h fun n0 h0 =>
 bif decide (n0 < 0) then False else
 K (IntKind.wrap .u64 (1 * 2 ^ (min n0.toNat 64))) h0
theorem S89 {x0 : Int} {h : Hp} {K : Int → Hp → Prop} (hn : N89 x0 h K) : C89 x0 h K := by
 refine calls_of_D Try.func89 (c := B89) rfl (by kernel_rfl) ?_
 refine den_sound hE hm _ .leaf _ _ _ (annOk_leaf) ?_
 refine cast ?_ hn
 kernel_rfl
end Go.Proofs.Ytkfccpabigikkaa

set_option linter.unusedVariables false
set_option maxRecDepth 100000
namespace Go.Proofs.Ytkfccpabigikkaa
open Go Go.Hw
noncomputable def B90 : Code := match Try.f90.body with | some c => c | none => .skip
def N90 (x0 : Option Addr) (h : Hp) (K : Int → Hp → Prop) : Prop :=
 nn x0 fun a0 =>
 xI .u64 (cell h a0) fun n0 =>
 nn x0 fun a1 =>
 xI .u64 (cell h a1) fun n1 =>
 nn x0 fun a2 =>
 st h a2 (.int .u64 (IntKind.wrap .u64 (BitVec.ofInt 64 n0 ^^^ BitVec.ofInt 64 (IntKind.wrap .u64 (n1 * 2 ^ 13))).toNat)) fun h0 =>
 nn x0 fun a3 =>
 xI .u64 (cell h0 a3) fun n2 =>
 nn x0 fun a4 =>
 xI .u64 (cell h0 a4) fun n3 =>
 nn x0 fun a5 =>
 st h0 a5 (.int .u64 (IntKind.wrap .u64 (BitVec.ofInt 64 n2 ^^^ BitVec.ofInt 64 (Int.fdiv n3 (2 ^ 7))).toNat)) fun h1 =>
 nn x0 fun a6 =>
 xI .u64 (cell h1 a6) fun n4 =>
 nn x0 fun a7 =>
 xI .u64 (cell h1 a7) fun n5 =>
 nn x0 fun a8 =>
 st h1 a8 (.int .u64 (IntKind.wrap .u64 (BitVec.ofInt 64 n4 ^^^ BitVec.ofInt 64 (IntKind.wrap .u64 (n5 * 2 ^ 17))).toNat)) fun h2 =>
 nn x0 fun a9 =>
 xI .u64 (cell h2 a9) fun n6 =>
 K n6 h2
theorem S90 {x0 : Option Addr} {h : Hp} {K : Int → Hp → Prop} (hn : N90 x0 h K) : C90 x0 h K := by
 refine calls_of_D Try.func90 (c := B90) rfl (by kernel_rfl) ?_
 refine den_sound hE hm _ (.two .leaf (.two (.ord [0, 1, 2, 3, 4, 5, 6, 7, 8, 9]) (.two (.ord [0, 1, 2, 3, 4, 5, 6, 7, 8, 9]) (.two (.ord [0, 1, 2, 3, 4, 5, 6, 7, 8, 9]) .leaf)))) _ _ _ (⟨annOk_leaf, ⟨trivial, ⟨trivial, ⟨trivial, annOk_leaf⟩⟩⟩⟩) ?_
 refine cast ?_ hn
 kernel_rfl
end Go.Proofs.Ytkfccpabigikkaa

set_option linter.unusedVariables false
set_option maxRecDepth 100000
namespace Go.Proofs.Ytkfccpabigikkaa
open Go Go.Hw
noncomputable def B76 : Code := match Try.f76.body with | some c => c | none => .skip
def N76 (x0 : Int) (h : Hp) (K : Int → Hp → Prop) : Prop :=
 C87 x0 h fun n0 h0 =>
 K n0 h0
theorem S76 {x0 : Int} {h : Hp} {K : Int → Hp → Prop} (hn : N76 x0 h K) : C76 x0 h K := by
 refine calls_of_D Try.func76 (c := B76) rfl (by kernel_rfl) ?_
 refine den_sound hE hm _ .leaf _ _ _ (annOk_leaf) ?_
 refine cast ?_ hn
 kernel_rfl
end Go.Proofs.Ytkfccpabigikkaa

set_option linter.unusedVariables false
set_option maxRecDepth 100000
namespace Go.Proofs.Ytkfccpabigikkaa
open Go Go.Hw
noncomputable def B87 : Code := match Try.f87.body with | some c => c | none => .skip
def N87_j2 (x0 x2 : Int) (h : Hp) (Kr : Int → Hp → Prop) : Prop :=
 idx (IntKind.wrap .u8 x0) (⟨⟨[0, 1, 2, 2, 3, 3, 3, 3, 4, 4, 4, 4, 4, 4, 4, 4, 5, 5, 5, 5, 5, 5, 5, 5, 5, 5, 5, 5, 5, 5, 5, 5, 6, 6, 6, 6, 6, 6, 6, 6, 6, 6, 6, 6, 6, 6, 6, 6, 6, 6, 6, 6, 6, 6, 6, 6, 6, 6, 6, 6, 6, 6, 6, 6, 7, 7, 7, 7, 7, 7, 7, 7, 7, 7, 7, 7, 7, 7, 7, 7, 7, 7, 7, 7, 7, 7, 7, 7, 7, 7, 7, 7, 7, 7, 7, 7, 7, 7, 7, 7, 7, 7, 7, 7, 7, 7, 7, 7, 7, 7, 7, 7, 7, 7, 7, 7, 7, 7, 7, 7, 7, 7, 7, 7, 7, 7, 7, 7, 8, 8, 8, 8, 8, 8, 8, 8, 8, 8, 8, 8, 8, 8, 8, 8, 8, 8, 8, 8, 8, 8, 8, 8, 8, 8, 8, 8, 8, 8, 8, 8, 8, 8, 8, 8, 8, 8, 8, 8, 8, 8, 8, 8, 8, 8, 8, 8, 8, 8, 8, 8, 8, 8, 8, 8, 8, 8, 8, 8, 8, 8, 8, 8, 8, 8, 8, 8, 8, 8, 8, 8, 8, 8, 8, 8, 8, 8, 8, 8, 8, 8, 8, 8, 8, 8, 8, 8, 8, 8, 8, 8, 8, 8, 8, 8, 8, 8, 8, 8, 8, 8, 8, 8, 8, 8, 8, 8, 8, 8, 8, 8, 8, 8, 8, 8, 8, 8, 8, 8, 8, 8, 8, 8, 8, 8, 8, 8]⟩⟩ : ByteArray).size <|
 Kr (IntKind.wrap .i64 (x2 + (IntKind.wrap .i64 (sbyte (⟨⟨[0, 1, 2, 2, 3, 3, 3, 3, 4, 4, 4, 4, 4, 4, 4, 4, 5, 5, 5, 5, 5, 5, 5, 5, 5, 5, 5, 5, 5, 5, 5, 5, 6, 6, 6, 6, 6, 6, 6, 6, 6, 6, 6, 6, 6, 6, 6, 6, 6, 6, 6, 6, 6, 6, 6, 6, 6, 6, 6, 6, 6, 6, 6, 6, 7, 7, 7, 7, 7, 7, 7, 7, 7, 7, 7, 7, 7, 7, 7, 7, 7, 7, 7, 7, 7, 7, 7, 7, 7, 7, 7, 7, 7, 7, 7, 7, 7, 7, 7, 7, 7, 7, 7, 7, 7, 7, 7, 7, 7, 7, 7, 7, 7, 7, 7, 7, 7, 7, 7, 7, 7, 7, 7, 7, 7, 7, 7, 7, 8, 8, 8, 8, 8, 8, 8, 8, 8, 8, 8, 8, 8, 8, 8, 8, 8, 8, 8, 8, 8, 8, 8, 8, 8, 8, 8, 8, 8, 8, 8, 8, 8, 8, 8, 8, 8, 8, 8, 8, 8, 8, 8, 8, 8, 8, 8, 8, 8, 8, 8, 8, 8, 8, 8, 8, 8, 8, 8, 8, 8, 8, 8, 8, 8, 8, 8, 8, 8, 8, 8, 8, 8, 8, 8, 8, 8, 8, 8, 8, 8, 8, 8, 8, 8, 8, 8, 8, 8, 8, 8, 8, 8, 8, 8, 8, 8, 8, 8, 8, 8, 8, 8, 8, 8, 8, 8, 8, 8, 8, 8, 8, 8, 8, 8, 8, 8, 8, 8, 8, 8, 8, 8, 8, 8, 8, 8, 8]⟩⟩ : ByteArray) (IntKind.wrap .u8 x0))))) h
noncomputable def N87_j2_t : Xf := pieceT [(0, .c (.int .u64)), (2, .c (.int .i64))] (codeAt B87 [1, 1, 1, 1]) fun x h Q => N87_j2 x.1 x.2 h (fun o0 h' => Q .ret (Sg.env [(2, .c (.int .i64))] o0) h')
theorem N87_j2_ok : Sound Try.prog Try.f87.ntmps N87_j2_t (codeAt B87 [1, 1, 1, 1]) := by
 refine piece_sound (fun e => match e with | .ret => [2] | _ => []) ?_
 intro x h Q hb
 refine den_sound hE hm _ .leaf _ _ _ (annOk_leaf) ?_
 refine cast ?_ hb
 kernel_rfl
def N87_j1 (x0 x2 : Int) (h : Hp) (Kr : Int → Hp → Prop) : Prop :=
 bif (decide (x0 ≥ 256)) then
 N87_j2 (Int.fdiv x0 (2 ^ 8)) (IntKind.wrap .i64 (x2 + 8)) h
 (fun n0 h0 =>
 Kr n0 h0)
 else
 N87_j2 x0 x2 h
 (fun n1 h1 =>
 Kr n1 h1)
noncomputable def N87_j1_t : Xf := pieceT [(0, .c (.int .u64)), (2, .c (.int .i64))] (codeAt B87 [1, 1, 1]) fun x h Q => N87_j1 x.1 x.2 h (fun o0 h' => Q .ret (Sg.env [(2, .c (.int .i64))] o0) h')
theorem N87_j1_ok : Sound Try.prog Try.f87.ntmps N87_j1_t (codeAt B87 [1, 1, 1]) := by
 refine piece_sound (fun e => match e with | .ret => [2] | _ => []) ?_
 intro x h Q hb
 refine den_sound hE hm _ (.two .leaf (.xf N87_j2_t)) _ _ _ (⟨annOk_leaf, N87_j2_ok⟩) ?_
 refine cast ?_ hb
 kernel_rfl
def N87_j0 (x0 x2 : Int) (h : Hp) (Kr : Int → Hp → Prop) : Prop :=
 bif (decide (x0 ≥ 65536)) then
 N87_j1 (Int.fdiv x0 (2 ^ 16)) (IntKind.wrap .i64 (x2 + 16)) h
 (fun n0 h0 =>
 Kr n0 h0)
 else
 N87_j1 x0 x2 h
 (fun n1 h1 =>
 Kr n1 h1)
noncomputable def N87_j0_t : Xf := pieceT [(0, .c (.int .u64)), (2, .c (.int .i64))] (codeAt B87 [1, 1]) fun x h Q => N87_j0 x.1 x.2 h (fun o0 h' => Q .ret (Sg.env [(2, .c (.int .i64))] o0) h')
theorem N87_j0_ok : Sound Try.prog Try.f87.ntmps N87_j0_t (codeAt B87 [1, 1]) := by
 refine piece_sound (fun e => match e with | .ret => [2] | _ => []) ?_
 intro x h Q hb
 refine den_sound hE hm _ (.two .leaf (.xf N87_j1_t)) _ _ _ (⟨annOk_leaf, N87_j1_ok⟩) ?_
 refine cast ?_ hb
 kernel_rfl
def N87 (x0 : Int) (h : Hp) (K : Int → Hp → Prop) : Prop :=
 bif (decide (x0 ≥ 4294967296)) then
 N87_j0 (Int.fdiv x0 (2 ^ 32)) 32 h
 (fun n0 h0 =>
 K n0 h0)
 else
 N87_j0 x0 0 h
 (fun n1 h1 =>
 K n1 h1)
theorem S87 {x0 : Int} {h : Hp} {K : Int → Hp → Prop} (hn : N87 x0 h K) : C87 x0 h K := by
 refine calls_of_D Try.func87 (c := B87) rfl (by kernel_rfl) ?_
 refine den_sound hE hm _ (.two .leaf (.two .leaf (.xf N87_j0_t))) _ _ _ (⟨annOk_leaf, ⟨annOk_leaf, N87_j0_ok⟩⟩) ?_
 refine cast ?_ hn
 kernel_rfl
end Go.Proofs.Ytkfccpabigikkaa

/-
 The sort of a row of uint32, fourth part: the pivot, the partial insertion sort, the broken patterns.
-/
set_option linter.unusedSimpArgs false
set_option linter.unusedVariables false
namespace Go.Proofs.Ytkfccpabigikkaa
open Go Go.Hw
abbrev SwA (b0 : Nat) (sw : Nat) : Asn := row b0 3 [.int .i64 (sw : Int)]
section
variable {L : List Asn} {s : Sl} {d : Array Int} {h : Hp} {b0 sw : Nat}
theorem c_order2 {a b : Nat} {K : Int → Int → Hp → Prop} (hs : Sat (L ++ [SwA b0 sw, UA s d]) h) (ha : a < d.size) (hb : b < d.size) (hsw : sw ≤ 1000)
  (hK : ∀ h', Sat (L ++ [SwA b0 (Sort.order2 Sort.ltInt d a b sw).2.2, UA s d]) h' → K ((Sort.order2 Sort.ltInt d a b sw).1 : Nat) ((Sort.order2 Sort.ltInt d a b sw).2.1 : Nat) h') : C94 s (a : Int) (b : Int) (some (bk b0)) h K := by
 apply S94; unfold N94
 have hs1 : Sat ((L ++ [SwA b0 sw]) ++ [UA s d]) h := Sat.csa hs
 refine rdU hs1 rfl hb ?_
 refine rdU hs1 rfl ha ?_
 refine c_less ?_
 unfold Sort.order2 at hK
 cases hl : Sort.ltInt d[b]! d[a]! with
 | true =>
  rw [hl, if_pos rfl] at hK
  rw [cond_true]
  simp only [nn_some']
  refine hs.lI 0 rfl rfl ?_
  refine hs.st 0 rfl (by simp) rfl ?_
  intro h1 hs2
  refine hK h1 ?_
  rw [wrn (n := (sw : Int) + 1) (k := sw + 1) (by omega) (by omega)] at hs2
  exact hs2
 | false =>
  rw [hl, if_neg (by decide)] at hK
  rw [cond_false]
  exact hK h hs
theorem order2_lt {a b n : Nat} (ha : a < n) (hb : b < n) : (Sort.order2 Sort.ltInt d a b sw).1 < n ∧ (Sort.order2 Sort.ltInt d a b sw).2.1 < n := by
 rcases Sort.order2_mem Sort.ltInt d a b sw with ⟨h1, h2⟩ | ⟨h1, h2⟩ <;> rw [h1, h2] <;> exact ⟨by assumption, by assumption⟩
theorem c_median {a b c : Nat} {K : Int → Hp → Prop} (hs : Sat (L ++ [SwA b0 sw, UA s d]) h) (ha : a < d.size) (hb : b < d.size) (hc : c < d.size) (hsw : sw ≤ 900)
  (hK : ∀ h', Sat (L ++ [SwA b0 (Sort.median Sort.ltInt d a b c sw).2, UA s d]) h' → K ((Sort.median Sort.ltInt d a b c sw).1 : Nat) h') : C92 s (a : Int) (b : Int) (c : Int) (some (bk b0)) h K := by
 apply S92; unfold N92
 unfold Sort.median at hK
 simp only at hK
 have m1 := order2_lt (d := d) (sw := sw) ha hb
 have k1 := Sort.order2_count Sort.ltInt d a b sw
 refine c_order2 hs ha hb (by omega) fun h1 hs1 => ?_
 generalize Sort.order2 Sort.ltInt d a b sw = r1 at hK m1 k1 hs1 ⊢
 have m2 := order2_lt (d := d) (sw := r1.2.2) m1.2 hc
 have k2 := Sort.order2_count Sort.ltInt d r1.2.1 c r1.2.2
 refine c_order2 hs1 m1.2 hc (by omega) fun h2 hs2 => ?_
 generalize Sort.order2 Sort.ltInt d r1.2.1 c r1.2.2 = r2 at hK m2 k2 hs2 ⊢
 exact c_order2 hs2 m1.1 m2.1 (by omega) fun h3 hs3 => hK h3 hs3
theorem c_medianA {a : Nat} {K : Int → Hp → Prop} (hs : Sat (L ++ [SwA b0 sw, UA s d]) h) (h1 : 1 ≤ a) (ha : a + 1 < d.size) (hd : d.size ≤ 1099511627776) (hsw : sw ≤ 900)
  (hK : ∀ h', Sat (L ++ [SwA b0 (Sort.medianAdjacent Sort.ltInt d a sw).2, UA s d]) h' → K ((Sort.medianAdjacent Sort.ltInt d a sw).1 : Nat) h') : C91 s (a : Int) (some (bk b0)) h K := by
 apply S91; unfold N91
 rw [wrn (n := (a : Int) - 1) (k := a - 1) (by omega) (by omega), wrn (n := (a : Int) + 1) (k := a + 1) (by omega) (by omega)]
 exact c_median hs (by omega) (by omega) (by omega) hsw hK
def hintN : Sort.Hint → Int
 | .unknown => 0
 | .increasing => 1
 | .decreasing => 2
theorem pivot_end {j : Nat} {K : Int → Int → Hp → Prop} (hs : Sat (L ++ [SwA b0 sw, UA s d]) h) (hK : ∀ h', Sat (L ++ [UA s d]) h' → K (j : Nat) (hintN (if sw = 0 then .increasing else if sw = 12 then .decreasing else .unknown)) h') : N80_j1 (some (bk b0)) (j : Int) h K := by
 unfold N80_j1
 simp only [nn_some']
 refine hs.lI 0 rfl rfl ?_
 have hs' : Sat (L ++ [UA s d]) h := hs.sel [1] (by decide) rfl
 by_cases e0 : sw = 0
 ·subst e0
  exact hK h hs'
 ·rw [show ((sw : Int) == 0) = false by simp; omega, cond_false]
  rw [if_neg e0] at hK
  by_cases e1 : sw = 12
  ·subst e1; exact hK h hs'
  ·rw [show ((sw : Int) == 12) = false by simp; omega, cond_false]
   rw [if_neg e1] at hK
   exact hK h hs'
theorem c_pivot {a b : Nat} {K : Int → Int → Hp → Prop} (hs : Sat (L ++ [UA s d]) h) (hb : b ≤ d.size) (hab : a < b) (hd : d.size ≤ 1099511627776)
  (hK : ∀ h', Sat (L ++ [UA s d]) h' → K ((Sort.choosePivot Sort.ltInt d a b).1 : Nat) (hintN (Sort.choosePivot Sort.ltInt d a b).2) h') : C80 s (a : Int) (b : Int) h K := by
 apply S80; unfold N80
 intro b0 e0
 have hs1 := (hs.new e0 (.cells ⟨[.int .i64 ((0 : Nat) : Int)]⟩ 3 (0, 0))).sel [1, 0] (by decide) (M' := [SwA b0 0, UA s d]) rfl
 revert hs1
 have e1 : (Obj.cells ⟨[.int .i64 0]⟩ 3 (0, 0)) = (Obj.cells ⟨[.int .i64 ((0 : Nat) : Int)]⟩ 3 (0, 0)) := rfl
 rw [e1]
 generalize upd h b0 _ = h1
 intro hs1
 have w0 : IntKind.wrap .i64 ((b : Int) - (a : Int)) = ((b - a : Nat) : Int) := wrn (by omega) (by omega)
 have w1 : Int.tdiv ((b - a : Nat) : Int) 4 = (((b - a) / 4 : Nat) : Int) := rfl
 have w2 : IntKind.wrap .i64 (((b - a) / 4 : Nat) : Int) = (((b - a) / 4 : Nat) : Int) := wrn rfl (by omega)
 have w3 : ∀ k : Nat, k ≤ 3 → IntKind.wrap .i64 ((a : Int) + IntKind.wrap .i64 ((((b - a) / 4 : Nat) : Int) * (k : Int))) = ((a + (b - a) / 4 * k : Nat) : Int) := by
  intro k hk
  have hle : (b - a) / 4 * k ≤ (b - a) / 4 * 3 := Nat.mul_le_mul_left _ hk
  rw [wrn (n := (((b - a) / 4 : Nat) : Int) * (k : Int)) (k := (b - a) / 4 * k) (by rw [Int.natCast_mul]) (by omega)]
  exact wrn (by omega) (by omega)
 have x1 := w3 1 (by omega)
 have x2 := w3 2 (by omega)
 have x3 := w3 3 (by omega)
 rw [w0, w1, w2]
 rw [show (((1 : Nat) : Int)) = 1 from rfl] at x1
 rw [show (((2 : Nat) : Int)) = 2 from rfl] at x2
 rw [show (((3 : Nat) : Int)) = 3 from rfl] at x3
 rw [x1, x2, x3]
 rw [Sort.choosePivot] at hK
 simp only at hK
 by_cases h8 : b - a ≥ 8
 ·rw [show decide (((b - a : Nat) : Int) ≥ 8) = true from decide_eq_true (by omega), cond_true]
  rw [if_pos h8] at hK
  have q2 : (b - a) / 4 * 2 + (b - a) / 4 * 1 = (b - a) / 4 * 3 := by omega
  have q3 : (b - a) / 4 * 3 + (b - a) / 4 ≤ b - a := by omega
  have q1 : 2 ≤ (b - a) / 4 := by omega
  by_cases h50 : b - a ≥ 50
  ·rw [show decide (((b - a : Nat) : Int) ≥ 50) = true from decide_eq_true (by omega), cond_true]
   rw [if_pos h50] at hK
   have m1 : ∀ x sw, x + 1 < d.size → (Sort.medianAdjacent Sort.ltInt d x sw).1 < d.size := fun x sw hx => by
    rcases Sort.medianAdjacent_mem Sort.ltInt d x sw with e | e | e <;> rw [e] <;> omega
   have k1 := Sort.medianAdjacent_count Sort.ltInt d (a + (b - a) / 4 * 1) 0
   have l1 := m1 (a + (b - a) / 4 * 1) 0 (by omega)
   refine c_medianA hs1 (by omega) (by omega) hd (by omega) fun h2 hs2 => ?_
   generalize Sort.medianAdjacent Sort.ltInt d (a + (b - a) / 4 * 1) 0 = ri at hK k1 l1 hs2 ⊢
   have k2 := Sort.medianAdjacent_count Sort.ltInt d (a + (b - a) / 4 * 2) ri.2
   have l2 := m1 (a + (b - a) / 4 * 2) ri.2 (by omega)
   refine c_medianA hs2 (by omega) (by omega) hd (by omega) fun h3 hs3 => ?_
   generalize Sort.medianAdjacent Sort.ltInt d (a + (b - a) / 4 * 2) ri.2 = rj at hK k2 l2 hs3 ⊢
   have k3 := Sort.medianAdjacent_count Sort.ltInt d (a + (b - a) / 4 * 3) rj.2
   have l3 := m1 (a + (b - a) / 4 * 3) rj.2 (by omega)
   refine c_medianA hs3 (by omega) (by omega) hd (by omega) fun h4 hs4 => ?_
   generalize Sort.medianAdjacent Sort.ltInt d (a + (b - a) / 4 * 3) rj.2 = rk at hK k3 l3 hs4 ⊢
   unfold N80_j0
   refine c_median hs4 l1 l2 l3 (by omega) fun h5 hs5 => ?_
   exact pivot_end hs5 hK
  ·rw [show decide (((b - a : Nat) : Int) ≥ 50) = false from decide_eq_false (by omega), cond_false]
   rw [if_neg h50] at hK
   unfold N80_j0
   refine c_median hs1 (by omega) (by omega) (by omega) (by omega) fun h5 hs5 => ?_
   exact pivot_end hs5 hK
 ·rw [show decide (((b - a : Nat) : Int) ≥ 8) = false from decide_eq_false (by omega), cond_false]
  rw [if_neg h8] at hK
  exact pivot_end hs1 hK
theorem scanSorted_le (b : Nat) : ∀ (n i : Nat), b - i ≤ n → Sort.scanSorted Sort.ltInt d b i ≤ max i b ∧ i ≤ Sort.scanSorted Sort.ltInt d b i := by
 intro n
 induction n with
 | zero => intro i hn; rw [Sort.scanSorted, if_neg (by simp; omega)]; omega
 | succ n ih =>
  intro i hn
  rw [Sort.scanSorted]
  split
  ·rename_i h; simp at h; have := ih (i + 1) (by omega); omega
  ·omega
theorem pins_scan {a b : Int} {n i : Nat} {j : Int} {K : Int → Hp → Prop} (hb : b = n) (hs : Sat (L ++ [UA s d]) h) (hn : n ≤ d.size) (h1 : 1 ≤ i) (hi : i ≤ d.size + 1) (hd : d.size ≤ 1099511627776) (hK : K ((Sort.scanSorted Sort.ltInt d n i : Nat) : Int) h) : N82_l1 s a b j (i : Int) h K := by
 subst hb
 unfold N82_l1
 refine loopP_inv (fun (x : Int) hc => hc = h ∧ ∃ k : Nat, x = k ∧ 1 ≤ k ∧ k ≤ d.size + 1 ∧ Sort.scanSorted Sort.ltInt d n k = Sort.scanSorted Sort.ltInt d n i) (fun x _ => n - x.toNat) ?_ ⟨rfl, i, rfl, h1, hi, rfl⟩
 rintro x hc ⟨rfl, k, rfl, hk1, hk, hr⟩
 unfold N82_l1_B N82_l1_b
 dsimp only
 rw [Sort.scanSorted] at hr
 by_cases hkj : k < n
 ·rw [show decide ((k : Int) < (n : Int)) = true from decide_eq_true (by omega), cond_true]
  rw [wrn (n := (k : Int) - 1) (k := k - 1) (by omega) (by omega)]
  refine rdU hs rfl (by omega) ?_
  refine rdU hs rfl (by omega) ?_
  refine c_less ?_
  cases hl : Sort.ltInt d[k]! d[k - 1]! with
  | false =>
   rw [if_pos (by simp [hl, hkj])] at hr
   rw [Bool.not_false, cond_true, wrn (n := (k : Int) + 1) (k := k + 1) (by omega) (by omega)]
   exact ⟨⟨rfl, k + 1, rfl, by omega, by omega, hr⟩, by simp only [Int.toNat_natCast]; omega⟩
  | true =>
   rw [if_neg (by simp [hl])] at hr
   rw [Bool.not_true, cond_false, hr]; exact hK
 ·rw [show decide ((k : Int) < (n : Int)) = false from decide_eq_false (by omega), cond_false]
  rw [if_neg (by simp [hkj])] at hr
  rw [hr]; exact hK
theorem pins_dn {a b i : Int} {j : Int} {k0 : Nat} {K : Hp → Prop} (hs : Sat (L ++ [UA s d]) h) (hi : k0 < d.size) (hd : d.size ≤ 1099511627776) (hK : ∀ h', Sat (L ++ [UA s (Sort.shiftDown Sort.ltInt k0 d)]) h' → K h') : N82_l2 s a b i j (k0 : Int) h K := by
 unfold N82_l2
 refine loopP_inv (fun (x : Int) hc => ∃ (k : Nat) (e : Array Int), x = k ∧ k ≤ k0 ∧ Sort.shiftDown Sort.ltInt k e = Sort.shiftDown Sort.ltInt k0 d ∧ Sat (L ++ [UA s e]) hc) (fun x _ => x.toNat) ?_ ⟨k0, d, rfl, Nat.le_refl _, rfl, hs⟩
 have hn := uaN hs
 rintro x hc ⟨k, e, rfl, hk, hr, hs⟩
 have hn2 := uaN hs
 unfold N82_l2_B N82_l2_b
 dsimp only
 by_cases h1 : 1 ≤ k
 ·obtain ⟨q, rfl⟩ : ∃ q, k = q + 1 := ⟨k - 1, by omega⟩
  rw [show decide (((q + 1 : Nat) : Int) ≥ 1) = true from decide_eq_true (by omega), cond_true]
  rw [wrn (n := ((q + 1 : Nat) : Int) - 1) (k := q) (by omega) (by omega)]
  rw [Sort.shiftDown] at hr
  refine rdU hs rfl (by omega) ?_
  refine rdU hs rfl (by omega) ?_
  refine c_less ?_
  cases hl : Sort.ltInt e[q + 1]! e[q]! with
  | false =>
   rw [if_pos (by simp [hl])] at hr
   rw [Bool.not_false, cond_true]
   refine hK hc ?_
   rw [← hr]; exact hs
  | true =>
   rw [if_neg (by simp [hl])] at hr
   rw [Bool.not_true, cond_false]
   exact swU hs rfl rfl (by omega) (by omega) fun h2 hs2 => ⟨⟨q, _, rfl, by omega, hr, hs2⟩, by simp only [Int.toNat_natCast]; omega⟩
 ·rw [show decide ((k : Int) ≥ 1) = false from decide_eq_false (by omega), cond_false]
  refine hK hc ?_
  rw [← hr, show k = 0 by omega]; exact hs
theorem pins_up {a b i : Int} {j : Int} {n k0 : Nat} {K : Hp → Prop} (hb : b = n) (hs : Sat (L ++ [UA s d]) h) (hn : n ≤ d.size) (h1 : 1 ≤ k0) (hi : k0 ≤ d.size + 1) (hd : d.size ≤ 1099511627776) (hK : ∀ h', Sat (L ++ [UA s (Sort.shiftUp Sort.ltInt n k0 d)]) h' → K h') : N82_l4 s a b i j (k0 : Int) h K := by
 subst hb
 unfold N82_l4
 refine loopP_inv (fun (x : Int) hc => ∃ (k : Nat) (e : Array Int), x = k ∧ 1 ≤ k ∧ k ≤ d.size + 1 ∧ Sort.shiftUp Sort.ltInt n k e = Sort.shiftUp Sort.ltInt n k0 d ∧ Sat (L ++ [UA s e]) hc) (fun x _ => n - x.toNat) ?_ ⟨k0, d, rfl, h1, hi, rfl, hs⟩
 have hn0 := uaN hs
 rintro x hc ⟨k, e, rfl, hk1, hk, hr, hs⟩
 have hn2 := uaN hs
 unfold N82_l4_B N82_l4_b
 dsimp only
 rw [Sort.shiftUp] at hr
 by_cases hkn : k < n
 ·rw [if_pos hkn] at hr
  rw [show decide ((k : Int) < (n : Int)) = true from decide_eq_true (by omega), cond_true]
  rw [wrn (n := (k : Int) - 1) (k := k - 1) (by omega) (by omega)]
  refine rdU hs rfl (by omega) ?_
  refine rdU hs rfl (by omega) ?_
  refine c_less ?_
  cases hl : Sort.ltInt e[k]! e[k - 1]! with
  | false =>
   rw [if_pos (by simp [hl])] at hr
   rw [Bool.not_false, cond_true]
   refine hK hc ?_
   rw [← hr]; exact hs
  | true =>
   rw [if_neg (by simp [hl])] at hr
   rw [Bool.not_true, cond_false, wrn (n := (k : Int) + 1) (k := k + 1) (by omega) (by omega)]
   exact swU hs rfl rfl (by omega) (by omega) fun h2 hs2 => ⟨⟨k + 1, _, rfl, by omega, by omega, hr, hs2⟩, by simp only [Int.toNat_natCast]; omega⟩
 ·rw [if_neg hkn] at hr
  rw [show decide ((k : Int) < (n : Int)) = false from decide_eq_false (by omega), cond_false]
  refine hK hc ?_
  rw [← hr]; exact hs
theorem c_pins {a b : Nat} {K : Bool → Hp → Prop} (hs : Sat (L ++ [UA s d]) h) (hb : b ≤ d.size) (hab : a < b) (hd : d.size ≤ 1099511627776)
  (hK : ∀ h', Sat (L ++ [UA s (Sort.partialInsertionSort Sort.ltInt d a b).1]) h' → K (Sort.partialInsertionSort Sort.ltInt d a b).2 h') : C82 s (a : Int) (b : Int) h K := by
 apply S82; unfold N82 N82_l0
 rw [wrn (n := (a : Int) + 1) (k := a + 1) (by omega) (by omega)]
 unfold Sort.partialInsertionSort at hK
 have hn := uaN hs
 refine loopP_inv (fun (x : Int × Int) hc => ∃ (i j : Nat) (e : Array Int), x.1 = i ∧ x.2 = j ∧ 1 ≤ i ∧ a + 1 ≤ i ∧ i ≤ b ∧ j ≤ 5 ∧ Sort.partialIns Sort.ltInt a b (5 - j) i e = Sort.partialIns Sort.ltInt a b 5 (a + 1) d ∧ Sat (L ++ [UA s e]) hc) (fun x _ => 5 - x.2.toNat) ?_ ⟨a + 1, 0, d, rfl, rfl, by omega, by omega, by omega, by omega, rfl, hs⟩
 clear hs
 rintro ⟨x, y⟩ hc ⟨i, j, e, hx, hy, hi1, hai, hib, hj, hr, hs⟩
 simp only at hx hy
 subst hx hy
 have hn2 := uaN hs
 unfold N82_l0_B N82_l0_b
 dsimp only
 by_cases hj5 : j < 5
 ·rw [show decide ((j : Int) < 5) = true from decide_eq_true (by omega), cond_true]
  rw [show 5 - j = (4 - j) + 1 by omega, Sort.partialIns] at hr
  simp only at hr
  refine pins_scan rfl hs (by omega) hi1 (by omega) (by omega) ?_
  obtain ⟨u1, u2⟩ := scanSorted_le (d := e) b _ i (Nat.le_refl _)
  generalize Sort.scanSorted Sort.ltInt e b i = q at hr u1 u2 ⊢
  by_cases hq : q = b
  ·rw [if_pos hq] at hr
   rw [show ((q : Int) == (b : Int)) = true by simp [hq], cond_true]
   rw [← hr] at hK
   exact hK hc hs
  ·rw [if_neg hq] at hr
   rw [show ((q : Int) == (b : Int)) = false by simp; omega, cond_false]
   rw [wrn (n := (b : Int) - (a : Int)) (k := b - a) (by omega) (by omega)]
   by_cases h50 : b - a < 50
   ·rw [if_pos h50] at hr
    rw [show decide (((b - a : Nat) : Int) < 50) = true from decide_eq_true (by omega), cond_true]
    rw [← hr] at hK
    exact hK hc hs
   ·rw [if_neg h50] at hr
    rw [show decide (((b - a : Nat) : Int) < 50) = false from decide_eq_false (by omega), cond_false]
    rw [wrn (n := (q : Int) - 1) (k := q - 1) (by omega) (by omega)]
    refine swU hs rfl rfl (by omega) (by omega) fun h2 hs2 => ?_
    rw [wrn (n := (q : Int) - (a : Int)) (k := q - a) (by omega) (by omega)]
    have j3 : ∀ (e2 : Array Int) (hc : Hp), Sat (L ++ [UA s e2]) hc → Sort.partialIns Sort.ltInt a b (4 - j) q (if b - q ≥ 2 then Sort.shiftUp Sort.ltInt b (q + 1) e2 else e2) = Sort.partialIns Sort.ltInt a b 5 (a + 1) d →
      N82_j3 s (a : Int) (b : Int) (q : Int) (j : Int) hc (fun h4 => (∃ (i j' : Nat) (e : Array Int), (q : Int) = i ∧ IntKind.wrap .i64 ((j : Int) + 1) = j' ∧ 1 ≤ i ∧ a + 1 ≤ i ∧ i ≤ b ∧ j' ≤ 5 ∧ Sort.partialIns Sort.ltInt a b (5 - j') i e = Sort.partialIns Sort.ltInt a b 5 (a + 1) d ∧ Sat (L ++ [UA s e]) h4) ∧ 5 - (IntKind.wrap .i64 ((j : Int) + 1)).toNat < 5 - ((j : Nat) : Int).toNat) := by
     intro e2 hc hs2 hr2
     have hn3 := uaN hs2
     rw [wrn (n := (j : Int) + 1) (k := j + 1) (by omega) (by omega)]
     unfold N82_j3
     rw [wrn (n := (b : Int) - (q : Int)) (k := b - q) (by omega) (by omega)]
     by_cases h2 : b - q ≥ 2
     ·rw [if_pos h2] at hr2
      rw [show decide (((b - q : Nat) : Int) ≥ 2) = true from decide_eq_true (by omega), cond_true]
      rw [wrn (n := (q : Int) + 1) (k := q + 1) (by omega) (by omega)]
      refine pins_up rfl hs2 (by omega) (by omega) (by omega) (by omega) fun h4 hs4 => ?_
      exact ⟨⟨q, j + 1, _, rfl, rfl, by omega, by omega, by omega, by omega, by rw [show 5 - (j + 1) = 4 - j by omega]; exact hr2, hs4⟩, by simp only [Int.toNat_natCast]; omega⟩
     ·rw [if_neg h2] at hr2
      rw [show decide (((b - q : Nat) : Int) ≥ 2) = false from decide_eq_false (by omega), cond_false]
      exact ⟨⟨q, j + 1, _, rfl, rfl, by omega, by omega, by omega, by omega, by rw [show 5 - (j + 1) = 4 - j by omega]; exact hr2, hs2⟩, by simp only [Int.toNat_natCast]; omega⟩
    by_cases h2 : q - a ≥ 2
    ·rw [if_pos h2] at hr
     rw [show decide (((q - a : Nat) : Int) ≥ 2) = true from decide_eq_true (by omega), cond_true]
     have hn3 := uaN hs2
     refine pins_dn hs2 (by omega) (by omega) fun h3 hs3 => ?_
     exact j3 _ _ hs3 hr
    ·rw [if_neg h2] at hr
     rw [show decide (((q - a : Nat) : Int) ≥ 2) = false from decide_eq_false (by omega), cond_false]
     exact j3 _ _ hs2 hr
 ·rw [show decide ((j : Int) < 5) = false from decide_eq_false (by omega), cond_false]
  rw [show 5 - j = 0 by omega, Sort.partialIns] at hr
  rw [← hr] at hK
  exact hK hc hs
end
end Go.Proofs.Ytkfccpabigikkaa

set_option linter.unusedVariables false
set_option maxRecDepth 100000
namespace Go.Proofs.Ytkfccpabigikkaa
open Go Go.Hw
noncomputable def B75 : Code := match Try.f75.body with | some c => c | none => .skip
def N75_j3 (x0 : Sl) (x1 x2 x3 : Int) (x8 x9 : Bool) (x10 x11 : Int) (x68 : Bool) (h : Hp) (Kn Kr : Hp → Prop) : Prop :=
 bif x68 then
 C82 x0 x1 x2 h fun b0 h0 =>
 bif b0 then
 Kr h0
 else
 Kn h0
 else
 Kn h
noncomputable def N75_j3_t : Xf := pieceT [(0, .c (.slice)), (1, .c (.int .i64)), (2, .c (.int .i64)), (3, .c (.int .i64)), (8, .c (.bool)), (9, .c (.bool)), (10, .c (.int .i64)), (11, .c (.int .i64)), (68, .c (.bool))] (codeAt B75 [1, 1, 0, 0, 0, 1, 1, 1, 1, 1, 1, 0, 1]) fun x h Q => N75_j3 x.1 x.2.1 x.2.2.1 x.2.2.2.1 x.2.2.2.2.1 x.2.2.2.2.2.1 x.2.2.2.2.2.2.1 x.2.2.2.2.2.2.2.1 x.2.2.2.2.2.2.2.2 h (fun h' => Q .normal (Sg.env [] ()) h') (fun h' => Q .ret (Sg.env [] ()) h')
theorem N75_j3_ok : Sound Try.prog Try.f75.ntmps N75_j3_t (codeAt B75 [1, 1, 0, 0, 0, 1, 1, 1, 1, 1, 1, 0, 1]) := by
 refine piece_sound (fun e => match e with | .normal => [] | .ret => [] | _ => []) ?_
 intro x h Q hb
 refine den_sound hE hm _ .leaf _ _ _ (annOk_leaf) ?_
 refine cast ?_ hb
 kernel_rfl
def N75_j5 (x0 : Sl) (x1 x2 x3 : Int) (x8 x9 : Bool) (x10 x11 : Int) (x87 : Bool) (h : Hp) (K1 Kn : Int → Hp → Prop) : Prop :=
 bif x87 then
 C84 x0 x1 x2 x11 h fun n0 h0 =>
 K1 n0 h0
 else
 Kn x1 h
noncomputable def N75_j5_t : Xf := pieceT [(0, .c (.slice)), (1, .c (.int .i64)), (2, .c (.int .i64)), (3, .c (.int .i64)), (8, .c (.bool)), (9, .c (.bool)), (10, .c (.int .i64)), (11, .c (.int .i64)), (87, .c (.bool))] (codeAt B75 [1, 1, 0, 0, 0, 1, 1, 1, 1, 1, 1, 1, 0, 1]) fun x h Q => N75_j5 x.1 x.2.1 x.2.2.1 x.2.2.2.1 x.2.2.2.2.1 x.2.2.2.2.2.1 x.2.2.2.2.2.2.1 x.2.2.2.2.2.2.2.1 x.2.2.2.2.2.2.2.2 h (fun o0 h' => Q (.exit 1) (Sg.env [(1, .c (.int .i64))] o0) h') (fun o0 h' => Q .normal (Sg.env [(1, .c (.int .i64))] o0) h')
theorem N75_j5_ok : Sound Try.prog Try.f75.ntmps N75_j5_t (codeAt B75 [1, 1, 0, 0, 0, 1, 1, 1, 1, 1, 1, 1, 0, 1]) := by
 refine piece_sound (fun e => match e with | .exit 1 => [1] | .normal => [1] | _ => []) ?_
 intro x h Q hb
 refine den_sound hE hm _ .leaf _ _ _ (annOk_leaf) ?_
 refine cast ?_ hb
 kernel_rfl
def N75_j6 (x0 : Sl) (x1 x2 x3 x10 x11 : Int) (h : Hp) (Kn : Int → Int → Bool → Bool → Hp → Prop) : Prop :=
 C85 x0 x1 x2 x11 h fun n0 b0 h0 =>
 bif (decide ((IntKind.wrap .i64 (n0 - x1)) < (IntKind.wrap .i64 (x2 - n0)))) then
 C75 x0 x1 n0 x3 h0 fun h1 =>
 Kn (IntKind.wrap .i64 (n0 + 1)) x2 (decide ((IntKind.wrap .i64 (n0 - x1)) ≥ (IntKind.wrap .i64 (Int.tdiv x10 8)))) b0 h1
 else
 C75 x0 (IntKind.wrap .i64 (n0 + 1)) x2 x3 h0 fun h2 =>
 Kn x1 n0 (decide ((IntKind.wrap .i64 (x2 - n0)) ≥ (IntKind.wrap .i64 (Int.tdiv x10 8)))) b0 h2
noncomputable def N75_j6_t : Xf := pieceT [(0, .c (.slice)), (1, .c (.int .i64)), (2, .c (.int .i64)), (3, .c (.int .i64)), (10, .c (.int .i64)), (11, .c (.int .i64))] (codeAt B75 [1, 1, 0, 0, 0, 1, 1, 1, 1, 1, 1, 1, 1]) fun x h Q => N75_j6 x.1 x.2.1 x.2.2.1 x.2.2.2.1 x.2.2.2.2.1 x.2.2.2.2.2 h (fun o0 o1 o2 o3 h' => Q .normal (Sg.env [(1, .c (.int .i64)), (2, .c (.int .i64)), (8, .c (.bool)), (9, .c (.bool))] (o0, o1, o2, o3)) h')
theorem N75_j6_ok : Sound Try.prog Try.f75.ntmps N75_j6_t (codeAt B75 [1, 1, 0, 0, 0, 1, 1, 1, 1, 1, 1, 1, 1]) := by
 refine piece_sound (fun e => match e with | .normal => [1, 2, 8, 9] | _ => []) ?_
 intro x h Q hb
 refine den_sound hE hm _ .leaf _ _ _ (annOk_leaf) ?_
 refine cast ?_ hb
 kernel_rfl
def N75_j4 (x0 : Sl) (x1 x2 x3 : Int) (x8 x9 : Bool) (x10 x11 : Int) (h : Hp) (K1 Kn : Int → Int → Bool → Bool → Hp → Prop) : Prop :=
 bif (decide (x1 > 0)) then
 idx (IntKind.wrap .i64 (x1 - 1)) x0.n <|
 nn x0.p fun a0 =>
 xI .u32 (cell h (a0.add ((IntKind.wrap .i64 (x1 - 1)).toNat * 1))) fun n0 =>
 idx x11 x0.n <|
 nn x0.p fun a1 =>
 xI .u32 (cell h (a1.add (x11.toNat * 1))) fun n1 =>
 C83 n0 n1 h fun b0 h0 =>
 N75_j5 x0 x1 x2 x3 x8 x9 x10 x11 (!b0) h0
 (fun n2 h1 =>
 K1 n2 x2 x8 x9 h1)
 (fun n3 h2 =>
 N75_j6 x0 n3 x2 x3 x10 x11 h2
 (fun n4 n5 b1 b2 h3 =>
 Kn n4 n5 b1 b2 h3))
 else
 N75_j5 x0 x1 x2 x3 x8 x9 x10 x11 false h
 (fun n6 h4 =>
 K1 n6 x2 x8 x9 h4)
 (fun n7 h5 =>
 N75_j6 x0 n7 x2 x3 x10 x11 h5
 (fun n8 n9 b3 b4 h6 =>
 Kn n8 n9 b3 b4 h6))
noncomputable def N75_j4_t : Xf := pieceT [(0, .c (.slice)), (1, .c (.int .i64)), (2, .c (.int .i64)), (3, .c (.int .i64)), (8, .c (.bool)), (9, .c (.bool)), (10, .c (.int .i64)), (11, .c (.int .i64))] (codeAt B75 [1, 1, 0, 0, 0, 1, 1, 1, 1, 1, 1, 1]) fun x h Q => N75_j4 x.1 x.2.1 x.2.2.1 x.2.2.2.1 x.2.2.2.2.1 x.2.2.2.2.2.1 x.2.2.2.2.2.2.1 x.2.2.2.2.2.2.2 h (fun o0 o1 o2 o3 h' => Q (.exit 1) (Sg.env [(1, .c (.int .i64)), (2, .c (.int .i64)), (8, .c (.bool)), (9, .c (.bool))] (o0, o1, o2, o3)) h') (fun o0 o1 o2 o3 h' => Q .normal (Sg.env [(1, .c (.int .i64)), (2, .c (.int .i64)), (8, .c (.bool)), (9, .c (.bool))] (o0, o1, o2, o3)) h')
theorem N75_j4_ok : Sound Try.prog Try.f75.ntmps N75_j4_t (codeAt B75 [1, 1, 0, 0, 0, 1, 1, 1, 1, 1, 1, 1]) := by
 refine piece_sound (fun e => match e with | .exit 1 => [1, 2, 8, 9] | .normal => [1, 2, 8, 9] | _ => []) ?_
 intro x h Q hb
 refine den_sound hE hm _ (.two (.two (.ord [0, 1, 2, 3, 4, 5, 6, 7, 8, 9, 10, 11, 12, 13, 14]) (.xf N75_j5_t)) (.xf N75_j6_t)) _ _ _ (⟨⟨trivial, N75_j5_ok⟩, N75_j6_ok⟩) ?_
 refine cast ?_ hb
 kernel_rfl
def N75_j2 (x0 : Sl) (x1 x2 x3 : Int) (x8 x9 : Bool) (x10 x11 x12 : Int) (h : Hp) (K1 Kn : Int → Int → Bool → Bool → Hp → Prop) (Kr : Hp → Prop) : Prop :=
 bif x8 then
 bif x9 then
 N75_j3 x0 x1 x2 x3 x8 x9 x10 x11 (x12 == 1) h
 (fun h0 =>
 N75_j4 x0 x1 x2 x3 x8 x9 x10 x11 h0
 (fun n0 n1 b0 b1 h1 =>
 K1 n0 n1 b0 b1 h1)
 (fun n2 n3 b2 b3 h2 =>
 Kn n2 n3 b2 b3 h2))
 (fun h3 =>
 Kr h3)
 else
 N75_j3 x0 x1 x2 x3 x8 x9 x10 x11 false h
 (fun h4 =>
 N75_j4 x0 x1 x2 x3 x8 x9 x10 x11 h4
 (fun n4 n5 b4 b5 h5 =>
 K1 n4 n5 b4 b5 h5)
 (fun n6 n7 b6 b7 h6 =>
 Kn n6 n7 b6 b7 h6))
 (fun h7 =>
 Kr h7)
 else
 N75_j3 x0 x1 x2 x3 x8 x9 x10 x11 false h
 (fun h8 =>
 N75_j4 x0 x1 x2 x3 x8 x9 x10 x11 h8
 (fun n8 n9 b8 b9 h9 =>
 K1 n8 n9 b8 b9 h9)
 (fun n10 n11 b10 b11 h10 =>
 Kn n10 n11 b10 b11 h10))
 (fun h11 =>
 Kr h11)
noncomputable def N75_j2_t : Xf := pieceT [(0, .c (.slice)), (1, .c (.int .i64)), (2, .c (.int .i64)), (3, .c (.int .i64)), (8, .c (.bool)), (9, .c (.bool)), (10, .c (.int .i64)), (11, .c (.int .i64)), (12, .c (.int .i64))] (codeAt B75 [1, 1, 0, 0, 0, 1, 1, 1, 1, 1, 1]) fun x h Q => N75_j2 x.1 x.2.1 x.2.2.1 x.2.2.2.1 x.2.2.2.2.1 x.2.2.2.2.2.1 x.2.2.2.2.2.2.1 x.2.2.2.2.2.2.2.1 x.2.2.2.2.2.2.2.2 h (fun o0 o1 o2 o3 h' => Q (.exit 1) (Sg.env [(1, .c (.int .i64)), (2, .c (.int .i64)), (8, .c (.bool)), (9, .c (.bool))] (o0, o1, o2, o3)) h') (fun o0 o1 o2 o3 h' => Q .normal (Sg.env [(1, .c (.int .i64)), (2, .c (.int .i64)), (8, .c (.bool)), (9, .c (.bool))] (o0, o1, o2, o3)) h') (fun h' => Q .ret (Sg.env [] ()) h')
theorem N75_j2_ok : Sound Try.prog Try.f75.ntmps N75_j2_t (codeAt B75 [1, 1, 0, 0, 0, 1, 1, 1, 1, 1, 1]) := by
 refine piece_sound (fun e => match e with | .exit 1 => [1, 2, 8, 9] | .normal => [1, 2, 8, 9] | .ret => [] | _ => []) ?_
 intro x h Q hb
 refine den_sound hE hm _ (.two (.two .leaf (.xf N75_j3_t)) (.xf N75_j4_t)) _ _ _ (⟨⟨annOk_leaf, N75_j3_ok⟩, N75_j4_ok⟩) ?_
 refine cast ?_ hb
 kernel_rfl
def N75_j1 (x0 : Sl) (x1 x2 x3 : Int) (x8 x9 : Bool) (x10 : Int) (h : Hp) (K1 Kn : Int → Int → Bool → Bool → Hp → Prop) (Kr : Hp → Prop) : Prop :=
 C80 x0 x1 x2 h fun n0 n1 h0 =>
 bif (n1 == 2) then
 C81 x0 x1 x2 h0 fun h1 =>
 N75_j2 x0 x1 x2 x3 x8 x9 x10 (IntKind.wrap .i64 ((IntKind.wrap .i64 (x2 - 1)) - (IntKind.wrap .i64 (n0 - x1)))) 1 h1
 (fun n2 n3 b0 b1 h2 =>
 K1 n2 n3 b0 b1 h2)
 (fun n4 n5 b2 b3 h3 =>
 Kn n4 n5 b2 b3 h3)
 (fun h4 =>
 Kr h4)
 else
 N75_j2 x0 x1 x2 x3 x8 x9 x10 n0 n1 h0
 (fun n6 n7 b4 b5 h5 =>
 K1 n6 n7 b4 b5 h5)
 (fun n8 n9 b6 b7 h6 =>
 Kn n8 n9 b6 b7 h6)
 (fun h7 =>
 Kr h7)
noncomputable def N75_j1_t : Xf := pieceT [(0, .c (.slice)), (1, .c (.int .i64)), (2, .c (.int .i64)), (3, .c (.int .i64)), (8, .c (.bool)), (9, .c (.bool)), (10, .c (.int .i64))] (codeAt B75 [1, 1, 0, 0, 0, 1, 1, 1, 1]) fun x h Q => N75_j1 x.1 x.2.1 x.2.2.1 x.2.2.2.1 x.2.2.2.2.1 x.2.2.2.2.2.1 x.2.2.2.2.2.2 h (fun o0 o1 o2 o3 h' => Q (.exit 1) (Sg.env [(1, .c (.int .i64)), (2, .c (.int .i64)), (8, .c (.bool)), (9, .c (.bool))] (o0, o1, o2, o3)) h') (fun o0 o1 o2 o3 h' => Q .normal (Sg.env [(1, .c (.int .i64)), (2, .c (.int .i64)), (8, .c (.bool)), (9, .c (.bool))] (o0, o1, o2, o3)) h') (fun h' => Q .ret (Sg.env [] ()) h')
theorem N75_j1_ok : Sound Try.prog Try.f75.ntmps N75_j1_t (codeAt B75 [1, 1, 0, 0, 0, 1, 1, 1, 1]) := by
 refine piece_sound (fun e => match e with | .exit 1 => [1, 2, 8, 9] | .normal => [1, 2, 8, 9] | .ret => [] | _ => []) ?_
 intro x h Q hb
 refine den_sound hE hm _ (.two .leaf (.two .leaf (.xf N75_j2_t))) _ _ _ (⟨annOk_leaf, ⟨annOk_leaf, N75_j2_ok⟩⟩) ?_
 refine cast ?_ hb
 kernel_rfl
def N75_l0_b (x0 : Sl) (Φ : Int → Int → Int → Bool → Bool → Hp → Prop) (x1 x2 x3 : Int) (x8 x9 : Bool) (h : Hp) (Kr : Hp → Prop) : Prop :=
 bif (decide ((IntKind.wrap .i64 (x2 - x1)) ≤ 12)) then
 C77 x0 x1 x2 h fun h0 =>
 Kr h0
 else
 bif (x3 == 0) then
 C78 x0 x1 x2 h fun h1 =>
 Kr h1
 else
 bif (!x8) then
 C79 x0 x1 x2 h fun h2 =>
 N75_j1 x0 x1 x2 (IntKind.wrap .i64 (x3 - 1)) x8 x9 (IntKind.wrap .i64 (x2 - x1)) h2
 (fun n0 n1 b0 b1 h3 =>
 Φ n0 n1 (IntKind.wrap .i64 (x3 - 1)) b0 b1 h3)
 (fun n2 n3 b2 b3 h4 =>
 Φ n2 n3 (IntKind.wrap .i64 (x3 - 1)) b2 b3 h4)
 (fun h5 =>
 Kr h5)
 else
 N75_j1 x0 x1 x2 x3 x8 x9 (IntKind.wrap .i64 (x2 - x1)) h
 (fun n4 n5 b4 b5 h6 =>
 Φ n4 n5 x3 b4 b5 h6)
 (fun n6 n7 b6 b7 h7 =>
 Φ n6 n7 x3 b6 b7 h7)
 (fun h8 =>
 Kr h8)
def N75_l0_B (x0 : Sl) (Kr : Hp → Prop) (s : Sg.T [(1, .c (.int .i64)), (2, .c (.int .i64)), (3, .c (.int .i64)), (8, .c (.bool)), (9, .c (.bool))]) (h : Hp) (Φ : Sg.T [(1, .c (.int .i64)), (2, .c (.int .i64)), (3, .c (.int .i64)), (8, .c (.bool)), (9, .c (.bool))] → Hp → Prop) : Prop :=
 N75_l0_b x0 (fun x1 x2 x3 x8 x9 h => Φ (x1, x2, x3, x8, x9) h) s.1 s.2.1 s.2.2.1 s.2.2.2.1 s.2.2.2.2 h Kr
def N75_l0 (x0 : Sl) (x1 x2 x3 : Int) (x8 x9 : Bool) (h : Hp) (Kr : Hp → Prop) : Prop :=
 loopP (N75_l0_B x0 Kr) (x1, x2, x3, x8, x9) h
noncomputable def N75_l0_t : Xf := loopT [(0, .c (.slice))] [(1, .c (.int .i64)), (2, .c (.int .i64)), (3, .c (.int .i64)), (8, .c (.bool)), (9, .c (.bool))] (codeAt B75 [1, 1, 0, 0]) fun F Q => N75_l0_B F (fun h' => Q .ret (Sg.env [] ()) h')
theorem N75_l0_ok : Sound Try.prog Try.f75.ntmps N75_l0_t (codeAt B75 [1, 1, 0]) := by
 refine loop_sound (fun e => match e with | .ret => [] | _ => []) (by kernel_rfl) ?_
 intro F Q s h Φ hb
 refine den_sound hE hm _ (.one (.two .leaf (.two .leaf (.two .leaf (.two .leaf (.xf N75_j1_t)))))) _ _ _ (⟨annOk_leaf, ⟨annOk_leaf, ⟨annOk_leaf, ⟨annOk_leaf, N75_j1_ok⟩⟩⟩⟩) ?_
 refine cast ?_ hb
 kernel_rfl
def N75 (x0 : Sl) (x1 x2 x3 : Int) (h : Hp) (K : Hp → Prop) : Prop :=
 N75_l0 x0 x1 x2 x3 true true h
 (fun h0 =>
 K h0)
theorem S75 {x0 : Sl} {x1 x2 x3 : Int} {h : Hp} {K : Hp → Prop} (hn : N75 x0 x1 x2 x3 h K) : C75 x0 x1 x2 x3 h K := by
 refine calls_of_D Try.func75 (c := B75) rfl (by kernel_rfl) ?_
 refine den_sound hE hm _ (.two .leaf (.two .leaf (.one (.xf N75_l0_t)))) _ _ _ (⟨annOk_leaf, ⟨annOk_leaf, N75_l0_ok⟩⟩) ?_
 refine cast ?_ hn
 kernel_rfl
end Go.Proofs.Ytkfccpabigikkaa

set_option linter.unusedVariables false
set_option maxRecDepth 100000
namespace Go.Proofs.Ytkfccpabigikkaa
open Go Go.Hw
noncomputable def B71 : Code := match Try.f71.body with | some c => c | none => .skip
def N71 (x0 : Sl) (h : Hp) (K : Hp → Prop) : Prop :=
 C76 (IntKind.wrap .u64 ((x0.n : Nat) : Int)) h fun n0 h0 =>
 C75 x0 0 ((x0.n : Nat) : Int) n0 h0 fun h1 =>
 K h1
theorem S71 {x0 : Sl} {h : Hp} {K : Hp → Prop} (hn : N71 x0 h K) : C71 x0 h K := by
 refine calls_of_D Try.func71 (c := B71) rfl (by kernel_rfl) ?_
 refine den_sound hE hm _ .leaf _ _ _ (annOk_leaf) ?_
 refine cast ?_ hn
 kernel_rfl
end Go.Proofs.Ytkfccpabigikkaa

/-
 The sort of a row of uint32, fifth part: the broken patterns, pdqsort, slices.Sort.
-/
set_option linter.unusedSimpArgs false
set_option linter.unusedVariables false
namespace Go.Proofs.Ytkfccpabigikkaa
open Go Go.Hw
set_option maxRecDepth 100000 in
theorem len_tab : ∀ n < 256, ∀ (h : Hp) (K : Int → Hp → Prop), K ((Sort.bitsLen n : Nat) : Int) h → N87_j2 ((n : Nat) : Int) 0 h K := by
 intro n hn h K hK
 unfold N87_j2
 have key : ∀ n < 256, IntKind.wrap .i64 (0 + IntKind.wrap .i64 (sbyte (⟨⟨[0, 1, 2, 2, 3, 3, 3, 3, 4, 4, 4, 4, 4, 4, 4, 4, 5, 5, 5, 5, 5, 5, 5, 5, 5, 5, 5, 5, 5, 5, 5, 5, 6, 6, 6, 6, 6, 6, 6, 6, 6, 6, 6, 6, 6, 6, 6, 6, 6, 6, 6, 6, 6, 6, 6, 6, 6, 6, 6, 6, 6, 6, 6, 6, 7, 7, 7, 7, 7, 7, 7, 7, 7, 7, 7, 7, 7, 7, 7, 7, 7, 7, 7, 7, 7, 7, 7, 7, 7, 7, 7, 7, 7, 7, 7, 7, 7, 7, 7, 7, 7, 7, 7, 7, 7, 7, 7, 7, 7, 7, 7, 7, 7, 7, 7, 7, 7, 7, 7, 7, 7, 7, 7, 7, 7, 7, 7, 7, 8, 8, 8, 8, 8, 8, 8, 8, 8, 8, 8, 8, 8, 8, 8, 8, 8, 8, 8, 8, 8, 8, 8, 8, 8, 8, 8, 8, 8, 8, 8, 8, 8, 8, 8, 8, 8, 8, 8, 8, 8, 8, 8, 8, 8, 8, 8, 8, 8, 8, 8, 8, 8, 8, 8, 8, 8, 8, 8, 8, 8, 8, 8, 8, 8, 8, 8, 8, 8, 8, 8, 8, 8, 8, 8, 8, 8, 8, 8, 8, 8, 8, 8, 8, 8, 8, 8, 8, 8, 8, 8, 8, 8, 8, 8, 8, 8, 8, 8, 8, 8, 8, 8, 8, 8, 8, 8, 8, 8, 8, 8, 8, 8, 8, 8, 8, 8, 8, 8, 8, 8, 8, 8, 8, 8, 8, 8, 8]⟩⟩ : ByteArray) (IntKind.wrap .u8 ((n : Nat) : Int)))) = ((Sort.bitsLen n : Nat) : Int) ∧ (0 ≤ IntKind.wrap .u8 ((n : Nat) : Int) ∧ IntKind.wrap .u8 ((n : Nat) : Int) < 256) := by
  decide +kernel
 obtain ⟨k1, k2, k3⟩ := key n hn
 refine idx_of k2 ?_ ?_
 ·exact k3
 ·rw [k1]; exact hK
set_option maxRecDepth 100000 in
theorem c_len {n : Nat} {h : Hp} {K : Int → Hp → Prop} (hn : n < 256) (hK : K ((Sort.bitsLen n : Nat) : Int) h) : C76 (n : Int) h K := by
 apply S76; unfold N76
 apply S87; unfold N87 N87_j0 N87_j1
 rw [show decide ((n : Int) ≥ 4294967296) = false from decide_eq_false (by omega), cond_false]
 rw [show decide ((n : Int) ≥ 65536) = false from decide_eq_false (by omega), cond_false]
 rw [show decide ((n : Int) ≥ 256) = false from decide_eq_false (by omega), cond_false]
 exact len_tab n hn h K hK
theorem wu64 {n : Int} {k : Nat} (h : n = k) (hk : k < 18446744073709551616) : IntKind.wrap .u64 n = (k : Int) := by
 subst h
 show ((k : Int) % 18446744073709551616) = k
 omega
theorem c_np2 {n : Nat} {h : Hp} {K : Int → Hp → Prop} (hn : n < 256) (hK : K ((1 <<< Sort.bitsLen n : Nat) : Int) h) : C89 (n : Int) h K := by
 apply S89; unfold N89
 rw [wu64 (n := (n : Int)) (k := n) rfl (by omega)]
 refine c_len hn ?_
 have hb : Sort.bitsLen n ≤ 8 := (Sort.bitsLen_le_iff n 8).2 (by omega)
 rw [show decide (((Sort.bitsLen n : Nat) : Int) < 0) = false from decide_eq_false (by omega), cond_false]
 rw [Int.toNat_natCast, Nat.min_eq_left (by omega)]
 have hp : 2 ^ Sort.bitsLen n ≤ 2 ^ 8 := Nat.pow_le_pow_right (by omega) hb
 rw [wu64 (k := 1 <<< Sort.bitsLen n) ?_ ?_]
 ·exact hK
 ·rw [Nat.shiftLeft_eq]; simp
 ·rw [Nat.shiftLeft_eq]; omega
theorem xor_nat {x y : Nat} (hx : x < 18446744073709551616) (hy : y < 18446744073709551616) : IntKind.wrap .u64 (((BitVec.ofInt 64 (x : Int) ^^^ BitVec.ofInt 64 (y : Int)).toNat : Nat) : Int) = ((x ^^^ y : Nat) : Int) := by
 rw [BitVec.toNat_xor, BitVec.toNat_ofInt, BitVec.toNat_ofInt]
 have e : (((x : Int) % (2 ^ 64 : Nat)).toNat) = x := by rw [show ((2 ^ 64 : Nat) : Int) = 18446744073709551616 from rfl]; omega
 have e2 : (((y : Int) % (2 ^ 64 : Nat)).toNat) = y := by rw [show ((2 ^ 64 : Nat) : Int) = 18446744073709551616 from rfl]; omega
 rw [e, e2]
 exact wu64 rfl (Nat.xor_lt_two_pow (n := 64) hx hy)
theorem and_nat {x y : Nat} (hx : x < 18446744073709551616) (hy : y < 18446744073709551616) : IntKind.wrap .u64 (((BitVec.ofInt 64 (x : Int) &&& BitVec.ofInt 64 (y : Int)).toNat : Nat) : Int) = ((x &&& y : Nat) : Int) := by
 rw [BitVec.toNat_and, BitVec.toNat_ofInt, BitVec.toNat_ofInt]
 have e : (((x : Int) % (2 ^ 64 : Nat)).toNat) = x := by rw [show ((2 ^ 64 : Nat) : Int) = 18446744073709551616 from rfl]; omega
 have e2 : (((y : Int) % (2 ^ 64 : Nat)).toNat) = y := by rw [show ((2 ^ 64 : Nat) : Int) = 18446744073709551616 from rfl]; omega
 rw [e, e2]
 exact wu64 rfl (Nat.lt_of_le_of_lt Nat.and_le_left hx)
theorem shl_nat {x k : Nat} : IntKind.wrap .u64 ((x : Int) * 2 ^ k) = ((x * 2 ^ k % 18446744073709551616 : Nat) : Int) := by
 show (((x : Int) * 2 ^ k) % 18446744073709551616) = _
 rw [show ((x : Int) * 2 ^ k) = ((x * 2 ^ k : Nat) : Int) by simp]
 omega
section
variable {L : List Asn} {s : Sl} {d : Array Int} {h : Hp} {b0 : Nat}
abbrev XA (b0 : Nat) (r : Nat) : Asn := row b0 129 [.int .u64 (r : Int)]
theorem c_xnext {r : Nat} {K : Int → Hp → Prop} (hs : Sat (L ++ [XA b0 r, UA s d]) h) (hr : r < 18446744073709551616) (hK : ∀ h', Sat (L ++ [XA b0 (Sort.xorNextN r), UA s d]) h' → K ((Sort.xorNextN r : Nat) : Int) h') : C90 (some (bk b0)) h K := by
 apply S90; unfold N90
 simp only [nn_some']
 refine hs.lI 0 rfl rfl ?_
 refine hs.lI 0 rfl rfl ?_
 rw [shl_nat, xor_nat hr (by omega)]
 have ha : r ^^^ (r * 2 ^ 13 % 18446744073709551616) < 2 ^ 64 := Nat.xor_lt_two_pow hr (by omega)
 refine hs.st 0 rfl (by simp) rfl ?_
 intro h1 hs1
 have hs1 : Sat (L ++ [XA b0 (r ^^^ (r * 2 ^ 13 % 18446744073709551616)), UA s d]) h1 := hs1
 have e1 : Sort.xorNextN r = ((r ^^^ (r * 2 ^ 13 % 18446744073709551616)) ^^^ ((r ^^^ (r * 2 ^ 13 % 18446744073709551616)) / 2 ^ 7)) ^^^ (((r ^^^ (r * 2 ^ 13 % 18446744073709551616)) ^^^ ((r ^^^ (r * 2 ^ 13 % 18446744073709551616)) / 2 ^ 7)) * 2 ^ 17 % 18446744073709551616) := rfl
 rw [e1] at hK
 generalize r ^^^ (r * 2 ^ 13 % 18446744073709551616) = A at hK ha hs1
 refine hs1.lI 0 rfl rfl ?_
 refine hs1.lI 0 rfl rfl ?_
 have e2 : Int.fdiv (A : Int) (2 ^ 7) = ((A / 2 ^ 7 : Nat) : Int) := by
  rw [Int.fdiv_eq_ediv_of_nonneg _ (by decide)]; rfl
 rw [e2, xor_nat ha (by omega)]
 have hb : A ^^^ (A / 2 ^ 7) < 2 ^ 64 := Nat.xor_lt_two_pow ha (by omega)
 refine hs1.st 0 rfl (by simp) rfl ?_
 intro h2 hs2
 have hs2 : Sat (L ++ [XA b0 (A ^^^ (A / 2 ^ 7)), UA s d]) h2 := hs2
 generalize A ^^^ (A / 2 ^ 7) = B at hK hb hs2
 refine hs2.lI 0 rfl rfl ?_
 refine hs2.lI 0 rfl rfl ?_
 rw [shl_nat, xor_nat hb (by omega)]
 refine hs2.st 0 rfl (by simp) rfl ?_
 intro h3 hs3
 refine Sat.lI hs3 0 rfl rfl ?_
 exact hK h3 hs3
theorem brk_j1 {a o i : Nat} {len mo oo : Int} {x : Option Addr} {K : Hp → Prop} (hs : Sat (L ++ [UA s d]) h) (hi : i < d.size) (ho : a + o < d.size) (hd : d.size ≤ 255) (hoo : oo = o)
  (hK : ∀ h', Sat (L ++ [UA s (Sort.swp d i (a + o))]) h' → K h') : N79_j1 s (a : Int) len x mo (i : Int) oo h K := by
 subst hoo
 unfold N79_j1
 rw [wrn (n := (a : Int) + (o : Int)) (k := a + o) (by omega) (by omega)]
 exact swU hs rfl rfl hi ho hK
def brks (a L M : Nat) : Nat → UInt64 × Array Int → Nat → UInt64 × Array Int
 | 0, st, _ => st
 | k + 1, st, i => brks a L M k (Sort.breakStep a L M st i) (i + 1)
theorem c_brk {a b : Nat} {K : Hp → Prop} (hs : Sat (L ++ [UA s d]) h) (hb : b ≤ d.size) (hab : a < b) (hd : d.size ≤ 255)
  (hK : ∀ h', Sat (L ++ [UA s (Sort.breakPatterns d a b)]) h' → K h') : C79 s (a : Int) (b : Int) h K := by
 apply S79; unfold N79
 rw [wrn (n := (b : Int) - (a : Int)) (k := b - a) (by omega) (by omega)]
 unfold Sort.breakPatterns at hK
 simp only at hK
 by_cases h8 : b - a ≥ 8
 ·rw [if_pos h8] at hK
  rw [show decide (((b - a : Nat) : Int) ≥ 8) = true from decide_eq_true (by omega), cond_true]
  intro b0 e0
  have hs1 := (hs.new e0 (.cells ⟨[.int .u64 ((0 : Nat) : Int)]⟩ 129 (0, 0))).sel [1, 0] (by decide) (M' := [XA b0 0, UA s d]) rfl
  revert hs1
  have e1 : (Obj.cells ⟨[.int .u64 0]⟩ 129 (0, 0)) = (Obj.cells ⟨[.int .u64 ((0 : Nat) : Int)]⟩ 129 (0, 0)) := rfl
  rw [e1]
  generalize upd h b0 _ = h1
  intro hs1
  rw [wu64 (n := ((b - a : Nat) : Int)) (k := b - a) rfl (by omega)]
  refine hs1.st 0 (k := 0) rfl (by simp) rfl ?_
  intro h2 hs2
  have hs2 : Sat (L ++ [XA b0 (b - a), UA s d]) h2 := hs2
  refine c_np2 (by omega) ?_
  have hM : 1 <<< Sort.bitsLen (b - a) = 2 ^ Sort.bitsLen (b - a) := by rw [Nat.shiftLeft_eq]; simp
  have hM2 := Sort.two_pow_bitsLen_le (n := b - a) (by omega)
  rw [← hM] at hM2
  have hM3 : 0 < 1 <<< Sort.bitsLen (b - a) := by rw [hM]; exact Nat.two_pow_pos _
  generalize 1 <<< Sort.bitsLen (b - a) = M at hK hM2 hM3 ⊢
  have w1 : Int.tdiv ((b - a : Nat) : Int) 4 = (((b - a) / 4 : Nat) : Int) := rfl
  rw [w1, wrn (n := (((b - a) / 4 : Nat) : Int)) rfl (by omega), wrn (n := (((b - a) / 4 : Nat) : Int) * 2) (k := (b - a) / 4 * 2) (by omega) (by omega), wrn (n := (a : Int) + (((b - a) / 4 * 2 : Nat) : Int)) (k := a + (b - a) / 4 * 2) (by omega) (by omega),
   wrn (n := ((a + (b - a) / 4 * 2 : Nat) : Int) - 1) (k := a + (b - a) / 4 * 2 - 1) (by omega) (by omega)]
  unfold N79_l0
  have hr0 : (UInt64.ofNat (b - a)).toNat = b - a := by simp; omega
  refine loopP_inv (fun (x : Int) hc => ∃ (t : Nat) (r : UInt64) (e : Array Int), t ≤ 3 ∧ x = ((a + (b - a) / 4 * 2 - 1 + t : Nat) : Int) ∧ brks a (b - a) M (3 - t) (r, e) (a + (b - a) / 4 * 2 - 1 + t) = brks a (b - a) M 3 (UInt64.ofNat (b - a), d) (a + (b - a) / 4 * 2 - 1) ∧ Sat (L ++ [XA b0 r.toNat, UA s e]) hc) (fun x _ => a + (b - a) / 4 * 2 + 2 - x.toNat) ?_ ⟨0, UInt64.ofNat (b - a), d, by omega, rfl, rfl, by rw [hr0]; exact hs2⟩
  have hn := uaN hs
  clear hs hs1 hs2
  rintro x hc ⟨t, r, e, ht, rfl, hr, hs⟩
  have hs' : Sat ((L ++ [XA b0 r.toNat]) ++ [UA s e]) hc := Sat.csa hs
  have hn2 := uaN hs'
  unfold N79_l0_B N79_l0_b
  dsimp only
  rw [w1, wrn (n := (((b - a) / 4 : Nat) : Int)) rfl (by omega), wrn (n := (((b - a) / 4 : Nat) : Int) * 2) (k := (b - a) / 4 * 2) (by omega) (by omega), wrn (n := (a : Int) + (((b - a) / 4 * 2 : Nat) : Int)) (k := a + (b - a) / 4 * 2) (by omega) (by omega),
   wrn (n := ((a + (b - a) / 4 * 2 : Nat) : Int) + 1) (k := a + (b - a) / 4 * 2 + 1) (by omega) (by omega)]
  by_cases ht3 : t < 3
  ·rw [show decide (((a + (b - a) / 4 * 2 - 1 + t : Nat) : Int) ≤ ((a + (b - a) / 4 * 2 + 1 : Nat) : Int)) = true from decide_eq_true (by omega), cond_true]
   have hrlt : r.toNat < 18446744073709551616 := r.toNat_lt
   refine c_xnext hs hrlt fun h3 hs3 => ?_
   rw [show 3 - t = (2 - t) + 1 by omega, brks] at hr
   unfold Sort.breakStep at hr
   simp only [Sort.xorNext_toNat] at hr
   have hx := Sort.xorNextN_lt r.toNat hrlt
   rw [← Sort.xorNext_toNat] at hx hr hs3 ⊢
   rw [wu64 (n := (M : Int) - 1) (k := M - 1) (by omega) (by omega), and_nat hx (by omega)]
   have ho : (Sort.xorNext r).toNat &&& (M - 1) ≤ M - 1 := Nat.and_le_right
   generalize (Sort.xorNext r).toNat &&& (M - 1) = o at hr ho ⊢
   rw [wrn (n := (o : Int)) rfl (by omega)]
   have hs4 : Sat ((L ++ [XA b0 (Sort.xorNext r).toNat]) ++ [UA s e]) h3 := Sat.csa hs3
   rw [wrn (n := ((a + (b - a) / 4 * 2 - 1 + t : Nat) : Int) + 1) (k := a + (b - a) / 4 * 2 - 1 + (t + 1)) (by omega) (by omega)]
   by_cases hol : o ≥ b - a
   ·rw [if_pos hol] at hr
    rw [show decide ((o : Int) ≥ ((b - a : Nat) : Int)) = true from decide_eq_true (by omega), cond_true]
    refine brk_j1 (o := o - (b - a)) hs4 (by omega) (by omega) (by omega) (wrn (by omega) (by omega)) fun h5 hs5 => ?_
    exact ⟨⟨t + 1, _, _, by omega, rfl, by rw [show 3 - (t + 1) = 2 - t by omega]; exact hr, Sat.asc hs5⟩, by simp only [Int.toNat_natCast]; omega⟩
   ·rw [if_neg hol] at hr
    rw [show decide ((o : Int) ≥ ((b - a : Nat) : Int)) = false from decide_eq_false (by omega), cond_false]
    refine brk_j1 (o := o) hs4 (by omega) (by omega) (by omega) rfl fun h5 hs5 => ?_
    exact ⟨⟨t + 1, _, _, by omega, rfl, by rw [show 3 - (t + 1) = 2 - t by omega]; exact hr, Sat.asc hs5⟩, by simp only [Int.toNat_natCast]; omega⟩
  ·rw [show decide (((a + (b - a) / 4 * 2 - 1 + t : Nat) : Int) ≤ ((a + (b - a) / 4 * 2 + 1 : Nat) : Int)) = false from decide_eq_false (by omega), cond_false]
   refine hK hc ?_
   rw [show 3 - t = 0 by omega, brks] at hr
   have hr2 := congrArg Prod.snd hr
   simp only [brks] at hr2
   rw [← hr2]
   exact hs'.mv (C := []) (by rfl) |> fun _ => hs.sel [1] (by decide) rfl
 ·rw [if_neg h8] at hK
  rw [show decide (((b - a : Nat) : Int) ≥ 8) = false from decide_eq_false (by omega), cond_false]
  exact hK h hs
end
end Go.Proofs.Ytkfccpabigikkaa

/-
  The sort of a row of uint32, sixth part: pdqsort, slices.Sort: the row is the sorted one.
-/
set_option linter.unusedSimpArgs false
set_option linter.unusedVariables false
namespace Go.Proofs.Ytkfccpabigikkaa
open Go Go.Hw
theorem partEq_range (a b : Nat) : ∀ (n i j : Nat) (d : Array Int), j + 1 - i ≤ n → a < i → i ≤ b → j + 1 ≤ b → a < (Sort.partEqLoop Sort.ltInt a i j d).1 ∧ (Sort.partEqLoop Sort.ltInt a i j d).1 ≤ b := by
  intro n
  induction n with
  | zero =>
    intro i j d hn hi hib hj
    rw [Sort.partEqLoop]
    have u1 := scanUp_ge (fun x => !Sort.ltInt d[a]! x) d j _ i (Nat.le_refl _)
    have u2 := scanUp_le (fun x => !Sort.ltInt d[a]! x) d j _ i (Nat.le_refl _)
    have v1 := scanDown_le (fun x => Sort.ltInt d[a]! x) d (Sort.scanUp (fun x => !Sort.ltInt d[a]! x) d j i) j
    generalize Sort.scanUp (fun x => !Sort.ltInt d[a]! x) d j i = i2 at *
    generalize Sort.scanDown (fun x => Sort.ltInt d[a]! x) d i2 j = j2 at *
    rw [if_pos (by omega)]
    exact ⟨by dsimp only; omega, by dsimp only; omega⟩
  | succ n ih =>
    intro i j d hn hi hib hj
    rw [Sort.partEqLoop]
    have u1 := scanUp_ge (fun x => !Sort.ltInt d[a]! x) d j _ i (Nat.le_refl _)
    have u2 := scanUp_le (fun x => !Sort.ltInt d[a]! x) d j _ i (Nat.le_refl _)
    have v1 := scanDown_le (fun x => Sort.ltInt d[a]! x) d (Sort.scanUp (fun x => !Sort.ltInt d[a]! x) d j i) j
    generalize Sort.scanUp (fun x => !Sort.ltInt d[a]! x) d j i = i2 at *
    generalize Sort.scanDown (fun x => Sort.ltInt d[a]! x) d i2 j = j2 at *
    by_cases h : i2 > j2
    · rw [if_pos h]; exact ⟨by dsimp only; omega, by dsimp only; omega⟩
    · rw [if_neg h, dif_pos (by omega)]
      exact ih (i2 + 1) (j2 - 1) _ (by omega) (by omega) (by omega) (by omega)
theorem c_pdq {L : List Asn} {s : Sl} (hlen : s.n ≤ 255) : ∀ (n : Nat) {a b limit : Nat} {d : Array Int} {h : Hp} {K : Hp → Prop}, b - a ≤ n → Sat (L ++ [UA s d]) h → a ≤ b → b ≤ d.size → limit ≤ 1000 →
    (∀ h', Sat (L ++ [UA s (Sort.pdq Sort.ltInt d a b limit true true)]) h' → K h') → C75 s (a : Int) (b : Int) (limit : Int) h K := by
  intro n
  induction n with
  | zero =>
    intro a b limit d h K hn hs hab hb hl hK
    have hsz := uaN hs
    apply S75; unfold N75 N75_l0
    refine loopP_step ?_
    unfold N75_l0_B N75_l0_b
    dsimp only
    rw [wrn (n := (b : Int) - (a : Int)) (k := b - a) (by omega) (by omega)]
    rw [show decide (((b - a : Nat) : Int) ≤ 12) = true from decide_eq_true (by omega), cond_true]
    rw [Sort.pdq, if_pos (by omega)] at hK
    exact c_ins hs hb hab (by omega) hK
  | succ n ih =>
    intro a b limit d h K hn hs hab hb hl hK
    apply S75; unfold N75 N75_l0
    refine loopP_inv (fun (x : Int × Int × Int × Bool × Bool) hc => ∃ (a' b' l' : Nat) (e : Array Int), x.1 = a' ∧ x.2.1 = b' ∧ x.2.2.1 = l' ∧ a' ≤ b' ∧ b' ≤ e.size ∧ l' ≤ 1000 ∧ b' - a' ≤ n + 1 ∧ Sort.pdq Sort.ltInt e a' b' l' x.2.2.2.1 x.2.2.2.2 = Sort.pdq Sort.ltInt d a b limit true true ∧ Sat (L ++ [UA s e]) hc) (fun x _ => (x.2.1 - x.1).toNat) ?_ ⟨a, b, limit, d, rfl, rfl, rfl, hab, hb, hl, hn, rfl, hs⟩
    clear hs hn hab hb hl
    rintro ⟨x, y, z, wb, wp⟩ hc ⟨a', b', l', e, hx, hy, hz, hab, hb, hl, hn, hr, hs⟩
    simp only at hx hy hz hr
    subst hx hy hz
    have hsz := uaN hs
    unfold N75_l0_B N75_l0_b
    dsimp only
    rw [wrn (n := (b' : Int) - (a' : Int)) (k := b' - a') (by omega) (by omega)]
    rw [Sort.pdq] at hr
    by_cases h12 : b' - a' ≤ 12
    · rw [if_pos h12] at hr
      rw [show decide (((b' - a' : Nat) : Int) ≤ 12) = true from decide_eq_true (by omega), cond_true]
      rw [← hr] at hK
      exact c_ins hs hb hab (by omega) hK
    · rw [if_neg h12] at hr
      rw [show decide (((b' - a' : Nat) : Int) ≤ 12) = false from decide_eq_false (by omega), cond_false]
      by_cases hl0 : l' = 0
      · rw [if_pos hl0] at hr
        rw [show ((l' : Int) == 0) = true by simp [hl0], cond_true]
        rw [← hr] at hK
        exact c_heap hs hb hab (by omega) hK
      · rw [if_neg hl0] at hr
        rw [show ((l' : Int) == 0) = false by simp; omega, cond_false]
        -- the round behind the patterns
        have j1 : ∀ (l2 : Nat) (d1 : Array Int) (h1 : Hp), l2 ≤ 1000 → Sat (L ++ [UA s d1]) h1 →
            (let limit := l2
             let c := Sort.choosePivot Sort.ltInt d1 a' b'
             let d2 := if c.2 = .decreasing then Sort.reverseRange d1 a' b' else d1
             let pivot := if c.2 = .decreasing then (b' - 1) - (c.1 - a') else c.1
             let hint := if c.2 = .decreasing then Sort.Hint.increasing else c.2
             let pi := if wb && wp && hint = .increasing then Sort.partialInsertionSort Sort.ltInt d2 a' b' else (d2, false)
             if pi.2 then pi.1 else
             let d3 := pi.1
             if a' > 0 && !Sort.ltInt d3[a' - 1]! d3[pivot]! then
               match Sort.partitionEqual Sort.ltInt d3 a' b' pivot with
               | (mid, d4) => if _h : a' < mid ∧ mid ≤ b' then Sort.pdq Sort.ltInt d4 mid b' limit wb wp else d4
             else
               match Sort.partition Sort.ltInt d3 a' b' pivot with
               | (mid, alreadyPartitioned, d4) =>
                 if _h : a' ≤ mid ∧ mid < b' then
                   if mid - a' < b' - mid then
                     Sort.pdq Sort.ltInt (Sort.pdq Sort.ltInt d4 a' mid limit true true) (mid + 1) b' limit (decide (mid - a' ≥ (b' - a') / 8)) alreadyPartitioned
                   else
                     Sort.pdq Sort.ltInt (Sort.pdq Sort.ltInt d4 (mid + 1) b' limit true true) a' mid limit (decide (b' - mid ≥ (b' - a') / 8)) alreadyPartitioned
                 else d4) = Sort.pdq Sort.ltInt d a b limit true true →
            ∀ (l3 : Int), l3 = (l2 : Int) → N75_j1 s (a' : Int) (b' : Int) l3 wb wp ((b' - a' : Nat) : Int) h1
              (fun n0 n1 b0 b1 h3 => (∃ (a' b' l' : Nat) (e : Array Int), n0 = a' ∧ n1 = b' ∧ l3 = l' ∧ a' ≤ b' ∧ b' ≤ e.size ∧ l' ≤ 1000 ∧ b' - a' ≤ n + 1 ∧ Sort.pdq Sort.ltInt e a' b' l' b0 b1 = Sort.pdq Sort.ltInt d a b limit true true ∧ Sat (L ++ [UA s e]) h3) ∧ (n1 - n0).toNat < ((b' : Int) - (a' : Int)).toNat)
              (fun n0 n1 b0 b1 h3 => (∃ (a' b' l' : Nat) (e : Array Int), n0 = a' ∧ n1 = b' ∧ l3 = l' ∧ a' ≤ b' ∧ b' ≤ e.size ∧ l' ≤ 1000 ∧ b' - a' ≤ n + 1 ∧ Sort.pdq Sort.ltInt e a' b' l' b0 b1 = Sort.pdq Sort.ltInt d a b limit true true ∧ Sat (L ++ [UA s e]) h3) ∧ (n1 - n0).toNat < ((b' : Int) - (a' : Int)).toNat) K := by
          intro l2 d1 h1 hl2 hs1 hr l3 hl3
          subst hl3
          have hsz1 := uaN hs1
          simp only at hr
          unfold N75_j1
          refine c_pivot hs1 (by omega) (by omega) (by omega) fun h2 hs2 => ?_
          have hpv := Sort.choosePivot_holds Sort.ltInt d1 a' b' (by omega)
          generalize Sort.choosePivot Sort.ltInt d1 a' b' = c at hr hpv ⊢
          -- the round behind the pivot
          have j2 : ∀ (d2 : Array Int) (pv : Nat) (hint : Sort.Hint) (h2 : Hp), Sat (L ++ [UA s d2]) h2 → a' ≤ pv → pv < b' →
              (let pi := if wb && wp && hint = .increasing then Sort.partialInsertionSort Sort.ltInt d2 a' b' else (d2, false)
               if pi.2 then pi.1 else
               let d3 := pi.1
               if a' > 0 && !Sort.ltInt d3[a' - 1]! d3[pv]! then
                 match Sort.partitionEqual Sort.ltInt d3 a' b' pv with
                 | (mid, d4) => if _h : a' < mid ∧ mid ≤ b' then Sort.pdq Sort.ltInt d4 mid b' l2 wb wp else d4
               else
                 match Sort.partition Sort.ltInt d3 a' b' pv with
                 | (mid, alreadyPartitioned, d4) =>
                   if _h : a' ≤ mid ∧ mid < b' then
                     if mid - a' < b' - mid then
                       Sort.pdq Sort.ltInt (Sort.pdq Sort.ltInt d4 a' mid l2 true true) (mid + 1) b' l2 (decide (mid - a' ≥ (b' - a') / 8)) alreadyPartitioned
                     else
                       Sort.pdq Sort.ltInt (Sort.pdq Sort.ltInt d4 (mid + 1) b' l2 true true) a' mid l2 (decide (b' - mid ≥ (b' - a') / 8)) alreadyPartitioned
                   else d4) = Sort.pdq Sort.ltInt d a b limit true true →
              N75_j2 s (a' : Int) (b' : Int) (l2 : Int) wb wp ((b' - a' : Nat) : Int) (pv : Int) (hintN hint) h2
                (fun n0 n1 b0 b1 h3 => (∃ (a' b' l' : Nat) (e : Array Int), n0 = a' ∧ n1 = b' ∧ (l2 : Int) = l' ∧ a' ≤ b' ∧ b' ≤ e.size ∧ l' ≤ 1000 ∧ b' - a' ≤ n + 1 ∧ Sort.pdq Sort.ltInt e a' b' l' b0 b1 = Sort.pdq Sort.ltInt d a b limit true true ∧ Sat (L ++ [UA s e]) h3) ∧ (n1 - n0).toNat < ((b' : Int) - (a' : Int)).toNat)
                (fun n0 n1 b0 b1 h3 => (∃ (a' b' l' : Nat) (e : Array Int), n0 = a' ∧ n1 = b' ∧ (l2 : Int) = l' ∧ a' ≤ b' ∧ b' ≤ e.size ∧ l' ≤ 1000 ∧ b' - a' ≤ n + 1 ∧ Sort.pdq Sort.ltInt e a' b' l' b0 b1 = Sort.pdq Sort.ltInt d a b limit true true ∧ Sat (L ++ [UA s e]) h3) ∧ (n1 - n0).toNat < ((b' : Int) - (a' : Int)).toNat) K := by
            intro d2 pv hint h2 hs2 hp1 hp2 hr
            have hsz2 := uaN hs2
            simp only at hr
            -- the partitions
            have j4 : ∀ (d3 : Array Int) (h3 : Hp), Sat (L ++ [UA s d3]) h3 →
                (if a' > 0 && !Sort.ltInt d3[a' - 1]! d3[pv]! then
                   match Sort.partitionEqual Sort.ltInt d3 a' b' pv with
                   | (mid, d4) => if _h : a' < mid ∧ mid ≤ b' then Sort.pdq Sort.ltInt d4 mid b' l2 wb wp else d4
                 else
                   match Sort.partition Sort.ltInt d3 a' b' pv with
                   | (mid, alreadyPartitioned, d4) =>
                     if _h : a' ≤ mid ∧ mid < b' then
                       if mid - a' < b' - mid then
                         Sort.pdq Sort.ltInt (Sort.pdq Sort.ltInt d4 a' mid l2 true true) (mid + 1) b' l2 (decide (mid - a' ≥ (b' - a') / 8)) alreadyPartitioned
                       else
                         Sort.pdq Sort.ltInt (Sort.pdq Sort.ltInt d4 (mid + 1) b' l2 true true) a' mid l2 (decide (b' - mid ≥ (b' - a') / 8)) alreadyPartitioned
                     else d4) = Sort.pdq Sort.ltInt d a b limit true true →
                N75_j4 s (a' : Int) (b' : Int) (l2 : Int) wb wp ((b' - a' : Nat) : Int) (pv : Int) h3
                  (fun n0 n1 b0 b1 h3 => (∃ (a' b' l' : Nat) (e : Array Int), n0 = a' ∧ n1 = b' ∧ (l2 : Int) = l' ∧ a' ≤ b' ∧ b' ≤ e.size ∧ l' ≤ 1000 ∧ b' - a' ≤ n + 1 ∧ Sort.pdq Sort.ltInt e a' b' l' b0 b1 = Sort.pdq Sort.ltInt d a b limit true true ∧ Sat (L ++ [UA s e]) h3) ∧ (n1 - n0).toNat < ((b' : Int) - (a' : Int)).toNat)
                  (fun n0 n1 b0 b1 h3 => (∃ (a' b' l' : Nat) (e : Array Int), n0 = a' ∧ n1 = b' ∧ (l2 : Int) = l' ∧ a' ≤ b' ∧ b' ≤ e.size ∧ l' ≤ 1000 ∧ b' - a' ≤ n + 1 ∧ Sort.pdq Sort.ltInt e a' b' l' b0 b1 = Sort.pdq Sort.ltInt d a b limit true true ∧ Sat (L ++ [UA s e]) h3) ∧ (n1 - n0).toNat < ((b' : Int) - (a' : Int)).toNat) := by
              intro d3 h3 hs3 hr
              have hsz3 := uaN hs3
              have part : (match Sort.partition Sort.ltInt d3 a' b' pv with
                   | (mid, alreadyPartitioned, d4) =>
                     if _h : a' ≤ mid ∧ mid < b' then
                       if mid - a' < b' - mid then
                         Sort.pdq Sort.ltInt (Sort.pdq Sort.ltInt d4 a' mid l2 true true) (mid + 1) b' l2 (decide (mid - a' ≥ (b' - a') / 8)) alreadyPartitioned
                       else
                         Sort.pdq Sort.ltInt (Sort.pdq Sort.ltInt d4 (mid + 1) b' l2 true true) a' mid l2 (decide (b' - mid ≥ (b' - a') / 8)) alreadyPartitioned
                     else d4) = Sort.pdq Sort.ltInt d a b limit true true →
                  N75_j6 s (a' : Int) (b' : Int) (l2 : Int) ((b' - a' : Nat) : Int) (pv : Int) h3
                    (fun n0 n1 b0 b1 h3 => (∃ (a' b' l' : Nat) (e : Array Int), n0 = a' ∧ n1 = b' ∧ (l2 : Int) = l' ∧ a' ≤ b' ∧ b' ≤ e.size ∧ l' ≤ 1000 ∧ b' - a' ≤ n + 1 ∧ Sort.pdq Sort.ltInt e a' b' l' b0 b1 = Sort.pdq Sort.ltInt d a b limit true true ∧ Sat (L ++ [UA s e]) h3) ∧ (n1 - n0).toNat < ((b' : Int) - (a' : Int)).toNat) := by
                intro hr
                obtain ⟨m1, m2, _⟩ := Sort.partition_holds Sort.ltInt Sort.swo_ltInt d3 a' b' pv hp1 hp2 (by omega)
                unfold N75_j6
                refine c_part hs3 (by omega) hp1 hp2 (by omega) fun h4 hs4 => ?_
                generalize Sort.partition Sort.ltInt d3 a' b' pv = q at hr m1 m2 hs4 ⊢
                obtain ⟨mid, ap, d4⟩ := q
                simp only at hr m1 m2 hs4 ⊢
                have hsz4 := uaN hs4
                rw [dif_pos ⟨m1, m2⟩] at hr
                rw [wrn (n := (mid : Int) - (a' : Int)) (k := mid - a') (by omega) (by omega), wrn (n := (b' : Int) - (mid : Int)) (k := b' - mid) (by omega) (by omega), wrn (n := (mid : Int) + 1) (k := mid + 1) (by omega) (by omega),
                  show Int.tdiv ((b' - a' : Nat) : Int) 8 = (((b' - a') / 8 : Nat) : Int) from rfl, wrn (n := (((b' - a') / 8 : Nat) : Int)) rfl (by omega)]
                by_cases hm : mid - a' < b' - mid
                · rw [if_pos hm] at hr
                  rw [show decide (((mid - a' : Nat) : Int) < ((b' - mid : Nat) : Int)) = true from decide_eq_true (by omega), cond_true]
                  refine ih (by omega) hs4 m1 (by omega) hl2 fun h5 hs5 => ?_
                  have hsz5 := uaN hs5
                  refine ⟨⟨mid + 1, b', l2, _, rfl, rfl, rfl, by omega, by omega, hl2, by omega, ?_, hs5⟩, by omega⟩
                  rw [← hr]
                  congr 1
                  exact decide_eq_decide.2 (by omega)
                · rw [if_neg hm] at hr
                  rw [show decide (((mid - a' : Nat) : Int) < ((b' - mid : Nat) : Int)) = false from decide_eq_false (by omega), cond_false]
                  refine ih (by omega) hs4 (by omega) (by omega) hl2 fun h5 hs5 => ?_
                  have hsz5 := uaN hs5
                  refine ⟨⟨a', mid, l2, _, rfl, rfl, rfl, by omega, by omega, hl2, by omega, ?_, hs5⟩, by omega⟩
                  rw [← hr]
                  congr 1
                  exact decide_eq_decide.2 (by omega)
              unfold N75_j4
              by_cases ha0 : a' > 0
              · rw [show decide ((a' : Int) > 0) = true from decide_eq_true (by omega), cond_true]
                rw [wrn (n := (a' : Int) - 1) (k := a' - 1) (by omega) (by omega)]
                refine rdU hs3 rfl (by omega) ?_
                refine rdU hs3 rfl (by omega) ?_
                refine c_less ?_
                unfold N75_j5
                cases hq : Sort.ltInt d3[a' - 1]! d3[pv]! with
                | true =>
                  rw [if_neg (by simp [hq])] at hr
                  rw [Bool.not_true, cond_false]
                  exact part hr
                | false =>
                  rw [if_pos (by simp [hq, ha0])] at hr
                  rw [Bool.not_false, cond_true]
                  have m1 := partEq_range a' b' _ (a' + 1) (b' - 1) (Sort.swp d3 a' pv) (Nat.le_refl _) (by omega) (by omega) (by omega)
                  refine c_pareq hs3 (by omega) hp1 hp2 (by omega) fun h4 hs4 => ?_
                  have e1 : Sort.partEqLoop Sort.ltInt a' (a' + 1) (b' - 1) (Sort.swp d3 a' pv) = Sort.partitionEqual Sort.ltInt d3 a' b' pv := rfl
                  rw [e1] at m1
                  generalize Sort.partitionEqual Sort.ltInt d3 a' b' pv = q at hr m1 hs4 ⊢
                  obtain ⟨mid, d4⟩ := q
                  simp only at hr m1 hs4 ⊢
                  have hsz4 := uaN hs4
                  rw [dif_pos m1] at hr
                  exact ⟨⟨mid, b', l2, _, rfl, rfl, rfl, by omega, by omega, hl2, by omega, hr, hs4⟩, by omega⟩
              · rw [show decide ((a' : Int) > 0) = false from decide_eq_false (by omega), cond_false]
                unfold N75_j5
                rw [cond_false]
                rw [if_neg (by simp; omega)] at hr
                exact part hr
            -- the partial insertion sort
            have j3 : ∀ (x : Bool), (wb && wp && decide (hint = .increasing)) = x → N75_j3 s (a' : Int) (b' : Int) (l2 : Int) wb wp ((b' - a' : Nat) : Int) (pv : Int) x h2 (fun h0 => N75_j4 s (a' : Int) (b' : Int) (l2 : Int) wb wp ((b' - a' : Nat) : Int) (pv : Int) h0
                  (fun n0 n1 b0 b1 h3 => (∃ (a' b' l' : Nat) (e : Array Int), n0 = a' ∧ n1 = b' ∧ (l2 : Int) = l' ∧ a' ≤ b' ∧ b' ≤ e.size ∧ l' ≤ 1000 ∧ b' - a' ≤ n + 1 ∧ Sort.pdq Sort.ltInt e a' b' l' b0 b1 = Sort.pdq Sort.ltInt d a b limit true true ∧ Sat (L ++ [UA s e]) h3) ∧ (n1 - n0).toNat < ((b' : Int) - (a' : Int)).toNat)
                  (fun n0 n1 b0 b1 h3 => (∃ (a' b' l' : Nat) (e : Array Int), n0 = a' ∧ n1 = b' ∧ (l2 : Int) = l' ∧ a' ≤ b' ∧ b' ≤ e.size ∧ l' ≤ 1000 ∧ b' - a' ≤ n + 1 ∧ Sort.pdq Sort.ltInt e a' b' l' b0 b1 = Sort.pdq Sort.ltInt d a b limit true true ∧ Sat (L ++ [UA s e]) h3) ∧ (n1 - n0).toNat < ((b' : Int) - (a' : Int)).toNat)) K := by
              intro x hx
              unfold N75_j3
              rw [hx] at hr
              cases x with
              | false =>
                rw [cond_false]
                simp only [Bool.false_eq_true, if_false] at hr
                exact j4 d2 h2 hs2 hr
              | true =>
                rw [cond_true]
                simp only [if_true] at hr
                refine c_pins hs2 (by omega) (by omega) (by omega) fun h3 hs3 => ?_
                generalize Sort.partialInsertionSort Sort.ltInt d2 a' b' = pi at hr hs3 ⊢
                obtain ⟨d3, ok⟩ := pi
                simp only at hr hs3 ⊢
                cases ok with
                | true =>
                  rw [if_pos rfl] at hr
                  rw [← hr] at hK
                  exact hK h3 hs3
                | false =>
                  rw [if_neg (by decide)] at hr
                  rw [cond_false]
                  exact j4 d3 h3 hs3 hr
            unfold N75_j2
            have hh : (hintN hint == 1) = decide (hint = .increasing) := by cases hint <;> rfl
            rw [hh]
            cases wb with
            | false => rw [cond_false]; exact j3 false (by simp)
            | true =>
              rw [cond_true]
              cases wp with
              | false => rw [cond_false]; exact j3 false (by simp)
              | true => rw [cond_true]; exact j3 _ (by simp)
          by_cases hdec : c.2 = .decreasing
          · simp only [if_pos hdec] at hr
            have hh : (hintN c.2 == 2) = true := by rw [hdec]; rfl
            rw [hh, cond_true]
            refine c_rev hs2 (by omega) (by omega) (by omega) fun h3 hs3 => ?_
            rw [wrn (n := (b' : Int) - 1) (k := b' - 1) (by omega) (by omega), wrn (n := ((c.1 : Nat) : Int) - (a' : Int)) (k := c.1 - a') (by omega) (by omega), wrn (n := ((b' - 1 : Nat) : Int) - ((c.1 - a' : Nat) : Int)) (k := (b' - 1) - (c.1 - a')) (by omega) (by omega)]
            exact j2 _ _ .increasing h3 hs3 (by omega) (by omega) hr
          · simp only [if_neg hdec] at hr
            have hh : (hintN c.2 == 2) = false := by
              revert hdec
              cases c.2 <;> simp [hintN]
            rw [hh, cond_false]
            exact j2 _ _ c.2 h2 hs2 hpv.1 hpv.2 hr
        cases wb with
        | false =>
          simp only [Bool.not_false, if_true] at hr
          rw [Bool.not_false, cond_true]
          refine c_brk hs hb (by omega) (by omega) fun h2 hs2 => ?_
          exact j1 (l' - 1) _ h2 (by omega) hs2 hr _ (wrn (by omega) (by omega))
        | true =>
          simp only [Bool.not_true, Bool.false_eq_true, if_false] at hr
          rw [Bool.not_true, cond_false]
          exact j1 l' _ hc hl hs hr _ rfl
theorem c_sortU {L : List Asn} {s : Sl} {zs : List Int} {h : Hp} {K : Hp → Prop} (hs : Sat (L ++ [Hw.own 39 1 s (zs.map fun n => .int .u32 n)]) h) (hl : zs.length ≤ 255)
    (hK : ∀ h', Sat (L ++ [Hw.own 39 1 s ((zs.mergeSort fun x y => decide (x ≤ y)).map fun n => .int .u32 n)]) h' → K h') : C71 s h K := by
  have hs : Sat (L ++ [UA s zs.toArray]) h := hs
  have hn := uaN hs
  simp only [List.size_toArray] at hn
  apply S71; unfold N71
  rw [wu64 (k := s.n) rfl (by omega)]
  refine c_len (by omega) ?_
  have hb : Sort.bitsLen s.n ≤ 8 := (Sort.bitsLen_le_iff s.n 8).2 (by omega)
  have := c_pdq (L := L) (s := s) (by omega) s.n (a := 0) (b := s.n) (limit := Sort.bitsLen s.n) (d := zs.toArray) (h := h) (K := K) (by omega) hs (by omega) (by simp; omega) (by omega) ?_
  · exact this
  · intro h' hs'
    refine hK h' ?_
    have e1 : Sort.pdq Sort.ltInt zs.toArray 0 s.n (Sort.bitsLen s.n) true true = Sort.sort Sort.ltInt zs.toArray := by
      unfold Sort.sort
      rw [List.size_toArray, ← hn]
    rw [e1] at hs'
    have e2 := Sort.sortInt zs
    have e3 : ur (Sort.sort Sort.ltInt zs.toArray) = (zs.mergeSort fun x y => decide (x ≤ y)).map fun n => .int .u32 n := by unfold ur; rw [e2]
    have hs' : Sat (L ++ [Hw.own 39 1 s (ur (Sort.sort Sort.ltInt zs.toArray))]) h' := hs'
    rw [e3] at hs'
    exact hs'
end Go.Proofs.Ytkfccpabigikkaa

/-
  Maps with keys that are numbers: what is found, laid, taken away.
-/
set_option linter.unusedSimpArgs false
set_option linter.unusedVariables false
namespace Go.Hw
open Go
abbrev KV := List (Int × Value)
def kvFind (n : Int) : KV → Option Value
  | [] => none
  | (k, v) :: l => if n = k then some v else kvFind n l
def kvSet (n : Int) (x : Value) : KV → KV
  | [] => [(n, x)]
  | (k, v) :: l => if n = k then (n, x) :: l else (k, v) :: kvSet n x l
def kvDel (n : Int) : KV → KV
  | [] => []
  | (k, v) :: l => if n = k then l else (k, v) :: kvDel n l
def EsIs (κ : IntKind) (es : List MapEntry) (kv : KV) : Prop := es.map (fun e => (e.key, e.val)) = kv.map fun x => (Value.int κ x.1, x.2)
theorem EsIs.len {κ : IntKind} {es : List MapEntry} {kv : KV} (h : EsIs κ es kv) : es.length = kv.length := by have := congrArg List.length h; simpa using this
theorem map_erase {α β : Type} {f : α → β} : ∀ {l : List α} {i : Nat}, (l.eraseIdx i).map f = (l.map f).eraseIdx i
  | [], _ => rfl
  | _ :: _, 0 => rfl
  | a :: l, i + 1 => by simp [map_erase (l := l) (i := i)]
theorem findNow_kv {κ : IntKind} {n : Int} : ∀ {es : List MapEntry} {kv : KV} (i0 : Nat), EsIs κ es kv →
    (kvFind n kv = none ∧ Instr.findNow (.int κ) (.int κ n) es i0 = some none ∧ (∀ e ∈ es, e.key ≠ .int κ n) ∧ (∀ x, kvSet n x kv = kv ++ [(n, x)]) ∧ kvDel n kv = kv) ∨
    (∃ i v, Instr.findNow (.int κ) (.int κ n) es i0 = some (some (i0 + i, v)) ∧ i < es.length ∧ kvFind n kv = some v ∧ kv[i]? = some (n, v) ∧ (∀ x, kvSet n x kv = kv.set i (n, x)) ∧ kvDel n kv = kv.eraseIdx i) := by
  intro es
  induction es with
  | nil =>
    intro kv i0 h
    cases kv with
    | nil => exact .inl ⟨rfl, rfl, by simp, fun x => rfl, rfl⟩
    | cons y kv => simp [EsIs] at h
  | cons e es ih =>
    intro kv i0 h
    cases kv with
    | nil => simp [EsIs] at h
    | cons y kv =>
      obtain ⟨k, v⟩ := y
      simp only [EsIs, List.map_cons, List.cons.injEq, Prod.mk.injEq] at h
      obtain ⟨⟨hk, hv⟩, hr⟩ := h
      have hs : Instr.sameNow (.int κ) (.int κ n) e.key = some (n == k) := by rw [hk]; simp [Instr.sameNow]
      by_cases e1 : n = k
      · subst e1
        refine .inr ⟨0, v, ?_, by simp, by simp [kvFind], rfl, fun x => by simp [kvSet], by simp [kvDel]⟩
        simp [Instr.findNow, hs, hv]
      · have hs' : Instr.sameNow (.int κ) (.int κ n) e.key = some false := by rw [hs]; simp [e1]
        rcases ih (kv := kv) (i0 + 1) hr with ⟨h1, h2, h3, h4, h5⟩ | ⟨i, w, h1, h2, h3, h4, h5, h6⟩
        · refine .inl ⟨by simp [kvFind, e1, h1], by simp [Instr.findNow, hs', h2], ?_, fun x => by simp [kvSet, e1, h4 x], by simp [kvDel, e1, h5]⟩
          intro a ha
          rcases List.mem_cons.1 ha with rfl | ha
          · rw [hk]; intro q; cases q; exact e1 rfl
          · exact h3 a ha
        · refine .inr ⟨i + 1, w, ?_, by simp; omega, by simp [kvFind, e1, h3], by simpa using h4, fun x => by simp [kvSet, e1, h5 x], by simp [kvDel, e1, h6]⟩
          simp only [Instr.findNow, hs', h1]
          rw [show i0 + 1 + i = i0 + (i + 1) by omega]
def mapA (κ : IntKind) (m : Nat) (kv : KV) : Asn :=
  ⟨fun F h => (∀ x, F x ↔ x = m) ∧ ∃ es c, h m = some (.map es c) ∧ EsIs κ es.toList kv ∧ MapKept.Stamped es c,
   fun hl hh => ⟨hh.1, let ⟨es, c, h1, h2⟩ := hh.2; ⟨es, c, (hl m ((hh.1 m).2 rfl)).trans h1, h2⟩⟩,
   fun {F h x} hh hx => by obtain ⟨es, c, h1, _⟩ := hh.2; rw [(hh.1 x).1 hx, h1]; simp⟩
section
variable {L M : List Asn} {h : Hp} {κ : IntKind} {m : Nat} {kv : KV}
theorem Sat.map (hs : Sat (L ++ M) h) (j : Nat) (hj : M[j]? = some (mapA κ m kv)) : ∃ es c, h m = some (.map es c) ∧ EsIs κ es.toList kv ∧ MapKept.Stamped es c := let ⟨_, hF⟩ := hs.get' j hj; hF.2
theorem Sat.xMap (hs : Sat (L ++ M) h) (j : Nat) {F : List MapEntry → Nat → Prop} (hj : M[j]? = some (mapA κ m kv)) (hF : ∀ es c, EsIs κ es kv → F es c) : Hw.xMap h (some m) F := by
  obtain ⟨es, c, h1, h2, _⟩ := hs.map j hj
  unfold Hw.xMap
  simp only [h1]
  exact hF _ _ h2
theorem keyAt_kv {n : Int} {es : List MapEntry} {F : Option (Nat × Value) → Prop} (he : EsIs κ es kv) (hF : ∀ r, r.map Prod.snd = kvFind n kv → F r) : keyAt (.int κ) (.int κ n) es F := by
  unfold keyAt
  rcases findNow_kv (n := n) 0 he with ⟨h1, h2, _⟩ | ⟨i, v, h1, _, h3, _⟩
  · rw [h2]; exact hF _ (by rw [h1]; rfl)
  · rw [h1]; exact hF _ (by rw [h3]; rfl)
theorem rval_kv {r : Option (Nat × Value)} {o : Option Value} {z : Value} (h : r.map Prod.snd = o) : rval r z = o.getD z := by
  subst h; cases r <;> rfl
theorem Sat.lookup (hs : Sat (L ++ M) h) (j : Nat) {n : Int} {F : Option (Nat × Value) → Prop} (hj : M[j]? = some (mapA κ m kv)) (hF : ∀ r, r.map Prod.snd = kvFind n kv → F r) : Hw.xMap h (some m) fun es _ => keyAt (.int κ) (.int κ n) es F :=
  hs.xMap j hj fun es c he => keyAt_kv he hF
theorem Sat.muK {P : Program} {t kt et : TypeId} (hs : Sat (L ++ M) h) (j : Nat) {n : Int} {v : Value} {F : Hp → Prop} (hj : M[j]? = some (mapA κ m kv)) (hu : P.underlying t = some (.map kt et)) (hk : P.underlying kt = some (.int κ))
    (hF : ∀ h', Sat (L ++ M.set j (mapA κ m (kvSet n v kv))) h' → F h') : Hw.muK P t (.map (some m)) (.int κ n) v h F := by
  obtain ⟨es, c, h1, h2, h3⟩ := hs.map j hj
  unfold Hw.muK
  rw [hu]; simp only []
  rw [hk]
  simp only [plainKey, cond_true, xMapO, h1]
  unfold keyAt
  have go : ∀ es' c', EsIs κ es'.toList (kvSet n v kv) → MapKept.Stamped es' c' → F (upd h m (.map es' c')) := by
    intro es' c' q1 q2
    refine hF _ (hs.at j hj fun G hG => ⟨G, ⟨hG.1, es', c', upd_same, q1, q2⟩, fun x hx => .inl hx, fun x hx _ => upd_ne fun e => hx ((hG.1 x).2 e)⟩)
  rcases findNow_kv (n := n) 0 h2 with ⟨a1, a2, a3, a4, _⟩ | ⟨i, w, a1, a2, a3, a4, a5, _⟩
  · rw [a2]
    refine go _ _ ?_ (MapKept.stamped_push h3 a3)
    rw [a4]
    unfold EsIs at h2 ⊢
    simp only [Array.toList_push, List.map_append, List.map_cons, List.map_nil, h2]
  · rw [a1, Nat.zero_add]
    have hilt : i < es.size := by simpa using a2
    have hkey : es[i].key = .int κ n := by
      have h4 := congrArg (fun l => l[i]?) h2
      simp only [List.getElem?_map, a4, Option.map_some, Array.getElem?_toList, Array.getElem?_eq_getElem hilt, Option.some.injEq, Prod.mk.injEq] at h4
      exact h4.1
    refine go _ _ ?_ (MapKept.stamped_modify h3 i _ (fun e _ => rfl) ?_)
    · rw [a5]
      unfold EsIs at h2 ⊢
      apply List.ext_getElem?
      intro k
      have h4 := congrArg (fun l => l[k]?) h2
      simp only [List.getElem?_map, Array.getElem?_toList, Array.getElem?_modify, List.getElem?_set] at h4 ⊢
      by_cases e : i = k
      · subst e
        rw [Array.getElem?_eq_getElem hilt]
        have : i < kv.length := by have := (List.getElem?_eq_some_iff.1 a4).1; exact this
        simp [this]
      · simp only [e, if_false, h4]
    · intro e he hi
      rw [Array.getElem?_eq_getElem hilt] at hi
      cases hi; exact hkey.symm
theorem Sat.mdK {P : Program} {t kt et : TypeId} (hs : Sat (L ++ M) h) (j : Nat) {n : Int} {F : Hp → Prop} (hj : M[j]? = some (mapA κ m kv)) (hu : P.underlying t = some (.map kt et)) (hk : P.underlying kt = some (.int κ))
    (hF : ∀ h', Sat (L ++ M.set j (mapA κ m (kvDel n kv))) h' → F h') : Hw.mdK P t (.map (some m)) (.int κ n) h F := by
  obtain ⟨es, c, h1, h2, h3⟩ := hs.map j hj
  unfold Hw.mdK
  rw [hu]; simp only []
  rw [hk]
  simp only [plainKey, cond_true, xMapO, h1]
  unfold keyAt
  have go : ∀ es' c', EsIs κ es'.toList (kvDel n kv) → MapKept.Stamped es' c' → F (upd h m (.map es' c')) := by
    intro es' c' q1 q2
    refine hF _ (hs.at j hj fun G hG => ⟨G, ⟨hG.1, es', c', upd_same, q1, q2⟩, fun x hx => .inl hx, fun x hx _ => upd_ne fun e => hx ((hG.1 x).2 e)⟩)
  rcases findNow_kv (n := n) 0 h2 with ⟨a1, a2, a3, _, a4⟩ | ⟨i, w, a1, a2, a3, a4, _, a5⟩
  · rw [a2]
    exact go es c (by rw [a4]; exact h2) h3
  · rw [a1, Nat.zero_add]
    refine go _ _ ?_ (MapKept.stamped_erase h3 i)
    rw [a5]
    unfold EsIs at h2 ⊢
    rw [Array.toList_eraseIdxIfInBounds, map_erase, map_erase, h2]
theorem Sat.newMap {L M : List Asn} {h : Hp} {b : Nat} (κ : IntKind) (hs : Sat (L ++ M) h) (hb : h b = none) : Sat (L ++ (M ++ [mapA κ b []])) (upd h b (.map #[] 0)) :=
  hs.add (Ext.new hb) (F' := fun x => x = b) ⟨fun _ => Iff.rfl, #[], 0, upd_same, rfl, MapKept.stamped_empty 0⟩ (fun x hx => by rw [hx]; exact hb)
end
end Go.Hw

/-
  Maps that are walked; maps of pointers to objects, each told by a state.
-/
set_option linter.unusedSimpArgs false
set_option linter.unusedVariables false
namespace Go.Hw
open Go
/-! ### a map that is walked -/
def Walk (κ : IntKind) (h : Hp) (m b : Nat) (kv ks : KV) : Prop :=
  ∃ (es : Array MapEntry) (c : Nat) (gs : List MapEntry) (last : Nat), h m = some (.map es c) ∧ EsIs κ es.toList kv ∧ MapKept.Stamped es c ∧ h b = some (.mapIter (some m) c (gs.map (·.born)).toArray last) ∧ EsIs κ gs ks ∧ (gs.map (·.born)).Nodup ∧ (∀ g ∈ gs, g ∈ es.toList) ∧ last = c
def walkA (κ : IntKind) (m b : Nat) (kv ks : KV) : Asn :=
  ⟨fun F h => (∀ x, F x ↔ x = m ∨ x = b) ∧ Walk κ h m b kv ks,
   fun hl hh => ⟨hh.1, let ⟨es, c, gs, last, h1, h2, h3, h4, h5⟩ := hh.2; ⟨es, c, gs, last, (hl m ((hh.1 m).2 (.inl rfl))).trans h1, h2, h3, (hl b ((hh.1 b).2 (.inr rfl))).trans h4, h5⟩⟩,
   fun {F h x} hh hx => by
    obtain ⟨es, c, gs, last, h1, _, _, h4, _⟩ := hh.2
    rcases (hh.1 x).1 hx with rfl | rfl
    · rw [h1]; simp
    · rw [h4]; simp⟩
theorem nodup_of_map {α β : Type} {f : α → β} : ∀ {l : List α}, (l.map f).Nodup → l.Nodup
  | [], _ => List.nodup_nil
  | a :: l, h => by
    simp only [List.map_cons, List.nodup_cons] at h
    exact List.nodup_cons.2 ⟨fun q => h.1 (List.mem_map.2 ⟨a, q, rfl⟩), nodup_of_map h.2⟩
theorem EsIs.inj {κ : IntKind} {es gs : List MapEntry} {kv ks : KV} (h1 : EsIs κ es kv) (h2 : EsIs κ gs ks) (hp : gs.Perm es) : ks.Perm kv := by
  have h := hp.map fun e => (e.key, e.val)
  unfold EsIs at h1 h2
  rw [h1, h2] at h
  have g : ∀ x : Value × Value, (match x with | (.int _ n, v) => (n, v) | (_, v) => ((0 : Int), v)) = (match x with | (.int _ n, v) => (n, v) | (_, v) => ((0 : Int), v)) := fun _ => rfl
  have h' := h.map (fun x : Value × Value => (match x.1 with | .int _ n => (n, x.2) | _ => ((0 : Int), x.2)))
  simp only [List.map_map] at h'
  have e : ∀ l : KV, l.map ((fun x : Value × Value => (match x.1 with | .int _ n => (n, x.2) | _ => ((0 : Int), x.2))) ∘ fun x : Int × Value => (Value.int κ x.1, x.2)) = l := by
    intro l; induction l with
    | nil => rfl
    | cons a l ih => simp only [List.map_cons, ih]; rfl
  rw [e, e] at h'
  exact h'
section
variable {L : List Asn} {h : Hp} {κ : IntKind} {m b : Nat} {kv ks : KV}
theorem Sat.rgM {F : Option Addr → Hp → Prop} (hs : Sat (L ++ [mapA κ m kv]) h) (hF : ∀ b h', Sat (L ++ [walkA κ m b kv []]) h' → F (some ⟨b, 0, none⟩) h') : Hw.rgM h (some m) F := by
  obtain ⟨es, c, h1, h2, h3⟩ := hs.map 0 rfl
  unfold Hw.rgM
  simp only [h1]
  intro b hb
  refine hF b _ (hs.at 0 rfl fun G hG => ⟨fun x => x = m ∨ x = b, ⟨fun _ => Iff.rfl, es, c, [], c, ?_, h2, h3, upd_same, rfl, List.nodup_nil, by simp, rfl⟩, ?_, ?_⟩)
  · rw [upd_ne (by rintro rfl; rw [h1] at hb; cases hb)]; exact h1
  · rintro x (rfl | rfl)
    · exact .inl ((hG.1 _).2 rfl)
    · exact .inr hb
  · intro x hx hne
    exact upd_ne (by rintro rfl; exact hne hb)
theorem Sat.walk (hs : Sat (L ++ [walkA κ m b kv ks]) h) : Walk κ h m b kv ks := let ⟨_, hF⟩ := hs.get' (M := [_]) 0 rfl; hF.2
theorem Sat.endM (hs : Sat (L ++ [walkA κ m b kv ks]) h) : Sat (L ++ [mapA κ m kv]) h := by
  have hw := hs.walk
  refine hs.at 0 rfl fun G hG => ⟨fun x => x = m, ⟨fun _ => Iff.rfl, ?_⟩, fun x hx => .inl ((hG.1 x).2 (.inl hx)), fun _ _ _ => rfl⟩
  obtain ⟨es, c, gs, last, h1, h2, h3, _⟩ := hw
  exact ⟨es, c, h1, h2, h3⟩
theorem Walk.le (hw : Walk κ h m b kv ks) : ks.length ≤ kv.length := by
  obtain ⟨es, c, gs, last, h1, h2, h3, h4, h5, h6, h7, _⟩ := hw
  have n1 := nodup_of_map h6
  rw [← h5.len, ← h2.len]
  have : gs.Subset es.toList := h7
  exact List.Nodup.length_le_of_subset n1 this
theorem Sat.nxM {F : Bool → List Value → Hp → Prop} (hs : Sat (L ++ [walkA κ m b kv ks]) h)
    (hend : ks.Perm kv → F false [] h)
    (hF : ∀ k v h', (k, v) ∈ kv → ks.length < kv.length → Sat (L ++ [walkA κ m b kv (ks ++ [(k, v)])]) h' → F true [.int κ k, v] h') : Hw.nxM h (some ⟨b, 0, none⟩) F := by
  obtain ⟨es, c, gs, last, h1, h2, h3, h4, h5, h6, h7, rfl⟩ := hs.walk
  obtain ⟨s1, s2, s3⟩ := h3
  unfold Hw.nxM
  simp only [h4, h1]
  have n1 := nodup_of_map h6
  have n2 := nodup_of_map s2
  have born_inj : ∀ x ∈ es.toList, ∀ y ∈ es.toList, x.born = y.born → x = y := by
    intro x hx y hy e
    obtain ⟨i, hi, rfl⟩ := List.getElem_of_mem hx
    obtain ⟨j, hj, rfl⟩ := List.getElem_of_mem hy
    have := (List.getElem_inj (xs := es.toList.map (·.born)) (h₀ := by simpa using hi) (h₁ := by simpa using hj) s2).1 (by simpa using e)
    subst this; rfl
  have left_mem : ∀ e, e ∈ leftM (gs.map (·.born)).toArray es ↔ e ∈ es.toList ∧ e ∉ gs := by
    intro e
    unfold leftM
    rw [Array.mem_filter]
    simp only [List.contains_toArray, Bool.not_eq_true', List.contains_eq_mem, decide_eq_false_iff_not, Array.mem_toList_iff]
    constructor
    · rintro ⟨q1, q2⟩
      exact ⟨q1, fun q => q2 (List.mem_map.2 ⟨e, q, rfl⟩)⟩
    · rintro ⟨q1, q2⟩
      refine ⟨q1, fun q => ?_⟩
      obtain ⟨g, hg, hb⟩ := List.mem_map.1 q
      exact q2 (born_inj g (h7 g hg) e (Array.mem_toList_iff.2 q1) hb ▸ hg)
  refine ⟨?_, ?_, ?_, ?_⟩
  · cases hq : es.toList with
    | nil => have : es.isEmpty = true := by simp [← Array.toList_eq_nil_iff, hq]
             rw [this]; simp
    | cons x l =>
      have hx : x ∈ es.toList := by rw [hq]; exact List.mem_cons_self
      have h9 := s1 x hx
      have : es.all (fun x => decide (x.born ≥ last)) = false := by
        rw [← Bool.not_eq_true, Array.all_eq_true_iff_forall_mem]
        intro q
        have := q x (Array.mem_toList_iff.1 hx)
        simp at this; omega
      rw [this]; simp
  · intro e he
    exact s1 e ((left_mem e).1 he).1
  · intro hl
    refine hend (EsIs.inj h2 h5 ?_)
    refine (List.perm_ext_iff_of_nodup n1 n2).2 fun x => ⟨h7 x, fun hx => ?_⟩
    apply Classical.byContradiction
    intro hn
    have := (left_mem x).2 ⟨hx, hn⟩
    rw [hl] at this; simp at this
  · intro e he
    obtain ⟨he1, he2⟩ := (left_mem e).1 he
    obtain ⟨i, hi, hie⟩ := List.getElem_of_mem he1
    have hik : i < kv.length := by rw [← h2.len]; exact hi
    have hpair : (e.key, e.val) = (Value.int κ kv[i].1, kv[i].2) := by
      have h8 := congrArg (fun l => l[i]?) h2
      simp only [List.getElem?_map, List.getElem?_eq_getElem hi, List.getElem?_eq_getElem hik, Option.map_some, hie, Option.some.injEq] at h8
      exact h8
    simp only [Prod.mk.injEq] at hpair
    rw [hpair.1, hpair.2]
    have hlt : ks.length < kv.length := by
      rw [← h5.len, ← h2.len]
      have : (e :: gs).Subset es.toList := by
        intro x hx
        rcases List.mem_cons.1 hx with rfl | hx
        · exact he1
        · exact h7 x hx
      have := List.Nodup.length_le_of_subset (List.nodup_cons.2 ⟨he2, n1⟩) this
      rw [List.length_cons] at this; omega
    refine hF _ _ _ (List.getElem_mem hik) hlt (hs.at 0 rfl fun G hG => ⟨G, ⟨hG.1, es, last, gs ++ [e], last, ?_, h2, ⟨s1, s2, s3⟩, ?_, ?_, ?_, ?_, rfl⟩, fun x hx => .inl hx, fun x hx _ => upd_ne fun q => hx ((hG.1 x).2 (.inr q))⟩)
    · rw [upd_ne (by rintro rfl; rw [h1] at h4; cases h4)]; exact h1
    · rw [upd_same]; simp
    · unfold EsIs at h5 ⊢
      simp only [List.map_append, List.map_cons, List.map_nil, h5, hpair.1, hpair.2]
    · simp only [List.map_append, List.map_cons, List.map_nil]
      refine List.nodup_append.2 ⟨h6, by simp, ?_⟩
      intro a ha y hy
      simp only [List.mem_singleton] at hy
      subst hy
      obtain ⟨g, hg, rfl⟩ := List.mem_map.1 ha
      intro q
      exact he2 (born_inj g (h7 g hg) e he1 q ▸ hg)
    · intro g hg
      rcases List.mem_append.1 hg with hg | hg
      · exact h7 g hg
      · simp at hg; rw [hg]; exact he1
theorem Sat.enM {F : Value → Value → Prop} {k : Int} {v : Value} (hs : Sat (L ++ [walkA κ m b kv (ks ++ [(k, v)])]) h) (hF : F (.int κ k) v) : Hw.enM h (some ⟨b, 0, none⟩) F := by
  obtain ⟨es, c, gs, last, h1, h2, h3, h4, h5, h6, h7, rfl⟩ := hs.walk
  have hl := h5.len
  simp only [List.length_append, List.length_singleton] at hl
  obtain ⟨gs', g, rfl⟩ : ∃ gs' g, gs = gs' ++ [g] := by
    rcases List.eq_nil_or_concat gs with rfl | ⟨gs', g, rfl⟩
    · simp at hl
    · exact ⟨gs', g, by simp⟩
  unfold EsIs at h5
  simp only [List.map_append, List.map_cons, List.map_nil] at h5
  have h8 := (List.append_inj' h5 rfl).2
  simp only [List.cons.injEq, and_true, Prod.mk.injEq] at h8
  unfold Hw.enM
  simp only [h4, h1]
  have e1 : ((gs' ++ [g]).map (·.born)).toArray.back? = some g.born := by simp
  simp only [e1]
  refine ⟨by trivial, ?_⟩
  have hg : g ∈ es.toList := h7 g (by simp)
  have hfind : es.find? (·.born == g.born) = some g := by
    rw [← Array.find?_toList]
    obtain ⟨s1, s2, s3⟩ := h3
    have : ∀ (l : List MapEntry), (l.map (·.born)).Nodup → g ∈ l → l.find? (·.born == g.born) = some g := by
      intro l
      induction l with
      | nil => intro _ q; cases q
      | cons a l ih =>
        intro q1 q2
        simp only [List.map_cons, List.nodup_cons] at q1
        by_cases e : a.born = g.born
        · rcases List.mem_cons.1 q2 with rfl | q2
          · simp
          · exact absurd (List.mem_map.2 ⟨g, q2, e.symm⟩) q1.1
        · rcases List.mem_cons.1 q2 with rfl | q2
          · exact absurd rfl e
          · rw [List.find?_cons_of_neg (by simpa using e)]
            exact ih q1.2 q2
    exact this _ s2 hg
  simp only [hfind]
  rw [h8.1, h8.2]; exact hF
end
end Go.Hw

/-
 Maps of pointers to objects, keyed by a number of theirs, each object told by a state.
-/
set_option linter.unusedSimpArgs false
set_option linter.unusedVariables false
namespace Go.Hw
open Go
theorem Sat.exOut {α : Type} {L : List Asn} {A : α → Asn} {h : Hp} (hs : Sat (L ++ [exs A]) h) : ∃ a, Sat (L ++ [A a]) h := by
 obtain ⟨F, h1, h2⟩ := hs
 obtain ⟨a, ha⟩ := h1 L.length (exs A) (by simp)
 refine ⟨a, F, fun i B hi => ?_, by simpa using h2⟩
 by_cases e : i < L.length
 ·rw [List.getElem?_append_left e] at hi
  exact h1 i B (by rw [List.getElem?_append_left e]; exact hi)
 ·have := lt_of_get hi
  simp at this
  have : i = L.length := by omega
  subst this
  simp at hi; subst hi; exact ha
theorem Sat.exIn {α : Type} {L : List Asn} {A : α → Asn} {h : Hp} (a : α) (hs : Sat (L ++ [A a]) h) : Sat (L ++ [exs A]) h := hs.imp 0 rfl fun F hF => ⟨a, hF⟩
theorem Sat.andPur {L M : List Asn} {h : Hp} {p : Prop} (hs : Sat (L ++ M) h) (hp : p) : Sat (L ++ (M ++ [Hw.pur p])) h :=
 Hw.Sat.add hs Ext.refl (F' := fun _ => False) ⟨fun x e => e, hp⟩ (fun x e => e.elim)
section
variable {α : Type} (key : α → Int) (obj : Nat → α → Asn)
def findK (n : Int) (l : List α) : Option α := l.find? fun a => key a == n
def updK (n : Int) (a : α) (l : List α) : List α := l.map fun x => if key x = n then a else x
def delK (n : Int) (l : List α) : List α := l.filter fun a => key a != n
def NodK (l : List α) : Prop := l.Pairwise fun a b => key a ≠ key b
def kvs (E : List (Nat × α)) : KV := E.map fun e => (key e.2, .pointer (some (bk e.1)))
def pmA (κ : IntKind) (m : Nat) (l : List α) : Asn := exs fun E : List (Nat × α) => star [mapA κ m (kvs key E), star (E.map fun e => obj e.1 e.2), pur ((E.map Prod.snd).Perm l)]
def pmH (κ : IntKind) (m : Nat) (l : List α) (n : Int) (q : Nat) : Asn :=
 exs fun x : List (Nat × α) × Nat × α => star [mapA κ m (kvs key x.1), star ((x.1.map fun e => obj e.1 e.2).eraseIdx x.2.1), pur (x.1[x.2.1]? = some (q, x.2.2) ∧ key x.2.2 = n ∧ (x.1.map Prod.snd).Perm l)]
variable {key obj}
theorem NodK.perm {a b : List α} (h : a.Perm b) : NodK key a ↔ NodK key b := h.pairwise_iff fun h e => h e.symm
theorem findK_some {n : Int} {l : List α} {a : α} (h : findK key n l = some a) : a ∈ l ∧ key a = n :=
 ⟨List.mem_of_find?_eq_some h, by have h2 := List.find?_some h; simpa using h2⟩
theorem findK_none {n : Int} {l : List α} (h : findK key n l = none) : ∀ a ∈ l, key a ≠ n := by
 intro a ha
 have := List.find?_eq_none.1 h a ha
 simpa using this
theorem findK_none_of {n : Int} {l : List α} (h : ∀ a ∈ l, key a ≠ n) : findK key n l = none := List.find?_eq_none.2 fun a ha => by simpa using h a ha
theorem findK_of {n : Int} {l : List α} (hn : NodK key l) {a : α} (ha : a ∈ l) (e : key a = n) : findK key n l = some a := by
 cases hf : findK key n l with
 | none => exact absurd e (findK_none hf a ha)
 | some q =>
  obtain ⟨h1, h2⟩ := findK_some hf
  by_cases hq : q = a
  ·rw [hq]
  ·obtain ⟨i, hi, rfl⟩ := List.getElem_of_mem ha
   obtain ⟨k, hk, rfl⟩ := List.getElem_of_mem h1
   have hne : i ≠ k := by rintro rfl; exact hq rfl
   exfalso
   rcases Nat.lt_or_gt_of_ne hne with hlt | hlt
   ·exact List.pairwise_iff_getElem.1 hn i k hi hk hlt (e.trans h2.symm)
   ·exact List.pairwise_iff_getElem.1 hn k i hk hi hlt (h2.trans e.symm)
theorem set_updK {n : Int} {b : α} : ∀ {l : List α}, NodK key l → ∀ {j : Nat} {a : α}, l[j]? = some a → key a = n → l.set j b = updK key n b l := by
 intro l
 induction l with
 | nil => intro _ j a h; simp at h
 | cons q l ih =>
  intro hn j a h e
  obtain ⟨h1, h2⟩ := List.pairwise_cons.1 hn
  cases j with
  | zero =>
   simp at h; subst h
   simp only [List.set_cons_zero, updK, List.map_cons, e, if_true]
   congr 1
   have : ∀ x ∈ l, (if key x = n then b else x) = x := fun x hx => if_neg fun q => h1 x hx (e.trans q.symm)
   rw [List.map_congr_left this, List.map_id']
  | succ j =>
   simp at h
   have := ih h2 h e
   have hq : ¬ key q = n := fun w => h1 a (List.mem_of_getElem? h) (w.trans e.symm)
   simp only [List.set_cons_succ, this, updK, List.map_cons, if_neg hq]
theorem erase_delK {n : Int} : ∀ {l : List α}, NodK key l → ∀ {j : Nat} {a : α}, l[j]? = some a → key a = n → l.eraseIdx j = delK key n l := by
 intro l
 induction l with
 | nil => intro _ j a h; simp at h
 | cons q l ih =>
  intro hn j a h e
  obtain ⟨h1, h2⟩ := List.pairwise_cons.1 hn
  cases j with
  | zero =>
   simp at h; subst h
   have : l.filter (fun a => key a != n) = l := by
    rw [List.filter_eq_self]
    intro x hx
    have := h1 x hx
    simp only [bne_iff_ne, ne_eq]
    exact fun q => this (e.trans q.symm)
   simp [delK, e, this]
  | succ j =>
   simp at h
   have := ih h2 h e
   have hq : ¬ key q = n := fun w => h1 a (List.mem_of_getElem? h) (w.trans e.symm)
   simp only [List.eraseIdx_cons_succ, this]
   simp [delK, hq]
theorem delK_none {n : Int} {l : List α} (h : ∀ a ∈ l, key a ≠ n) : delK key n l = l := by
 unfold delK
 rw [List.filter_eq_self]
 intro x hx; simpa using h x hx
theorem updK_same {n : Int} {l : List α} (hn : NodK key l) {a : α} (ha : findK key n l = some a) : updK key n a l = l := by
 obtain ⟨h1, h2⟩ := findK_some ha
 have : ∀ x ∈ l, (if key x = n then a else x) = x := by
  intro x hx
  split
  ·rename_i e
   have := findK_of hn hx e
   rw [ha] at this; exact Option.some.inj this
  ·rfl
 unfold updK
 rw [List.map_congr_left this, List.map_id']
theorem updK_keys {n : Int} {l : List α} {a : α} (e : key a = n) : (updK key n a l).map key = l.map key := by
 unfold updK
 rw [List.map_map]
 refine List.map_congr_left fun x hx => ?_
 simp only [Function.comp_apply]
 split
 ·rename_i q; rw [e, q]
 ·rfl
theorem kvs_case (n : Int) : ∀ E : List (Nat × α),
  ((∀ e ∈ E, key e.2 ≠ n) ∧ kvFind n (kvs key E) = none ∧ (∀ x, kvSet n x (kvs key E) = kvs key E ++ [(n, x)]) ∧ kvDel n (kvs key E) = kvs key E) ∨
  (∃ (j : Nat) (e : Nat × α), E[j]? = some e ∧ key e.2 = n ∧ kvFind n (kvs key E) = some (.pointer (some (bk e.1))) ∧ (∀ (q : Nat) (a : α), key a = n → kvSet n (.pointer (some (bk q))) (kvs key E) = kvs key (E.set j (q, a))) ∧ kvDel n (kvs key E) = kvs key (E.eraseIdx j)) := by
 intro E
 induction E with
 | nil => exact .inl ⟨by simp, rfl, fun q => rfl, rfl⟩
 | cons e E ih =>
  by_cases e1 : n = key e.2
  ·exact .inr ⟨0, e, rfl, e1.symm, by simp [kvs, kvFind, e1], fun q a ha => by simp [kvs, kvSet, e1, ha], by simp [kvs, kvDel, e1]⟩
  ·rcases ih with ⟨h1, h2, h3, h4⟩ | ⟨j, f, h1, h2, h3, h5, h4⟩
   ·refine .inl ⟨?_, ?_, fun q => ?_, ?_⟩
    ·intro x hx
     rcases List.mem_cons.1 hx with rfl | hx
     ·exact fun w => e1 w.symm
     ·exact h1 x hx
    ·simp only [kvs, List.map_cons, kvFind, e1, if_false]; exact h2
    ·have := h3 q
     simp only [kvs] at this
     simp only [kvs, List.map_cons, kvSet, e1, if_false, this, List.cons_append]
    ·simp only [kvs] at h4
     simp only [kvs, List.map_cons, kvDel, e1, if_false, h4]
   ·refine .inr ⟨j + 1, f, by simpa using h1, h2, ?_, fun q a ha => ?_, ?_⟩
    ·simp only [kvs, List.map_cons, kvFind, e1, if_false]; exact h3
    ·have := h5 q a ha
     simp only [kvs] at this
     simp only [kvs, List.map_cons, kvSet, e1, if_false, this, List.set_cons_succ]
    ·simp only [kvs] at h4
     simp only [kvs, List.map_cons, kvDel, e1, if_false, h4, List.eraseIdx_cons_succ]
section
variable {L : List Asn} {h : Hp} {κ : IntKind} {m : Nat} {l : List α}
theorem pm_open (hs : Sat (L ++ [pmA key obj κ m l]) h) : ∃ E : List (Nat × α), Sat (L ++ [mapA κ m (kvs key E), star (E.map fun e => obj e.1 e.2)]) h ∧ (E.map Prod.snd).Perm l := by
 obtain ⟨E, hs⟩ := hs.exOut
 have hs : Sat (L ++ [star [mapA κ m (kvs key E), star (E.map fun e => obj e.1 e.2), pur ((E.map Prod.snd).Perm l)]]) h := hs
 have hs := hs.open
 exact ⟨E, hs.sel [0, 1] (by decide) rfl, hs.pur 2 rfl⟩
theorem pm_shut {E : List (Nat × α)} (hs : Sat (L ++ [mapA κ m (kvs key E), star (E.map fun e => obj e.1 e.2)]) h) (hp : (E.map Prod.snd).Perm l) : Sat (L ++ [pmA key obj κ m l]) h := by
 have h1 : Sat (L ++ [mapA κ m (kvs key E), star (E.map fun e => obj e.1 e.2), pur ((E.map Prod.snd).Perm l)]) h := hs.andPur hp
 have h2 := h1.close
 unfold pmA
 exact h2.exIn E
theorem pm_find {n : Int} {F : Option (Nat × Value) → Prop} (hs : Sat (L ++ [pmA key obj κ m l]) h) (hn : NodK key l)
  (h0 : findK key n l = none → ∀ r, r.map Prod.snd = none → F r)
  (h1 : ∀ a q, findK key n l = some a → Sat (L ++ [pmH key obj κ m l n q, obj q a]) h → ∀ r, r.map Prod.snd = some (.pointer (some (bk q))) → F r) : xMap h (some m) fun es _ => keyAt (.int κ) (.int κ n) es F := by
 obtain ⟨E, hs, hp⟩ := pm_open hs
 refine hs.lookup 0 rfl ?_
 intro r hr
 have hnE := (NodK.perm hp).2 hn
 rcases kvs_case (key := key) n E with ⟨q1, q2, _⟩ | ⟨j, e, q1, q2, q3, _⟩
 ·rw [q2] at hr
  refine h0 (findK_none_of fun a ha => ?_) r hr
  obtain ⟨e, he, rfl⟩ := List.mem_map.1 (hp.mem_iff.2 ha)
  exact q1 e he
 ·rw [q3] at hr
  refine h1 e.2 e.1 (findK_of hn (hp.mem_iff.1 (List.mem_map.2 ⟨e, List.mem_of_getElem? q1, rfl⟩)) q2) ?_ r hr
  have g1 : Sat ((L ++ [mapA κ m (kvs key E)]) ++ [star (E.map fun e => obj e.1 e.2)]) h := Sat.csa hs
  have g2 := g1.out j (A := obj e.1 e.2) (by rw [List.getElem?_map, q1]; rfl)
  have g3 : Sat (L ++ [obj e.1 e.2, mapA κ m (kvs key E), star ((E.map fun e => obj e.1 e.2).eraseIdx j)]) h := (Sat.asc g2).sel [2, 0, 1] (by decide) rfl
  have g4 : Sat ((L ++ [obj e.1 e.2]) ++ [mapA κ m (kvs key E), star ((E.map fun e => obj e.1 e.2).eraseIdx j)]) h := Sat.csa g3
  have g5 : Sat ((L ++ [obj e.1 e.2]) ++ [mapA κ m (kvs key E), star ((E.map fun e => obj e.1 e.2).eraseIdx j), pur (E[j]? = some (e.1, e.2) ∧ key e.2 = n ∧ (E.map Prod.snd).Perm l)]) h := g4.andPur ⟨q1, q2, hp⟩
  have g6 : Sat ((L ++ [obj e.1 e.2]) ++ [pmH key obj κ m l n e.1]) h := g5.close.exIn (A := fun x : List (Nat × α) × Nat × α => star [mapA κ m (kvs key x.1), star ((x.1.map fun e => obj e.1 e.2).eraseIdx x.2.1), pur (x.1[x.2.1]? = some (e.1, x.2.2) ∧ key x.2.2 = n ∧ (x.1.map Prod.snd).Perm l)]) (E, j, e.2)
  exact (Sat.asc g6).sel [1, 0] (by decide) rfl
theorem pm_in {n : Int} {q : Nat} {a : α} (hs : Sat (L ++ [pmH key obj κ m l n q, obj q a]) h) (hn : NodK key l) (ha : key a = n) : Sat (L ++ [pmA key obj κ m (updK key n a l)]) h := by
 have g1 : Sat ((L ++ [obj q a]) ++ [pmH key obj κ m l n q]) h := Sat.csa (hs.sel [1, 0] (by decide) rfl)
 obtain ⟨⟨E, j, a0⟩, g2⟩ := Sat.exOut g1
 have g2 : Sat ((L ++ [obj q a]) ++ [star [mapA κ m (kvs key E), star ((E.map fun e => obj e.1 e.2).eraseIdx j), pur (E[j]? = some (q, a0) ∧ key a0 = n ∧ (E.map Prod.snd).Perm l)]]) h := g2
 have g3 := g2.open
 obtain ⟨e1, e2, e3⟩ := g3.pur 2 rfl
 have g4 : Sat (L ++ [obj q a, mapA κ m (kvs key E), star ((E.map fun e => obj e.1 e.2).eraseIdx j), pur (E[j]? = some (q, a0) ∧ key a0 = n ∧ (E.map Prod.snd).Perm l)]) h := Sat.asc g3
 have g5 : Sat ((L ++ [mapA κ m (kvs key E)]) ++ [star ((E.map fun e => obj e.1 e.2).eraseIdx j), obj q a]) h := Sat.csa (g4.sel [1, 2, 0] (by decide) rfl)
 have hj : j < E.length := lt_of_get e1
 have g6 := g5.inn j (by simpa using hj)
 have e4 : (E.map fun e => obj e.1 e.2).set j (obj q a) = (E.set j (q, a)).map fun e => obj e.1 e.2 := by rw [List.map_set]
 rw [e4] at g6
 have e5 : kvs key E = kvs key (E.set j (q, a)) := by
  unfold kvs
  rw [List.map_set]
  refine (List.ext_getElem? fun i => ?_)
  rw [List.getElem?_set]
  split
  ·rename_i e; subst e
   simp only [List.length_map, hj, if_true, List.getElem?_map, e1, Option.map_some, e2, ha]
  ·rfl
 rw [e5] at g6
 refine pm_shut (Sat.asc g6) ?_
 have hnE := (NodK.perm e3).2 hn
 have e6 : (E.set j (q, a)).map Prod.snd = updK key n a (E.map Prod.snd) := by
  rw [List.map_set]
  exact set_updK hnE (j := j) (a := a0) (by rw [List.getElem?_map, e1]; rfl) e2
 rw [e6]
 exact e3.map _
theorem pm_new {P : Program} {t kt et : TypeId} {q : Nat} {a : α} {F : Hp → Prop} (hs : Sat (L ++ [pmA key obj κ m l, obj q a]) h) (hu : P.underlying t = some (.map kt et)) (hk : P.underlying kt = some (.int κ)) (hf : findK key (key a) l = none)
  (hF : ∀ h', (∀ l', l'.Perm (a :: l) → Sat (L ++ [pmA key obj κ m l']) h') → F h') : Hw.muK P t (.map (some m)) (.int κ (key a)) (.pointer (some (bk q))) h F := by
 have g1 : Sat ((L ++ [obj q a]) ++ [pmA key obj κ m l]) h := Sat.csa (hs.sel [1, 0] (by decide) rfl)
 obtain ⟨E, g2, hp⟩ := pm_open g1
 refine g2.muK 0 rfl hu hk ?_
 intro h' g3
 rcases kvs_case (key := key) (key a) E with ⟨q1, _, q3, _⟩ | ⟨j, e, q1, q2, _⟩
 ·rw [q3] at g3
  have g3 : Sat ((L ++ [obj q a]) ++ [mapA κ m (kvs key (E ++ [(q, a)])), star (E.map fun e => obj e.1 e.2)]) h' := by
   have : kvs key (E ++ [(q, a)]) = kvs key E ++ [(key a, .pointer (some (bk q)))] := by simp [kvs]
   rw [this]; exact g3
  have g4 : Sat ((L ++ [mapA κ m (kvs key (E ++ [(q, a)]))]) ++ [star (E.map fun e => obj e.1 e.2), obj q a]) h' := Sat.csa ((Sat.asc g3).sel [1, 2, 0] (by decide) rfl)
  have g5 := g4.into
  have e1 : (E.map fun e => obj e.1 e.2) ++ [obj q a] = (E ++ [(q, a)]).map fun e => obj e.1 e.2 := by simp
  rw [e1] at g5
  refine hF h' fun l' hl' => pm_shut (Sat.asc g5) ?_
  simp only [List.map_append, List.map_cons, List.map_nil]
  exact ((List.perm_append_singleton _ _).trans (hp.cons a)).trans hl'.symm
 ·exact absurd q2 (findK_none hf e.2 (hp.mem_iff.1 (List.mem_map.2 ⟨e, List.mem_of_getElem? q1, rfl⟩)))
theorem pm_newH {P : Program} {t kt et : TypeId} {q : Nat} {a : α} {F : Hp → Prop} (hs : Sat (L ++ [pmA key obj κ m l, obj q a]) h) (hu : P.underlying t = some (.map kt et)) (hk : P.underlying kt = some (.int κ)) (hf : findK key (key a) l = none)
  (hF : ∀ h', (∀ l', l'.Perm (a :: l) → Sat (L ++ [pmH key obj κ m l' (key a) q, obj q a]) h') → F h') : Hw.muK P t (.map (some m)) (.int κ (key a)) (.pointer (some (bk q))) h F := by
 have g1 : Sat ((L ++ [obj q a]) ++ [pmA key obj κ m l]) h := Sat.csa (hs.sel [1, 0] (by decide) rfl)
 obtain ⟨E, g2, hp⟩ := pm_open g1
 refine g2.muK 0 rfl hu hk ?_
 intro h' g3
 rcases kvs_case (key := key) (key a) E with ⟨q1, _, q3, _⟩ | ⟨j, e, q1, q2, _⟩
 ·rw [q3] at g3
  have g3 : Sat ((L ++ [obj q a]) ++ [mapA κ m (kvs key (E ++ [(q, a)])), star (E.map fun e => obj e.1 e.2)]) h' := by
   have : kvs key (E ++ [(q, a)]) = kvs key E ++ [(key a, .pointer (some (bk q)))] := by simp [kvs]
   rw [this]; exact g3
  refine hF h' fun l' hl' => ?_
  have e1 : ((E ++ [(q, a)]).map fun e => obj e.1 e.2).eraseIdx E.length = E.map fun e => obj e.1 e.2 := by
   rw [List.map_append, List.eraseIdx_append_of_length_le (by simp)]
   simp
  have hp2 : ((E ++ [(q, a)]).map Prod.snd).Perm l' := by
   simp only [List.map_append, List.map_cons, List.map_nil]
   exact ((List.perm_append_singleton _ _).trans (hp.cons a)).trans hl'.symm
  have e2 : (E ++ [(q, a)])[E.length]? = some (q, a) := by simp
  rw [← e1] at g3
  have g5 : Sat ((L ++ [obj q a]) ++ [mapA κ m (kvs key (E ++ [(q, a)])), star (((E ++ [(q, a)]).map fun e => obj e.1 e.2).eraseIdx E.length), pur ((E ++ [(q, a)])[E.length]? = some (q, a) ∧ key a = key a ∧ ((E ++ [(q, a)]).map Prod.snd).Perm l')]) h' := g3.andPur ⟨e2, rfl, hp2⟩
  have g6 : Sat ((L ++ [obj q a]) ++ [pmH key obj κ m l' (key a) q]) h' := g5.close.exIn (A := fun x : List (Nat × α) × Nat × α => star [mapA κ m (kvs key x.1), star ((x.1.map fun e => obj e.1 e.2).eraseIdx x.2.1), pur (x.1[x.2.1]? = some (q, x.2.2) ∧ key x.2.2 = key a ∧ (x.1.map Prod.snd).Perm l')]) (E ++ [(q, a)], E.length, a)
  exact (Sat.asc g6).sel [1, 0] (by decide) rfl
 ·exact absurd q2 (findK_none hf e.2 (hp.mem_iff.1 (List.mem_map.2 ⟨e, List.mem_of_getElem? q1, rfl⟩)))
theorem pm_put {P : Program} {t kt et : TypeId} {q : Nat} {a a0 : α} {F : Hp → Prop} (hs : Sat (L ++ [pmA key obj κ m l, obj q a]) h) (hn : NodK key l) (hu : P.underlying t = some (.map kt et)) (hk : P.underlying kt = some (.int κ)) (hf : findK key (key a) l = some a0)
  (hF : ∀ h', Sat (L ++ [pmA key obj κ m (updK key (key a) a l)]) h' → F h') : Hw.muK P t (.map (some m)) (.int κ (key a)) (.pointer (some (bk q))) h F := by
 have g1 : Sat ((L ++ [obj q a]) ++ [pmA key obj κ m l]) h := Sat.csa (hs.sel [1, 0] (by decide) rfl)
 obtain ⟨E, g2, hp⟩ := pm_open g1
 refine g2.muK 0 rfl hu hk ?_
 intro h' g3
 rcases kvs_case (key := key) (key a) E with ⟨q1, _⟩ | ⟨j, e, q1, q2, q3, q4, _⟩
 ·obtain ⟨h1, h2⟩ := findK_some hf
  obtain ⟨e, he, rfl⟩ := List.mem_map.1 (hp.mem_iff.2 h1)
  exact absurd h2 (q1 e he)
 ·rw [q4 q a rfl] at g3
  have g3 : Sat ((L ++ [obj q a]) ++ [mapA κ m (kvs key (E.set j (q, a))), star (E.map fun e => obj e.1 e.2)]) h' := g3
  have g4 := (Sat.csa g3 (A := [_]) (B := [_])).out j (A := obj e.1 e.2) (by rw [List.getElem?_map, q1]; rfl)
  have g5 : Sat (L ++ [obj q a, mapA κ m (kvs key (E.set j (q, a))), star ((E.map fun e => obj e.1 e.2).eraseIdx j), obj e.1 e.2]) h' := Sat.asc (Sat.asc g4)
  have g6 : Sat ((L ++ [mapA κ m (kvs key (E.set j (q, a)))]) ++ [star ((E.map fun e => obj e.1 e.2).eraseIdx j), obj q a]) h' := Sat.csa (g5.sel [1, 2, 0] (by decide) rfl)
  have hj : j < E.length := lt_of_get q1
  have g7 := g6.inn j (by simpa using hj)
  have e4 : (E.map fun e => obj e.1 e.2).set j (obj q a) = (E.set j (q, a)).map fun e => obj e.1 e.2 := by rw [List.map_set]
  rw [e4] at g7
  refine hF h' (pm_shut (Sat.asc g7) ?_)
  have hnE := (NodK.perm hp).2 hn
  have e6 : (E.set j (q, a)).map Prod.snd = updK key (key a) a (E.map Prod.snd) := by
   rw [List.map_set]
   exact set_updK hnE (j := j) (a := e.2) (by rw [List.getElem?_map, q1]; rfl) q2
  rw [e6]
  exact hp.map _
theorem pm_putH {P : Program} {t kt et : TypeId} {q q0 : Nat} {a : α} {F : Hp → Prop} (hs : Sat (L ++ [pmH key obj κ m l (key a) q0, obj q a]) h) (hn : NodK key l) (hu : P.underlying t = some (.map kt et)) (hk : P.underlying kt = some (.int κ))
  (hF : ∀ h', Sat (L ++ [pmA key obj κ m (updK key (key a) a l)]) h' → F h') : Hw.muK P t (.map (some m)) (.int κ (key a)) (.pointer (some (bk q))) h F := by
 have g1 : Sat ((L ++ [obj q a]) ++ [pmH key obj κ m l (key a) q0]) h := Sat.csa (hs.sel [1, 0] (by decide) rfl)
 obtain ⟨⟨E, j, a0⟩, g2⟩ := Sat.exOut g1
 have g2 : Sat ((L ++ [obj q a]) ++ [star [mapA κ m (kvs key E), star ((E.map fun e => obj e.1 e.2).eraseIdx j), pur (E[j]? = some (q0, a0) ∧ key a0 = key a ∧ (E.map Prod.snd).Perm l)]]) h := g2
 have g3 := g2.open
 obtain ⟨e1, e2, e3⟩ := g3.pur 2 rfl
 have hj : j < E.length := lt_of_get e1
 have hnE := (NodK.perm e3).2 hn
 refine g3.muK 0 rfl hu hk ?_
 intro h' g4
 have g5 : Sat (L ++ [obj q a, mapA κ m (kvSet (key a) (.pointer (some (bk q))) (kvs key E)), star ((E.map fun e => obj e.1 e.2).eraseIdx j), pur (E[j]? = some (q0, a0) ∧ key a0 = key a ∧ (E.map Prod.snd).Perm l)]) h' := Sat.asc g4
 have g6 : Sat ((L ++ [mapA κ m (kvSet (key a) (.pointer (some (bk q))) (kvs key E))]) ++ [star ((E.map fun e => obj e.1 e.2).eraseIdx j), obj q a]) h' := Sat.csa (g5.sel [1, 2, 0] (by decide) rfl)
 have g7 := g6.inn j (by simpa using hj)
 have e4 : (E.map fun e => obj e.1 e.2).set j (obj q a) = (E.set j (q, a)).map fun e => obj e.1 e.2 := by rw [List.map_set]
 rw [e4] at g7
 have e5 : kvSet (key a) (.pointer (some (bk q))) (kvs key E) = kvs key (E.set j (q, a)) := by
  rcases kvs_case (key := key) (key a) E with ⟨q1, _⟩ | ⟨j', e, q1, q2, _, q4, _⟩
  ·exact absurd e2 (q1 _ (List.mem_of_getElem? e1))
  ·have : j' = j := by
    have hnE' : E.Pairwise fun a b => key a.2 ≠ key b.2 := (List.pairwise_map (R := fun a b => key a ≠ key b)).1 hnE
    have hj' : j' < E.length := lt_of_get q1
    rw [List.getElem?_eq_getElem hj'] at q1
    rw [List.getElem?_eq_getElem hj] at e1
    rcases Nat.lt_trichotomy j' j with hlt | h0 | hlt
    ·exact absurd (by rw [Option.some.inj q1, Option.some.inj e1]; exact q2.trans e2.symm) (List.pairwise_iff_getElem.1 hnE' j' j hj' hj hlt)
    ·exact h0
    ·exact absurd (by rw [Option.some.inj q1, Option.some.inj e1]; exact e2.trans q2.symm) (List.pairwise_iff_getElem.1 hnE' j j' hj hj' hlt)
   subst this
   exact q4 q a rfl
 rw [e5] at g7
 refine hF h' (pm_shut (Sat.asc g7) ?_)
 have e6 : (E.set j (q, a)).map Prod.snd = updK key (key a) a (E.map Prod.snd) := by
  rw [List.map_set]
  exact set_updK hnE (j := j) (a := a0) (by rw [List.getElem?_map, e1]; rfl) e2
 rw [e6]
 exact e3.map _
theorem pm_del {P : Program} {t kt et : TypeId} {n : Int} {F : Hp → Prop} (hs : Sat (L ++ [pmA key obj κ m l]) h) (hn : NodK key l) (hu : P.underlying t = some (.map kt et)) (hk : P.underlying kt = some (.int κ))
  (hF : ∀ h', Sat (L ++ [pmA key obj κ m (delK key n l)]) h' → F h') : Hw.mdK P t (.map (some m)) (.int κ n) h F := by
 obtain ⟨E, g2, hp⟩ := pm_open hs
 refine g2.mdK 0 rfl hu hk ?_
 intro h' g3
 have hnE := (NodK.perm hp).2 hn
 rcases kvs_case (key := key) n E with ⟨q1, _, _, q3⟩ | ⟨j, e, q1, q2, q3, _, q4⟩
 ·rw [q3] at g3
  refine hF h' (pm_shut g3 ?_)
  rw [delK_none]
  ·exact hp
  ·intro a ha
   obtain ⟨e, he, rfl⟩ := List.mem_map.1 (hp.mem_iff.2 ha)
   exact q1 e he
 ·rw [q4] at g3
  have g4 := (Sat.csa g3 (A := [_]) (B := [_])).out j (A := obj e.1 e.2) (by rw [List.getElem?_map, q1]; rfl)
  have g5 : Sat (L ++ [mapA κ m (kvs key (E.eraseIdx j)), star ((E.map fun e => obj e.1 e.2).eraseIdx j)]) h' := (Sat.asc g4).sel [0, 1] (by decide) rfl
  have e4 : (E.map fun e => obj e.1 e.2).eraseIdx j = (E.eraseIdx j).map fun e => obj e.1 e.2 := by rw [map_erase]
  rw [e4] at g5
  refine hF h' (pm_shut g5 ?_)
  have e6 : (E.eraseIdx j).map Prod.snd = delK key n (E.map Prod.snd) := by
   rw [map_erase]
   exact erase_delK hnE (j := j) (a := e.2) (by rw [List.getElem?_map, q1]; rfl) q2
  rw [e6]
  exact hp.filter _
theorem pm_len {F : List MapEntry → Nat → Prop} (hs : Sat (L ++ [pmA key obj κ m l]) h) (hF : ∀ es c, es.length = l.length → F es c) : xMap h (some m) F := by
 obtain ⟨E, hs, hp⟩ := pm_open hs
 refine hs.xMap 0 rfl ?_
 intro es c he
 refine hF es c ?_
 rw [he.len]
 have := hp.length_eq
 simp only [List.length_map] at this
 simp [kvs, this]
theorem pm_clear {F : Hp → Prop} (hs : Sat (L ++ [pmA key obj κ m l]) h) (hF : ∀ h', Sat (L ++ [pmA key obj κ m ([] : List α)]) h' → F h') : clM h (some m) F := by
 obtain ⟨E, hs, hp⟩ := pm_open hs
 obtain ⟨es, c, h1, h2, h3⟩ := hs.map 0 rfl
 unfold clM
 simp only [h1]
 have g1 : Sat (L ++ [mapA κ m (kvs key E)]) h := hs.sel [0] (by decide) rfl
 have g2 : Sat (L ++ [mapA κ m (kvs key ([] : List (Nat × α)))]) (upd h m (.map #[] c)) :=
  g1.at 0 rfl fun G hG => ⟨G, ⟨hG.1, #[], c, upd_same, rfl, MapKept.stamped_empty c⟩, fun x hx => .inl hx, fun x hx _ => upd_ne fun e => hx ((hG.1 x).2 e)⟩
 have g3 : Sat ((L ++ [mapA κ m (kvs key ([] : List (Nat × α)))]) ++ []) (upd h m (.map #[] c)) := by rw [List.append_nil]; exact g2
 exact hF _ (pm_shut (E := []) (Sat.asc g3.close) (List.Perm.refl _))
theorem pm_mk {b : Nat} (hs : Sat (L ++ [mapA κ b []]) h) : Sat (L ++ [pmA key obj κ b ([] : List α)]) h := by
 have g3 : Sat ((L ++ [mapA κ b (kvs key ([] : List (Nat × α)))]) ++ []) h := by rw [List.append_nil]; exact hs
 exact pm_shut (E := []) (Sat.asc g3.close) (List.Perm.refl _)
end
end
end Go.Hw

set_option linter.unusedVariables false
set_option maxRecDepth 100000
namespace Go.Proofs.Ytkfccpabigikkaa
open Go Go.Hw
noncomputable def B7 : Code := match Try.f7.body with | some c => c | none => .skip
def N7 (x0_0 x0_1 x0_2 x0_3 x0_4 x0_5 x1 : Int) (h : Hp) (K : Option Addr → Hp → Prop) : Prop :=
 nw h (.cells ⟨[.int .u8 x0_0, .int .u8 x0_1, .int .u8 x0_2, .int .u8 x0_3, .int .u8 x0_4, .int .u8 x0_5]⟩ 24) fun b0 h0 =>
 bif (decide (x1 < 1)) then
 K none h0
 else
 bif (decide (x1 > 64)) then
 K none h0
 else
 xI .u8 (cell h0 (bk b0)) fun n0 =>
 xI .u8 (cell h0 ((bk b0).add 1)) fun n1 =>
 xI .u8 (cell h0 ((bk b0).add 2)) fun n2 =>
 xI .u8 (cell h0 ((bk b0).add 3)) fun n3 =>
 xI .u8 (cell h0 ((bk b0).add 4)) fun n4 =>
 xI .u8 (cell h0 ((bk b0).add 5)) fun n5 =>
 nw h0 (.map #[] 0) fun b1 h1 =>
 nw h1 (.cells ⟨[.int .u8 n0, .int .u8 n1, .int .u8 n2, .int .u8 n3, .int .u8 n4, .int .u8 n5, .int .i64 x1, .map (some b1), .int .i64 0]⟩ 76) fun b2 h2 =>
 K (some (bk b2)) h2
theorem S7 {x0_0 x0_1 x0_2 x0_3 x0_4 x0_5 x1 : Int} {h : Hp} {K : Option Addr → Hp → Prop} (hn : N7 x0_0 x0_1 x0_2 x0_3 x0_4 x0_5 x1 h K) : C7 x0_0 x0_1 x0_2 x0_3 x0_4 x0_5 x1 h K := by
 refine calls_of_D Try.func7 (c := B7) rfl (by kernel_rfl) ?_
 refine den_sound hE hm _ .leaf _ _ _ (annOk_leaf) ?_
 refine cast ?_ hn
 kernel_rfl
end Go.Proofs.Ytkfccpabigikkaa

set_option linter.unusedVariables false
set_option maxRecDepth 100000
namespace Go.Proofs.Ytkfccpabigikkaa
open Go Go.Hw
noncomputable def B37 : Code := match Try.f37.body with | some c => c | none => .skip
def N37 (x0 : Option Addr) (x1 : Int) (h : Hp) (K : Hp → Prop) : Prop :=
 nn x0 fun a0 =>
 xI .i64 (cell h (a0.add 8)) fun n0 =>
 nn x0 fun a1 =>
 st h (a1.add 8) (.int .i64 (mx n0 (mn x1 1125899906842624))) fun h0 =>
 K h0
theorem S37 {x0 : Option Addr} {x1 : Int} {h : Hp} {K : Hp → Prop} (hn : N37 x0 x1 h K) : C37 x0 x1 h K := by
 refine calls_of_D Try.func37 (c := B37) rfl (by kernel_rfl) ?_
 refine den_sound hE hm _ .leaf _ _ _ (annOk_leaf) ?_
 refine cast ?_ hn
 kernel_rfl
end Go.Proofs.Ytkfccpabigikkaa

set_option linter.unusedVariables false
set_option maxRecDepth 100000
namespace Go.Proofs.Ytkfccpabigikkaa
open Go Go.Hw
noncomputable def B38 : Code := match Try.f38.body with | some c => c | none => .skip
def N38 (x0 : Option Addr) (h : Hp) (K : Bool → Hp → Prop) : Prop :=
 nn x0 fun a0 =>
 xI .i64 (cell h (a0.add 7)) fun n0 =>
 K (n0 == 0) h
theorem S38 {x0 : Option Addr} {h : Hp} {K : Bool → Hp → Prop} (hn : N38 x0 h K) : C38 x0 h K := by
 refine calls_of_D Try.func38 (c := B38) rfl (by kernel_rfl) ?_
 refine den_sound hE hm _ .leaf _ _ _ (annOk_leaf) ?_
 refine cast ?_ hn
 kernel_rfl
end Go.Proofs.Ytkfccpabigikkaa

set_option linter.unusedVariables false
set_option maxRecDepth 100000
namespace Go.Proofs.Ytkfccpabigikkaa
open Go Go.Hw
noncomputable def B41 : Code := match Try.f41.body with | some c => c | none => .skip
def N41 (x0 : Option Addr) (x1 : Int) (h : Hp) (K : Int → Hp → Prop) : Prop :=
 nn x0 fun a0 =>
 xI .i64 (cell h (a0.add 8)) fun n0 =>
 K (mn (IntKind.wrap .i64 (n0 + x1)) 1125899906842624) h
theorem S41 {x0 : Option Addr} {x1 : Int} {h : Hp} {K : Int → Hp → Prop} (hn : N41 x0 x1 h K) : C41 x0 x1 h K := by
 refine calls_of_D Try.func41 (c := B41) rfl (by kernel_rfl) ?_
 refine den_sound hE hm _ .leaf _ _ _ (annOk_leaf) ?_
 refine cast ?_ hn
 kernel_rfl
end Go.Proofs.Ytkfccpabigikkaa

set_option linter.unusedVariables false
set_option maxRecDepth 100000
namespace Go.Proofs.Ytkfccpabigikkaa
open Go Go.Hw
noncomputable def B51 : Code := match Try.f51.body with | some c => c | none => .skip
def N51_l0_b (x9 : Option Addr) (Φ : Sl → Hp → Prop) (x3 : Sl) (h : Hp) (K0 : Sl → Hp → Prop) : Prop :=
 nxM h x9 fun b0 r0 h0 =>
 bif b0 then
 enM h0 x9 fun v0 v1 =>
 xI .u32 (some v0) fun n0 =>
 nw h0 (.cells ⟨[.int .u32 n0]⟩ 39) fun b1 h1 =>
 apK Try.prog 39 x3 (.slice (some (bk b1)) 1 1) h1 fun s0 h2 =>
 Φ s0 h2
 else
 K0 x3 h0
def N51_l0_B (x9 : Option Addr) (K0 : Sl → Hp → Prop) (s : Sg.T [(3, .c (.slice))]) (h : Hp) (Φ : Sg.T [(3, .c (.slice))] → Hp → Prop) : Prop :=
 N51_l0_b x9 (fun x3 h => Φ x3 h) s h K0
def N51_l0 (x9 : Option Addr) (x3 : Sl) (h : Hp) (K0 : Sl → Hp → Prop) : Prop :=
 loopP (N51_l0_B x9 K0) x3 h
noncomputable def N51_l0_t : Xf := loopT [(9, .c (.ptr))] [(3, .c (.slice))] (codeAt B51 [1, 1, 0, 1, 0, 0]) fun F Q => N51_l0_B F (fun o0 h' => Q (.exit 0) (Sg.env [(3, .c (.slice))] o0) h')
theorem N51_l0_ok : Sound Try.prog Try.f51.ntmps N51_l0_t (codeAt B51 [1, 1, 0, 1, 0]) := by
 refine loop_sound (fun e => match e with | .exit 0 => [3] | _ => []) (by kernel_rfl) ?_
 intro F Q s h Φ hb
 refine den_sound hE hm _ .leaf _ _ _ (annOk_leaf) ?_
 refine cast ?_ hb
 kernel_rfl
def N51 (x0 : Option Addr) (h : Hp) (K : Sl → Hp → Prop) : Prop :=
 nn x0 fun a0 =>
 xM (cell h (a0.add 7)) fun m0 =>
 rgM h m0 fun p0 h0 =>
 N51_l0 p0 ⟨none, 0, 0⟩ h0
 (fun s0 h1 =>
 C71 s0 h1 fun h2 =>
 K s0 h2)
theorem S51 {x0 : Option Addr} {h : Hp} {K : Sl → Hp → Prop} (hn : N51 x0 h K) : C51 x0 h K := by
 refine calls_of_D Try.func51 (c := B51) rfl (by kernel_rfl) ?_
 refine den_sound hE hm _ (.two .leaf (.two .leaf (.two (.two .leaf (.one (.xf N51_l0_t))) .leaf))) _ _ _ (⟨annOk_leaf, ⟨annOk_leaf, ⟨⟨annOk_leaf, N51_l0_ok⟩, annOk_leaf⟩⟩⟩) ?_
 refine cast ?_ hn
 kernel_rfl
end Go.Proofs.Ytkfccpabigikkaa

set_option linter.unusedVariables false
set_option maxRecDepth 100000
namespace Go.Proofs.Ytkfccpabigikkaa
open Go Go.Hw
noncomputable def B40 : Code := match Try.f40.body with | some c => c | none => .skip
def N40_j1 (x0 : Option Addr) (x3 : Bool) (x4 x6 : Int) (x19 : Sl) (x20 x21 : Int) (x52 : Bool) (h : Hp) (Kn : Bool → Int → Hp → Prop) : Prop :=
 bif x52 then
 Kn true x6 h
 else
 Kn x3 x4 h
noncomputable def N40_j1_t : Xf := pieceT [(0, .c (.ptr)), (3, .c (.bool)), (4, .c (.int .u32)), (6, .c (.int .u32)), (19, .c (.slice)), (20, .c (.int .i64)), (21, .c (.int .i64)), (52, .c (.bool))] (codeAt B40 [1, 1, 1, 1, 0, 1, 0, 0, 1, 1, 0, 0, 1, 1, 1]) fun x h Q => N40_j1 x.1 x.2.1 x.2.2.1 x.2.2.2.1 x.2.2.2.2.1 x.2.2.2.2.2.1 x.2.2.2.2.2.2.1 x.2.2.2.2.2.2.2 h (fun o0 o1 h' => Q .normal (Sg.env [(3, .c (.bool)), (4, .c (.int .u32))] (o0, o1)) h')
theorem N40_j1_ok : Sound Try.prog Try.f40.ntmps N40_j1_t (codeAt B40 [1, 1, 1, 1, 0, 1, 0, 0, 1, 1, 0, 0, 1, 1, 1]) := by
 refine piece_sound (fun e => match e with | .normal => [3, 4] | _ => []) ?_
 intro x h Q hb
 refine den_sound hE hm _ .leaf _ _ _ (annOk_leaf) ?_
 refine cast ?_ hb
 kernel_rfl
def N40_l0_b (x0 : Option Addr) (x19 : Sl) (x20 : Int) (Φ : Bool → Int → Int → Hp → Prop) (x3 : Bool) (x4 x21 : Int) (h : Hp) (K0 : Bool → Int → Hp → Prop) : Prop :=
 bif (decide (x21 < x20)) then
 idx x21 x19.n <|
 nn x19.p fun a0 =>
 xI .u32 (cell h (a0.add (x21.toNat * 1))) fun n0 =>
 nn x0 fun a1 =>
 xM (cell h (a1.add 7)) fun m0 =>
 xMap h m0 fun es0 _ =>
 keyAt (.int .u32) (.int .u32 n0) es0 fun r0 =>
 xP (some (rval r0 (.pointer none))) fun p0 =>
 C38 p0 h fun b0 h0 =>
 bif b0 then
 bif (!x3) then
 N40_j1 x0 x3 x4 n0 x19 x20 x21 true h0
 (fun b1 n1 h1 =>
 Φ b1 n1 (IntKind.wrap .i64 (x21 + 1)) h1)
 else
 nn p0 fun a2 =>
 xI .i64 (cell h0 (a2.add 6)) fun n2 =>
 nn x0 fun a3 =>
 xM (cell h0 (a3.add 7)) fun m1 =>
 xMap h0 m1 fun es1 _ =>
 keyAt (.int .u32) (.int .u32 x4) es1 fun r1 =>
 xP (some (rval r1 (.pointer none))) fun p1 =>
 nn p1 fun a4 =>
 xI .i64 (cell h0 (a4.add 6)) fun n3 =>
 N40_j1 x0 x3 x4 n0 x19 x20 x21 (decide (n2 < n3)) h0
 (fun b2 n4 h2 =>
 Φ b2 n4 (IntKind.wrap .i64 (x21 + 1)) h2)
 else
 N40_j1 x0 x3 x4 n0 x19 x20 x21 false h0
 (fun b3 n5 h3 =>
 Φ b3 n5 (IntKind.wrap .i64 (x21 + 1)) h3)
 else
 K0 x3 x4 h
def N40_l0_B (x0 : Option Addr) (x19 : Sl) (x20 : Int) (K0 : Bool → Int → Hp → Prop) (s : Sg.T [(3, .c (.bool)), (4, .c (.int .u32)), (21, .c (.int .i64))]) (h : Hp) (Φ : Sg.T [(3, .c (.bool)), (4, .c (.int .u32)), (21, .c (.int .i64))] → Hp → Prop) : Prop :=
 N40_l0_b x0 x19 x20 (fun x3 x4 x21 h => Φ (x3, x4, x21) h) s.1 s.2.1 s.2.2 h K0
def N40_l0 (x0 : Option Addr) (x19 : Sl) (x20 : Int) (x3 : Bool) (x4 x21 : Int) (h : Hp) (K0 : Bool → Int → Hp → Prop) : Prop :=
 loopP (N40_l0_B x0 x19 x20 K0) (x3, x4, x21) h
noncomputable def N40_l0_t : Xf := loopT [(0, .c (.ptr)), (19, .c (.slice)), (20, .c (.int .i64))] [(3, .c (.bool)), (4, .c (.int .u32)), (21, .c (.int .i64))] (codeAt B40 [1, 1, 1, 1, 0, 1, 0, 0]) fun F Q => N40_l0_B F.1 F.2.1 F.2.2 (fun o0 o1 h' => Q (.exit 0) (Sg.env [(3, .c (.bool)), (4, .c (.int .u32))] (o0, o1)) h')
theorem N40_l0_ok : Sound Try.prog Try.f40.ntmps N40_l0_t (codeAt B40 [1, 1, 1, 1, 0, 1, 0]) := by
 refine loop_sound (fun e => match e with | .exit 0 => [3, 4] | _ => []) (by kernel_rfl) ?_
 intro F Q s h Φ hb
 refine den_sound hE hm _ (.two .leaf (.two .leaf (.two (.one (.two .leaf (.two .leaf (.two (.ord [0, 1, 2, 3, 4, 5, 6, 7, 8, 9, 10, 11, 12, 13, 14, 15, 16, 17, 18, 19, 20, 21]) (.xf N40_j1_t))))) .leaf))) _ _ _ (⟨annOk_leaf, ⟨annOk_leaf, ⟨⟨annOk_leaf, ⟨annOk_leaf, ⟨trivial, N40_j1_ok⟩⟩⟩, annOk_leaf⟩⟩⟩) ?_
 refine cast ?_ hb
 kernel_rfl
def N40 (x0 : Option Addr) (h : Hp) (K : Bool → Hp → Prop) : Prop :=
 nn x0 fun a0 =>
 xM (cell h (a0.add 7)) fun m0 =>
 xMap h m0 fun es0 _ =>
 nn x0 fun a1 =>
 xI .i64 (cell h (a1.add 6)) fun n0 =>
 bif (decide ((es0.length : Int) < n0)) then
 K true h
 else
 C51 x0 h fun s0 h0 =>
 N40_l0 x0 s0 ((s0.n : Nat) : Int) false 0 0 h0
 (fun b0 n1 h1 =>
 bif b0 then
 nn x0 fun a2 =>
 xM (cell h1 (a2.add 7)) fun m1 =>
 mdK Try.prog 74 (.map m1) (.int .u32 n1) h1 fun h2 =>
 K b0 h2
 else
 K b0 h1)
theorem S40 {x0 : Option Addr} {h : Hp} {K : Bool → Hp → Prop} (hn : N40 x0 h K) : C40 x0 h K := by
 refine calls_of_D Try.func40 (c := B40) rfl (by kernel_rfl) ?_
 refine den_sound hE hm _ (.two .leaf (.two (.two (.ord [0, 1, 2, 3, 4, 5, 6, 7, 8, 9]) .leaf) (.two .leaf (.two .leaf (.two (.two .leaf (.one (.xf N40_l0_t))) .leaf))))) _ _ _ (⟨annOk_leaf, ⟨⟨trivial, annOk_leaf⟩, ⟨annOk_leaf, ⟨annOk_leaf, ⟨⟨annOk_leaf, N40_l0_ok⟩, annOk_leaf⟩⟩⟩⟩⟩) ?_
 refine cast ?_ hn
 kernel_rfl
end Go.Proofs.Ytkfccpabigikkaa

set_option linter.unusedVariables false
set_option maxRecDepth 100000
namespace Go.Proofs.Ytkfccpabigikkaa
open Go Go.Hw
noncomputable def B42 : Code := match Try.f42.body with | some c => c | none => .skip
def N42 (x0 : Option Addr) (x1 : Int) (x2 : Option Addr) (h : Hp) (K : Int → Int → Int → Int → Int → Int → Int → Sl → Hp → Prop) : Prop :=
 nw h (.cells ⟨[.int .u8 0, .int .u8 0, .int .u8 0, .int .u8 0, .int .u8 0, .int .u8 0, .int .i64 0, .slice none 0 0]⟩ 59) fun b0 h0 =>
 nn x0 fun a0 =>
 xI .u8 (cell h0 a0) fun n0 =>
 xI .u8 (cell h0 (a0.add 1)) fun n1 =>
 xI .u8 (cell h0 (a0.add 2)) fun n2 =>
 xI .u8 (cell h0 (a0.add 3)) fun n3 =>
 xI .u8 (cell h0 (a0.add 4)) fun n4 =>
 xI .u8 (cell h0 (a0.add 5)) fun n5 =>
 nn x2 fun a1 =>
 xI .u32 (cell h0 (a1.add 8)) fun n6 =>
 C64 n0 n1 n2 n3 n4 n5 n6 x1 h0 fun n7 n8 n9 n10 n11 n12 n13 n14 n15 n16 n17 n18 n19 n20 n21 h1 =>
 C49 n7 n8 n9 n10 n11 n12 n13 n14 n15 n16 n17 n18 n19 n20 n21 h1 fun s0 n22 h2 =>
 C65 h2 fun n23 n24 n25 n26 n27 n28 h3 =>
 st h3 (bk b0) (.int .u8 n23) fun h4 =>
 st h4 ((bk b0).add 1) (.int .u8 n24) fun h5 =>
 st h5 ((bk b0).add 2) (.int .u8 n25) fun h6 =>
 st h6 ((bk b0).add 3) (.int .u8 n26) fun h7 =>
 st h7 ((bk b0).add 4) (.int .u8 n27) fun h8 =>
 st h8 ((bk b0).add 5) (.int .u8 n28) fun h9 =>
 st h9 ((bk b0).add 6) (.int .i64 2054) fun h10 =>
 st h10 ((bk b0).add 7) (.slice s0.p s0.n s0.c) fun h11 =>
 xI .u8 (cell h11 (bk b0)) fun n29 =>
 xI .u8 (cell h11 ((bk b0).add 1)) fun n30 =>
 xI .u8 (cell h11 ((bk b0).add 2)) fun n31 =>
 xI .u8 (cell h11 ((bk b0).add 3)) fun n32 =>
 xI .u8 (cell h11 ((bk b0).add 4)) fun n33 =>
 xI .u8 (cell h11 ((bk b0).add 5)) fun n34 =>
 xI .i64 (cell h11 ((bk b0).add 6)) fun n35 =>
 xL (cell h11 ((bk b0).add 7)) fun s1 =>
 K n29 n30 n31 n32 n33 n34 n35 s1 h11
theorem S42 {x0 : Option Addr} {x1 : Int} {x2 : Option Addr} {h : Hp} {K : Int → Int → Int → Int → Int → Int → Int → Sl → Hp → Prop} (hn : N42 x0 x1 x2 h K) : C42 x0 x1 x2 h K := by
 refine calls_of_M Try.func42 (c := B42) rfl (by kernel_rfl) ?_
 refine den_sound hE hm _ (.two .leaf (.two (.ord [0, 1, 2, 3, 4, 5, 6, 7, 8, 9, 10, 11, 12, 13, 14, 15]) .leaf)) _ _ _ (⟨annOk_leaf, ⟨trivial, annOk_leaf⟩⟩) ?_
 refine cast ?_ hn
 kernel_rfl
end Go.Proofs.Ytkfccpabigikkaa

set_option linter.unusedVariables false
set_option maxRecDepth 100000
namespace Go.Proofs.Ytkfccpabigikkaa
open Go Go.Hw
noncomputable def B20 : Code := match Try.f20.body with | some c => c | none => .skip
def N20 (x0 : Option Addr) (h : Hp) (K : Hp → Prop) : Prop :=
 nn x0 fun a0 =>
 xM (cell h (a0.add 7)) fun m0 =>
 clM h m0 fun h0 =>
 K h0
theorem S20 {x0 : Option Addr} {h : Hp} {K : Hp → Prop} (hn : N20 x0 h K) : C20 x0 h K := by
 refine calls_of_D Try.func20 (c := B20) rfl (by kernel_rfl) ?_
 refine den_sound hE hm _ .leaf _ _ _ (annOk_leaf) ?_
 refine cast ?_ hn
 kernel_rfl
end Go.Proofs.Ytkfccpabigikkaa

set_option linter.unusedVariables false
set_option maxRecDepth 100000
namespace Go.Proofs.Ytkfccpabigikkaa
open Go Go.Hw
end Go.Proofs.Ytkfccpabigikkaa

set_option linter.unusedVariables false
set_option maxRecDepth 100000
namespace Go.Proofs.Ytkfccpabigikkaa
open Go Go.Hw
noncomputable def B21 : Code := match Try.f21.body with | some c => c | none => .skip
def N21_j1 (x0 : Option Addr) (x3 : Sl) (x7 : Option Addr) (x9 : Sl) (x10 x11 : Int) (h : Hp) (Kn : Sl → Hp → Prop) : Prop :=
 nn x7 fun a0 =>
 xI .u32 (cell h a0) fun n0 =>
 xI .u8 (cell h (a0.add 1)) fun n1 =>
 xI .u8 (cell h (a0.add 2)) fun n2 =>
 xI .u8 (cell h (a0.add 3)) fun n3 =>
 xI .u8 (cell h (a0.add 4)) fun n4 =>
 xI .u8 (cell h (a0.add 5)) fun n5 =>
 xI .u8 (cell h (a0.add 6)) fun n6 =>
 xI .i64 (cell h (a0.add 7)) fun n7 =>
 xI .i64 (cell h (a0.add 8)) fun n8 =>
 xI .i64 (cell h (a0.add 9)) fun n9 =>
 xB (cell h (a0.add 10)) fun b0 =>
 nw h (.cells ⟨[.int .u32 n0, .int .u8 n1, .int .u8 n2, .int .u8 n3, .int .u8 n4, .int .u8 n5, .int .u8 n6, .int .i64 n7, .int .i64 n8, .int .i64 n9, .bool b0]⟩ 68) fun b1 h0 =>
 apK Try.prog 68 x3 (.slice (some (bk b1)) 1 1) h0 fun s0 h1 =>
 Kn s0 h1
noncomputable def N21_j1_t : Xf := pieceT [(0, .c (.ptr)), (3, .c (.slice)), (7, .c (.ptr)), (9, .c (.slice)), (10, .c (.int .i64)), (11, .c (.int .i64))] (codeAt B21 [1, 1, 0, 1, 0, 0, 1, 1, 0, 0, 1, 1, 1, 1]) fun x h Q => N21_j1 x.1 x.2.1 x.2.2.1 x.2.2.2.1 x.2.2.2.2.1 x.2.2.2.2.2 h (fun o0 h' => Q .normal (Sg.env [(3, .c (.slice))] o0) h')
theorem N21_j1_ok : Sound Try.prog Try.f21.ntmps N21_j1_t (codeAt B21 [1, 1, 0, 1, 0, 0, 1, 1, 0, 0, 1, 1, 1, 1]) := by
 refine piece_sound (fun e => match e with | .normal => [3] | _ => []) ?_
 intro x h Q hb
 refine den_sound hE hm _ .leaf _ _ _ (annOk_leaf) ?_
 refine cast ?_ hb
 kernel_rfl
def N21_l0_b (x0 : Option Addr) (x9 : Sl) (x10 : Int) (Φ : Sl → Int → Hp → Prop) (x3 : Sl) (x11 : Int) (h : Hp) (K0 : Sl → Hp → Prop) : Prop :=
 bif (decide (x11 < x10)) then
 idx x11 x9.n <|
 nn x9.p fun a0 =>
 xI .u32 (cell h (a0.add (x11.toNat * 1))) fun n0 =>
 nn x0 fun a1 =>
 xM (cell h (a1.add 7)) fun m0 =>
 xMap h m0 fun es0 _ =>
 keyAt (.int .u32) (.int .u32 n0) es0 fun r0 =>
 xP (some (rval r0 (.pointer none))) fun p0 =>
 nn p0 fun a2 =>
 xI .u8 (cell h a2) fun n1 =>
 xI .u8 (cell h (a2.add 1)) fun n2 =>
 xI .u8 (cell h (a2.add 2)) fun n3 =>
 xI .u8 (cell h (a2.add 3)) fun n4 =>
 xI .u8 (cell h (a2.add 4)) fun n5 =>
 xI .u8 (cell h (a2.add 5)) fun n6 =>
 nn p0 fun a3 =>
 xI .i64 (cell h (a3.add 6)) fun n7 =>
 nw h (.cells ⟨[.int .u32 0, .int .u8 0, .int .u8 0, .int .u8 0, .int .u8 0, .int .u8 0, .int .u8 0, .int .i64 0, .int .i64 0, .int .i64 0, .bool false]⟩ 68) fun b0 h0 =>
 both (xI .i64 (cell h0 (a3.add 6)) fun n8 => Only (.int .i64 n7) h0 (.int .i64 n8) h0) <|
 both (xI .u8 (cell h0 a2) fun n9 => xI .u8 (cell h0 (a2.add 1)) fun n10 => xI .u8 (cell h0 (a2.add 2)) fun n11 => xI .u8 (cell h0 (a2.add 3)) fun n12 => xI .u8 (cell h0 (a2.add 4)) fun n13 => xI .u8 (cell h0 (a2.add 5)) fun n14 => Only (.agg ⟨[.int .u8 n1, .int .u8 n2, .int .u8 n3, .int .u8 n4, .int .u8 n5, .int .u8 n6]⟩) h0 (.agg ⟨[.int .u8 n9, .int .u8 n10, .int .u8 n11, .int .u8 n12, .int .u8 n13, .int .u8 n14]⟩) h0) <|
 st h0 (bk b0) (.int .u32 n0) fun h1 =>
 st h1 ((bk b0).add 1) (.int .u8 n1) fun h2 =>
 st h2 ((bk b0).add 2) (.int .u8 n2) fun h3 =>
 st h3 ((bk b0).add 3) (.int .u8 n3) fun h4 =>
 st h4 ((bk b0).add 4) (.int .u8 n4) fun h5 =>
 st h5 ((bk b0).add 5) (.int .u8 n5) fun h6 =>
 st h6 ((bk b0).add 6) (.int .u8 n6) fun h7 =>
 st h7 ((bk b0).add 7) (.int .i64 2) fun h8 =>
 st h8 ((bk b0).add 8) (.int .i64 n7) fun h9 =>
 st h9 ((bk b0).add 9) (.int .i64 0) fun h10 =>
 st h10 ((bk b0).add 10) (.bool false) fun h11 =>
 C38 p0 h11 fun b1 h12 =>
 bif (!b1) then
 nn p0 fun a4 =>
 xI .i64 (cell h12 (a4.add 6)) fun n15 =>
 nn p0 fun a5 =>
 xI .i64 (cell h12 (a5.add 7)) fun n16 =>
 st h12 (bk b0) (.int .u32 n0) fun h13 =>
 st h13 ((bk b0).add 1) (.int .u8 0) fun h14 =>
 st h14 ((bk b0).add 2) (.int .u8 0) fun h15 =>
 st h15 ((bk b0).add 3) (.int .u8 0) fun h16 =>
 st h16 ((bk b0).add 4) (.int .u8 0) fun h17 =>
 st h17 ((bk b0).add 5) (.int .u8 0) fun h18 =>
 st h18 ((bk b0).add 6) (.int .u8 0) fun h19 =>
 st h19 ((bk b0).add 7) (.int .i64 1) fun h20 =>
 st h20 ((bk b0).add 8) (.int .i64 n15) fun h21 =>
 st h21 ((bk b0).add 9) (.int .i64 n16) fun h22 =>
 st h22 ((bk b0).add 10) (.bool true) fun h23 =>
 N21_j1 x0 x3 (some (bk b0)) x9 x10 x11 h23
 (fun s0 h24 =>
 Φ s0 (IntKind.wrap .i64 (x11 + 1)) h24)
 else
 N21_j1 x0 x3 (some (bk b0)) x9 x10 x11 h12
 (fun s1 h25 =>
 Φ s1 (IntKind.wrap .i64 (x11 + 1)) h25)
 else
 K0 x3 h
def N21_l0_B (x0 : Option Addr) (x9 : Sl) (x10 : Int) (K0 : Sl → Hp → Prop) (s : Sg.T [(3, .c (.slice)), (11, .c (.int .i64))]) (h : Hp) (Φ : Sg.T [(3, .c (.slice)), (11, .c (.int .i64))] → Hp → Prop) : Prop :=
 N21_l0_b x0 x9 x10 (fun x3 x11 h => Φ (x3, x11) h) s.1 s.2 h K0
def N21_l0 (x0 : Option Addr) (x9 : Sl) (x10 : Int) (x3 : Sl) (x11 : Int) (h : Hp) (K0 : Sl → Hp → Prop) : Prop :=
 loopP (N21_l0_B x0 x9 x10 K0) (x3, x11) h
noncomputable def N21_l0_t : Xf := loopT [(0, .c (.ptr)), (9, .c (.slice)), (10, .c (.int .i64))] [(3, .c (.slice)), (11, .c (.int .i64))] (codeAt B21 [1, 1, 0, 1, 0, 0]) fun F Q => N21_l0_B F.1 F.2.1 F.2.2 (fun o0 h' => Q (.exit 0) (Sg.env [(3, .c (.slice))] o0) h')
theorem N21_l0_ok : Sound Try.prog Try.f21.ntmps N21_l0_t (codeAt B21 [1, 1, 0, 1, 0]) := by
 refine loop_sound (fun e => match e with | .exit 0 => [3] | _ => []) (by kernel_rfl) ?_
 intro F Q s h Φ hb
 refine den_sound hE hm _ (.two .leaf (.two .leaf (.two (.one (.two .leaf (.two .leaf (.two (.ord [0, 1, 2, 3, 4, 5, 6, 7, 8, 9, 10, 11]) (.two (.two .leaf (.two (.ord [0, 1, 2, 3, 4, 5, 6, 7, 8, 9, 10]) .leaf)) (.xf N21_j1_t)))))) .leaf))) _ _ _ (⟨annOk_leaf, ⟨annOk_leaf, ⟨⟨annOk_leaf, ⟨annOk_leaf, ⟨trivial, ⟨⟨annOk_leaf, ⟨trivial, annOk_leaf⟩⟩, N21_j1_ok⟩⟩⟩⟩, annOk_leaf⟩⟩⟩) ?_
 refine cast ?_ hb
 kernel_rfl
def N21 (x0 : Option Addr) (h : Hp) (K : Sl → Hp → Prop) : Prop :=
 C51 x0 h fun s0 h0 =>
 N21_l0 x0 s0 ((s0.n : Nat) : Int) ⟨none, 0, 0⟩ 0 h0
 (fun s1 h1 =>
 K s1 h1)
theorem S21 {x0 : Option Addr} {h : Hp} {K : Sl → Hp → Prop} (hn : N21 x0 h K) : C21 x0 h K := by
 refine calls_of_D Try.func21 (c := B21) rfl (by kernel_rfl) ?_
 refine den_sound hE hm _ (.two .leaf (.two .leaf (.two (.two .leaf (.one (.xf N21_l0_t))) .leaf))) _ _ _ (⟨annOk_leaf, ⟨annOk_leaf, ⟨⟨annOk_leaf, N21_l0_ok⟩, annOk_leaf⟩⟩⟩) ?_
 refine cast ?_ hn
 kernel_rfl
end Go.Proofs.Ytkfccpabigikkaa

/-
 The cache: its state, the program's cache in memory, the small functions.
-/
set_option linter.unusedSimpArgs false
set_option linter.unusedVariables false
set_option maxRecDepth 4000
namespace Go.Proofs.Ytkfccpabigikkaa
open Go Go.Hw
structure NE where
 ip : Int
 mac : M6
 til : Int
 tries : Int
 src : Int
 pk : List UInt8
structure Ca where
 own : M6
 most : Int
 l : List NE
 now : Int
abbrev keyE (e : NE) : Int := e.ip
abbrev maxT : Int := 1125899906842624
def mac0 : M6 := ⟨0, 0, 0, 0, 0, 0⟩
structure NE.ok (e : NE) : Prop where
 ip : 0 ≤ e.ip ∧ e.ip < 4294967296
 mac : e.mac.ok
 til : 0 ≤ e.til ∧ e.til ≤ maxT
 tries : 0 ≤ e.tries ∧ e.tries ≤ 3
 src : 0 ≤ e.src ∧ e.src < 4294967296
 known : e.tries = 0 → e.src = 0 ∧ e.pk = []
 asked : e.tries ≠ 0 → e.mac = mac0
 pk : e.pk.length ≤ 1099511627776
structure Ca.ok (c : Ca) : Prop where
 own : c.own.ok
 most : 1 ≤ c.most ∧ c.most ≤ 64
 srt : c.l.Pairwise fun a b => a.ip < b.ip
 all : ∀ e ∈ c.l, e.ok
 len : (c.l.length : Int) ≤ c.most
 now : 0 ≤ c.now ∧ c.now ≤ maxT
theorem srt_nod {l : List NE} (h : l.Pairwise fun a b => a.ip < b.ip) : NodK keyE l := h.imp fun h e => by simp only [keyE] at e; omega
theorem Ca.ok.nod {c : Ca} (h : c.ok) : NodK keyE c.l := srt_nod h.srt
def tellC (c : Ca) (now : Int) : Ca := { c with now := max c.now (min now maxT) }
def behindC (c : Ca) (n : Int) : Int := min (c.now + n) maxT
def leastK : Option NE → List NE → Option NE
 | b, [] => b
 | none, e :: l => leastK (if e.tries = 0 then some e else none) l
 | some x, e :: l => leastK (if e.tries = 0 ∧ e.til < x.til then some e else some x) l
def roomL (most : Int) (l : List NE) : Option (List NE) := if (l.length : Int) < most then some l else match leastK none l with
 | none => none
 | some e => some (delK keyE e.ip l)
def putL' (e : NE) : List NE → List NE
 | [] => [e]
 | x :: l => if x.ip > e.ip then e :: x :: l else x :: putL' e l
theorem putL_perm (e : NE) : ∀ l : List NE, (putL' e l).Perm (e :: l)
 | [] => List.Perm.refl _
 | p :: l => by
  unfold putL'
  split
  ·exact List.Perm.refl _
  ·exact ((putL_perm e l).cons p).trans (List.Perm.swap _ _ _)
structure Snd where
 dst : M6
 kind : Int
 data : List UInt8
def questC (c : Ca) (e : NE) : Snd := ⟨oneEighty, 2054, arpL 1 c.own e.src mac0 e.ip⟩
def entC (e : NE) (s : Sl) : List Value := [.int .u8 e.mac.a, .int .u8 e.mac.b, .int .u8 e.mac.c, .int .u8 e.mac.d, .int .u8 e.mac.e, .int .u8 e.mac.f, .int .i64 e.til, .int .i64 e.tries, .int .u32 e.src, s.v]
def entA (q : Nat) (e : NE) : Asn := exs fun s : Sl => star [row q 88 (entC e s), Hw.own 5 1 s (bc e.pk)]
def caC (c : Ca) (m : Nat) : List Value := [.int .u8 c.own.a, .int .u8 c.own.b, .int .u8 c.own.c, .int .u8 c.own.d, .int .u8 c.own.e, .int .u8 c.own.f, .int .i64 c.most, .map (some m), .int .i64 c.now]
def cacheA (b : Nat) (c : Ca) : Asn := exs fun m : Nat => star [row b 76 (caC c m), pmA keyE entA .u32 m c.l]
theorem cache_open {L : List Asn} {b : Nat} {c : Ca} {h : Hp} (hs : Sat (L ++ [cacheA b c]) h) : ∃ m, Sat (L ++ [row b 76 (caC c m), pmA keyE entA .u32 m c.l]) h := by
 obtain ⟨m, hs⟩ := hs.exOut
 have hs : Sat (L ++ [star [row b 76 (caC c m), pmA keyE entA .u32 m c.l]]) h := hs
 exact ⟨m, hs.open⟩
theorem cache_shut {L : List Asn} {b m : Nat} {c : Ca} {h : Hp} (hs : Sat (L ++ [row b 76 (caC c m), pmA keyE entA .u32 m c.l]) h) : Sat (L ++ [cacheA b c]) h := by
 have h2 := hs.close
 unfold cacheA
 exact h2.exIn m
theorem ent_open {L : List Asn} {q : Nat} {e : NE} {h : Hp} (hs : Sat (L ++ [entA q e]) h) : ∃ s, Sat (L ++ [row q 88 (entC e s), Hw.own 5 1 s (bc e.pk)]) h := by
 obtain ⟨s, hs⟩ := hs.exOut
 have hs : Sat (L ++ [star [row q 88 (entC e s), Hw.own 5 1 s (bc e.pk)]]) h := hs
 exact ⟨s, hs.open⟩
theorem ent_shut {L : List Asn} {q : Nat} {e : NE} {s : Sl} {h : Hp} (hs : Sat (L ++ [row q 88 (entC e s), Hw.own 5 1 s (bc e.pk)]) h) : Sat (L ++ [entA q e]) h := by
 have h2 := hs.close
 unfold entA
 exact h2.exIn s
theorem mu_t : Try.prog.underlying 74 = some (.map 39 86) := by kernel_rfl
theorem mu_k : Try.prog.underlying 39 = some (.int .u32) := by kernel_rfl
theorem u_a : Try.prog.cellsOf 39 = 1 := by kernel_rfl
theorem u_z : (zc Try.prog 39).length = 1 := by kernel_rfl
theorem u_b : Try.prog.bytesOf 39 = 4 := by kernel_rfl
theorem nt_a : Try.prog.cellsOf 68 = 11 := by kernel_rfl
theorem nt_z : (zc Try.prog 68).length = 11 := by kernel_rfl
theorem nt_b : Try.prog.bytesOf 68 ≤ 64 := by rw [show Try.prog.bytesOf 68 = 48 by kernel_rfl]; omega
theorem mx_eq {a b : Int} : mx a b = max a b := by unfold mx; omega
theorem mn_eq {a b : Int} : mn a b = min a b := by unfold mn; omega
section
variable {L : List Asn} {b : Nat} {c : Ca} {h : Hp}
theorem n_tell {now : Int} {K : Hp → Prop} (hs : Sat (L ++ [cacheA b c]) h) (hK : ∀ h', Sat (L ++ [cacheA b (tellC c now)]) h' → K h') : C37 (some (bk b)) now h K := by
 apply S37; unfold N37
 obtain ⟨m, hs⟩ := cache_open hs
 simp only [nn_some', add_bk]
 refine hs.lI 0 rfl rfl ?_
 refine hs.st 0 rfl (by simp [caC]) rfl ?_
 intro h1 hs1
 rw [mx_eq, mn_eq] at hs1
 exact hK _ (cache_shut (m := m) hs1)
theorem n_behind {n : Int} {K : Int → Hp → Prop} (hs : Sat (L ++ [cacheA b c]) h) (ho : c.ok) (hn : 0 ≤ n ∧ n ≤ 1000) (hK : K (behindC c n) h) : C41 (some (bk b)) n h K := by
 apply S41; unfold N41
 obtain ⟨m, hs⟩ := cache_open hs
 simp only [nn_some', add_bk]
 refine hs.lI 0 rfl rfl ?_
 have := ho.now
 rw [mn_eq, wi64i (by omega) (by simp only [maxT] at this; omega)]
 exact hK
theorem n_behind1 {L M : List Asn} {m : Nat} {n : Int} {K : Int → Hp → Prop} (hs : Sat (L ++ M) h) (j : Nat) (hj : M[j]? = some (row b 76 (caC c m))) (ho : c.ok) (hn : 0 ≤ n ∧ n ≤ 1000) (hK : K (behindC c n) h) : C41 (some (bk b)) n h K := by
 apply S41; unfold N41
 simp only [nn_some', add_bk]
 refine hs.lI j hj rfl ?_
 have := ho.now
 rw [mn_eq, wi64i (by omega) (by simp only [maxT] at this; omega)]
 exact hK
theorem n_known {q : Nat} {e : NE} {K : Bool → Hp → Prop} (hs : Sat (L ++ [entA q e]) h) (hK : K (e.tries == 0) h) : C38 (some (bk q)) h K := by
 apply S38; unfold N38
 obtain ⟨s, hs⟩ := ent_open hs
 simp only [nn_some', add_bk]
 exact hs.lI 0 rfl rfl hK
theorem sort_ips {E : List NE} {l : List NE} (hp : E.Perm l) (hs : l.Pairwise fun p q => p.ip < q.ip) : (E.map NE.ip).mergeSort (fun x y => decide (x ≤ y)) = l.map NE.ip := by
 have tr : ∀ a b c : Int, decide (a ≤ b) = true → decide (b ≤ c) = true → decide (a ≤ c) = true := fun a b c h1 h2 => by simp only [decide_eq_true_eq] at *; omega
 have to : ∀ a b : Int, (decide (a ≤ b) || decide (b ≤ a)) = true := fun a b => by simp only [Bool.or_eq_true, decide_eq_true_eq]; omega
 refine List.Perm.eq_of_pairwise (le := fun a b => a ≤ b) (fun a b _ _ h1 h2 => Int.le_antisymm h1 h2) ?_ ?_ ((List.mergeSort_perm _ _).trans (hp.map _))
 ·have := List.pairwise_mergeSort tr to (E.map NE.ip)
  exact this.imp fun h => by simpa using h
 ·rw [List.pairwise_map]
  exact hs.imp fun h => Int.le_of_lt h
def uz (l : List Int) : List Value := l.map fun n => .int .u32 n
theorem n_sorted {K : Sl → Hp → Prop} (hs : Sat (L ++ [cacheA b c]) h) (ho : c.ok) (hK : ∀ s h', Sat (L ++ [cacheA b c, Hw.own 39 1 s (uz (c.l.map NE.ip))]) h' → K s h') : C51 (some (bk b)) h K := by
 apply S51; unfold N51
 obtain ⟨m, hs⟩ := cache_open hs
 simp only [nn_some', add_bk]
 refine hs.lM 0 rfl rfl ?_
 have g1 : Sat ((L ++ [row b 76 (caC c m)]) ++ [pmA keyE entA .u32 m c.l]) h := Sat.csa hs
 obtain ⟨E, g2, hp⟩ := pm_open g1
 have g3 : Sat ((L ++ [row b 76 (caC c m), star (E.map fun e => entA e.1 e.2)]) ++ [mapA .u32 m (kvs keyE E)]) h := Sat.csa ((Sat.asc g2).sel [0, 2, 1] (by decide) rfl)
 refine g3.rgM ?_
 intro w h1 g4
 have hlen := hp.length_eq
 rw [List.length_map] at hlen
 have hl64 := ho.len
 have hm64 := ho.most
 unfold N51_l0
 have g5 : Sat ((L ++ [row b 76 (caC c m), star (E.map fun e => entA e.1 e.2)]) ++ [walkA .u32 m w (kvs keyE E) [], Hw.own 39 1 ⟨none, 0, 0⟩ (uz [])]) h1 := g4.addNil 39 1
 refine loopP_inv (fun (x : Sl) hc => ∃ ks : KV, Sat ((L ++ [row b 76 (caC c m), star (E.map fun e => entA e.1 e.2)]) ++ [walkA .u32 m w (kvs keyE E) ks, Hw.own 39 1 x (uz (ks.map Prod.fst))]) hc) (fun x _ => E.length - x.n) ?_ ⟨[], g5⟩
 rintro x hc ⟨ks, g6⟩
 unfold N51_l0_B N51_l0_b
 have g7 : Sat ((L ++ [row b 76 (caC c m), star (E.map fun e => entA e.1 e.2), Hw.own 39 1 x (uz (ks.map Prod.fst))]) ++ [walkA .u32 m w (kvs keyE E) ks]) hc := Sat.csa ((Sat.asc g6).sel [0, 1, 3, 2] (by decide) rfl)
 have xn : x.n = ks.length := by have := (g6.own 1 rfl).1; simp [uz] at this; exact this.symm
 have kvl : (kvs keyE E).length = E.length := by simp [kvs]
 refine g7.nxM ?_ ?_
 ·intro hk
  simp only [cond_false]
  have g8 := g7.endM
  have g9 : Sat ((L ++ [row b 76 (caC c m), mapA .u32 m (kvs keyE E), star (E.map fun e => entA e.1 e.2)]) ++ [Hw.own 39 1 x (uz (ks.map Prod.fst))]) hc := Sat.csa ((Sat.asc g8).sel [0, 3, 1, 2] (by decide) rfl)
  refine c_sortU g9 ?_ ?_
  ·have := hk.length_eq; simp only [List.length_map]; omega
  ·intro h2 g10
   have e1 : ((ks.map Prod.fst).mergeSort fun x y => decide (x ≤ y)) = c.l.map NE.ip := by
    have p1 : (ks.map Prod.fst).Perm (E.map Prod.snd |>.map NE.ip) := by
     have := hk.map Prod.fst
     have e2 : (kvs keyE E).map Prod.fst = (E.map Prod.snd).map NE.ip := by simp [kvs]
     rw [e2] at this; exact this
    rw [← sort_ips hp ho.srt]
    have tr : ∀ a b c : Int, decide (a ≤ b) = true → decide (b ≤ c) = true → decide (a ≤ c) = true := fun a b c h1 h2 => by simp only [decide_eq_true_eq] at *; omega
    have to : ∀ a b : Int, (decide (a ≤ b) || decide (b ≤ a)) = true := fun a b => by simp only [Bool.or_eq_true, decide_eq_true_eq]; omega
    refine List.Perm.eq_of_pairwise (le := fun a b => a ≤ b) (fun a b _ _ h1 h2 => Int.le_antisymm h1 h2) ?_ ?_ (((List.mergeSort_perm _ _).trans p1).trans (List.mergeSort_perm _ _).symm)
    ·exact (List.pairwise_mergeSort tr to _).imp fun h => by simpa using h
    ·exact (List.pairwise_mergeSort tr to _).imp fun h => by simpa using h
   rw [e1] at g10
   have g11 : Sat ((L ++ [Hw.own 39 1 x (uz (c.l.map NE.ip)), row b 76 (caC c m)]) ++ [mapA .u32 m (kvs keyE E), star (E.map fun e => entA e.1 e.2)]) h2 := Sat.csa ((Sat.asc g10).sel [3, 0, 1, 2] (by decide) rfl)
   have g12 := pm_shut g11 hp
   have g13 : Sat ((L ++ [Hw.own 39 1 x (uz (c.l.map NE.ip))]) ++ [row b 76 (caC c m), pmA keyE entA .u32 m c.l]) h2 := Sat.mv g12
   have g14 := cache_shut g13
   exact hK _ _ ((Sat.asc g14).sel [1, 0] (by decide) rfl)
 ·intro k v h2 hkv hlt g8
  simp only [cond_true]
  refine g8.enM ?_
  simp only [xI_some]
  have g9 : Sat ((L ++ [row b 76 (caC c m), star (E.map fun e => entA e.1 e.2)]) ++ [walkA .u32 m w (kvs keyE E) (ks ++ [(k, v)]), Hw.own 39 1 x (uz (ks.map Prod.fst))]) h2 := Sat.csa ((Sat.asc g8).sel [0, 1, 3, 2] (by decide) rfl)
  refine g9.push 1 rfl (k := 1) u_a u_z rfl (by intro v hv; simp at hv; subst hv; rfl) (by rw [u_b]; omega) ?_
  intro x' h3 g10 hx'
  refine ⟨⟨ks ++ [(k, v)], ?_⟩, by omega⟩
  have e2 : uz ((ks ++ [(k, v)]).map Prod.fst) = uz (ks.map Prod.fst) ++ [.int .u32 k] := by simp [uz]
  rw [e2]; exact g10
theorem n_get {m : Nat} {ip : Int} {F : Option (Nat × Value) → Prop} (hs : Sat (L ++ [row b 76 (caC c m), pmA keyE entA .u32 m c.l]) h) (ho : c.ok)
  (h0 : findK keyE ip c.l = none → ∀ r, r.map Prod.snd = none → F r)
  (h1 : ∀ e q, findK keyE ip c.l = some e → Sat (L ++ [row b 76 (caC c m), pmH keyE entA .u32 m c.l ip q, entA q e]) h → ∀ r, r.map Prod.snd = some (.pointer (some (bk q))) → F r) : xMap h (some m) fun es _ => keyAt (.int .u32) (.int .u32 ip) es F := by
 have g1 : Sat ((L ++ [row b 76 (caC c m)]) ++ [pmA keyE entA .u32 m c.l]) h := Sat.csa hs
 exact pm_find g1 ho.nod h0 fun e q hf hs2 r hr => h1 e q hf (Sat.asc hs2) r hr
theorem n_back {m q : Nat} {ip : Int} {e : NE} (hs : Sat (L ++ [row b 76 (caC c m), pmH keyE entA .u32 m c.l ip q, entA q e]) h) (hn : NodK keyE c.l) (he : findK keyE ip c.l = some e) : Sat (L ++ [row b 76 (caC c m), pmA keyE entA .u32 m c.l]) h := by
 have g1 : Sat ((L ++ [row b 76 (caC c m)]) ++ [pmH keyE entA .u32 m c.l ip q, entA q e]) h := Sat.csa hs
 have g2 := pm_in g1 hn (findK_some he).2
 rw [updK_same hn he] at g2
 exact Sat.asc g2
theorem leastK_mem : ∀ {l : List NE} {b : Option NE} {e : NE}, leastK b l = some e → b = some e ∨ e ∈ l := by
 intro l
 induction l with
 | nil => intro b e h; left; cases b <;> exact h
 | cons x l ih =>
  intro b e h
  cases b with
  | none =>
   rw [leastK] at h
   rcases ih h with h1 | h1
   ·split at h1
    ·cases h1; exact .inr List.mem_cons_self
    ·cases h1
   ·exact .inr (List.mem_cons_of_mem _ h1)
  | some y =>
   rw [leastK] at h
   rcases ih h with h1 | h1
   ·split at h1
    ·cases h1; exact .inr List.mem_cons_self
    ·exact .inl h1
   ·exact .inr (List.mem_cons_of_mem _ h1)
theorem n_room {K : Bool → Hp → Prop} (hs : Sat (L ++ [cacheA b c]) h) (ho : c.ok) (hnone : roomL c.most c.l = none → ∀ h', Sat (L ++ [cacheA b c]) h' → K false h') (hK : ∀ l, roomL c.most c.l = some l → ∀ h', Sat (L ++ [cacheA b { c with l := l }]) h' → K true h') : C40 (some (bk b)) h K := by
 apply S40; unfold N40
 have hs' := hs
 obtain ⟨m, hs⟩ := cache_open hs
 simp only [nn_some', add_bk]
 refine hs.lM 0 rfl rfl ?_
 have g1 : Sat ((L ++ [row b 76 (caC c m)]) ++ [pmA keyE entA .u32 m c.l]) h := Sat.csa hs
 refine pm_len g1 ?_
 intro es cc hl
 refine hs.lI 0 rfl rfl ?_
 rw [hl]
 unfold roomL at hnone hK
 by_cases hlt : (c.l.length : Int) < c.most
 ·rw [if_pos hlt] at hK
  rw [decide_eq_true hlt, cond_true]
  exact hK _ rfl h hs'
 ·rw [if_neg hlt] at hK hnone
  rw [decide_eq_false hlt, cond_false]
  refine n_sorted hs' ho ?_
  intro s h1 g2
  unfold N40_l0
  have sn : s.n = c.l.length := by have := (g2.own 1 rfl).1; simp [uz] at this; exact this.symm
  have hl64 := ho.len
  have hm64 := ho.most
  refine loopP_inv (fun (x : Bool × Int × Int) hc => ∃ (i : Nat) (o : Option NE), x.2.2 = i ∧ i ≤ c.l.length ∧ x.1 = o.isSome ∧ (∀ e, o = some e → x.2.1 = e.ip ∧ e ∈ c.l) ∧ leastK o (c.l.drop i) = leastK none c.l ∧ Sat (L ++ [cacheA b c, Hw.own 39 1 s (uz (c.l.map NE.ip))]) hc) (fun x _ => c.l.length - x.2.2.toNat) ?_ ⟨0, none, rfl, Nat.zero_le _, rfl, fun e he => (by cases he), rfl, g2⟩
  rintro ⟨some', least, x⟩ hc ⟨i, o, hx, hi, ho1, ho2, hr, g3⟩
  simp only at hx ho1 ho2
  subst hx ho1
  unfold N40_l0_B N40_l0_b
  dsimp only
  by_cases hil : i < c.l.length
  ·rw [show decide ((i : Int) < ((s.n : Nat) : Int)) = true from decide_eq_true (by omega), cond_true]
   have hpi : c.l[i]? = some c.l[i] := List.getElem?_eq_getElem hil
   have hdr : c.l.drop i = c.l[i] :: c.l.drop (i + 1) := List.drop_eq_getElem_cons hil
   rw [hdr] at hr
   generalize c.l[i] = e at hpi hr
   refine idx_of (by omega) (by omega) ?_
   simp only [Int.toNat_natCast, Nat.mul_one]
   refine g3.oI 1 rfl (n := e.ip) (by simp [uz, hpi]) ?_
   have g4 : Sat ((L ++ [Hw.own 39 1 s (uz (c.l.map NE.ip))]) ++ [cacheA b c]) hc := Sat.csa (g3.sel [1, 0] (by decide) rfl)
   obtain ⟨m, g5⟩ := cache_open g4
   simp only [nn_some', add_bk]
   refine g5.lM 0 rfl rfl ?_
   have hmem := List.mem_of_getElem? hpi
   have hfe := findK_of (key := keyE) ho.nod hmem rfl
   refine n_get g5 ho (fun hf => by rw [hfe] at hf; cases hf) ?_
   intro e' q hf g6 r hr'
   rw [hfe] at hf; cases hf
   rw [rval_kv hr']
   simp only [Option.getD_some, xP_some]
   have g7 : Sat ((L ++ [Hw.own 39 1 s (uz (c.l.map NE.ip)), row b 76 (caC c m), pmH keyE entA .u32 m c.l e.ip q]) ++ [entA q e]) hc := Sat.mv g6
   have back : ∀ (hd : Hp), hd = hc → Sat (L ++ [cacheA b c, Hw.own 39 1 s (uz (c.l.map NE.ip))]) hd := by
    rintro hd rfl; exact g3
   refine n_known g7 ?_
   have nx : IntKind.wrap .i64 ((i : Int) + 1) = ((i + 1 : Nat) : Int) := nat_succ64 (by omega)
   rw [nx]
   by_cases hk : e.tries = 0
   ·rw [show (e.tries == 0) = true by simp [hk], cond_true]
    cases o with
    | none =>
     simp only [Option.isSome_none, Bool.not_false, cond_true, N40_j1]
     rw [leastK, if_pos hk] at hr
     exact ⟨⟨i + 1, some e, rfl, hil, rfl, fun e2 he2 => by cases he2; exact ⟨rfl, hmem⟩, hr, g3⟩, by simp only [Int.toNat_natCast]; omega⟩
    | some x =>
     simp only [Option.isSome_some, Bool.not_true, cond_false]
     obtain ⟨y1, y2⟩ := ho2 x rfl
     subst y1
     obtain ⟨se, g8⟩ := ent_open g7
     simp only [nn_some', add_bk]
     refine g8.lI 0 rfl rfl ?_
     refine g5.lM 0 rfl rfl ?_
     have hfx := findK_of (key := keyE) ho.nod y2 rfl
     refine n_get g5 ho (fun hf => by rw [hfx] at hf; cases hf) ?_
     intro e' q' hf g6' r hr'
     rw [hfx] at hf; cases hf
     rw [rval_kv hr']
     simp only [Option.getD_some, xP_some, nn_some', add_bk]
     have g7' : Sat ((L ++ [Hw.own 39 1 s (uz (c.l.map NE.ip)), row b 76 (caC c m), pmH keyE entA .u32 m c.l x.ip q']) ++ [entA q' x]) hc := Sat.mv g6'
     obtain ⟨se', g8'⟩ := ent_open g7'
     refine g8'.lI 0 rfl rfl ?_
     unfold N40_j1
     rw [leastK] at hr
     by_cases hlt2 : e.til < x.til
     ·rw [if_pos ⟨hk, hlt2⟩] at hr
      rw [decide_eq_true hlt2, cond_true]
      exact ⟨⟨i + 1, some e, rfl, hil, rfl, fun e2 he2 => by cases he2; exact ⟨rfl, hmem⟩, hr, g3⟩, by simp only [Int.toNat_natCast]; omega⟩
     ·rw [if_neg (fun q => hlt2 q.2)] at hr
      rw [decide_eq_false hlt2, cond_false]
      exact ⟨⟨i + 1, some x, rfl, hil, rfl, fun e2 he2 => by cases he2; exact ⟨rfl, y2⟩, hr, g3⟩, by simp only [Int.toNat_natCast]; omega⟩
   ·rw [show (e.tries == 0) = false by simp [hk], cond_false]
    unfold N40_j1
    rw [cond_false]
    refine ⟨⟨i + 1, o, rfl, hil, rfl, ho2, ?_, g3⟩, by simp only [Int.toNat_natCast]; omega⟩
    rw [← hr]
    cases o with
    | none => rw [leastK, if_neg hk]
    | some x => rw [leastK, if_neg (fun q => hk q.1)]
  ·rw [show decide ((i : Int) < ((s.n : Nat) : Int)) = false from decide_eq_false (by omega), cond_false]
   rw [List.drop_of_length_le (by omega)] at hr
   have hr : o = leastK none c.l := by rw [← hr]; cases o <;> rfl
   have g4 : Sat (L ++ [cacheA b c]) hc := g3.sel [0] (by decide) rfl
   cases o with
   | none =>
    simp only [Option.isSome_none, cond_false]
    rw [← hr] at hnone
    exact hnone rfl hc g4
   | some e =>
    obtain ⟨y1, y2⟩ := ho2 e rfl
    subst y1
    simp only [Option.isSome_some, cond_true]
    rw [← hr] at hK
    obtain ⟨m, g5⟩ := cache_open g4
    refine g5.lM 0 rfl rfl ?_
    have g6 : Sat ((L ++ [row b 76 (caC c m)]) ++ [pmA keyE entA .u32 m c.l]) hc := Sat.csa g5
    refine pm_del g6 ho.nod mu_t mu_k ?_
    intro h2 g7
    have g8 : Sat (L ++ [row b 76 (caC { c with l := delK keyE e.ip c.l } m), pmA keyE entA .u32 m (delK keyE e.ip c.l)]) h2 := Sat.asc g7
    exact hK _ rfl h2 (cache_shut (c := { c with l := delK keyE e.ip c.l }) g8)
theorem n_quest {q : Nat} {e : NE} {K : Int → Int → Int → Int → Int → Int → Int → Sl → Hp → Prop} {m : Nat} (hs : Sat (L ++ [row b 76 (caC c m), entA q e]) h) (ho : c.ok) (hsrc : 0 ≤ e.src ∧ e.src < 4294967296) (hip : 0 ≤ e.ip ∧ e.ip < 4294967296)
  (hK : ∀ s h', Sat (L ++ [row b 76 (caC c m), entA q e, Hw.own 5 1 s (bc (questC c e).data)]) h' → K 255 255 255 255 255 255 2054 s h') : C42 (some (bk b)) e.ip (some (bk q)) h K := by
 apply S42; unfold N42
 have g1 : Sat ((L ++ [row b 76 (caC c m)]) ++ [entA q e]) h := Sat.csa hs
 obtain ⟨s, g2⟩ := ent_open g1
 have g3 : Sat (L ++ [row b 76 (caC c m), row q 88 (entC e s), Hw.own 5 1 s (bc e.pk)]) h := Sat.asc g2
 refine g3.nw ?_
 intro b0 h0 g4 _
 have g4 : Sat (L ++ [row b 76 (caC c m), row q 88 (entC e s), Hw.own 5 1 s (bc e.pk), row b0 59 [.int .u8 0, .int .u8 0, .int .u8 0, .int .u8 0, .int .u8 0, .int .u8 0, .int .i64 0, .slice none 0 0]]) h0 := g4
 simp only [nn_some', add_bk]
 refine g4.lI 0 rfl rfl ?_
 refine g4.lI 0 rfl rfl ?_
 refine g4.lI 0 rfl rfl ?_
 refine g4.lI 0 rfl rfl ?_
 refine g4.lI 0 rfl rfl ?_
 refine g4.lI 0 rfl rfl ?_
 refine g4.lI 1 rfl rfl ?_
 refine c_aask fun h1 he1 => ?_
 have zok : mac0.ok := by unfold M6.ok mac0; decide
 refine c_aenc (op := 1) (s := c.own) (d := mac0) (.inl rfl) ho.own zok hsrc hip fun h2 x hn => ?_
 have g5 := (g4.ext he1).addNew hn
 refine c_every fun h3 he3 => ?_
 have g6 : Sat (L ++ [row b 76 (caC c m), row q 88 (entC e s), Hw.own 5 1 s (bc e.pk), row b0 59 [.int .u8 0, .int .u8 0, .int .u8 0, .int .u8 0, .int .u8 0, .int .u8 0, .int .i64 0, .slice none 0 0], Hw.own 5 1 x (bc (questC c e).data)]) h3 := g5.ext he3
 refine g6.st 3 rfl (by simp) rfl fun h4 g6 => ?_
 refine Sat.st g6 3 rfl (by simp) rfl fun h4 g6 => ?_
 refine Sat.st g6 3 rfl (by simp) rfl fun h4 g6 => ?_
 refine Sat.st g6 3 rfl (by simp) rfl fun h4 g6 => ?_
 refine Sat.st g6 3 rfl (by simp) rfl fun h4 g6 => ?_
 refine Sat.st g6 3 rfl (by simp) rfl fun h4 g6 => ?_
 refine Sat.st g6 3 rfl (by simp) rfl fun h4 g6 => ?_
 refine Sat.st g6 3 rfl (by simp) rfl fun h4 g6 => ?_
 have g7 : Sat (L ++ [row b 76 (caC c m), row q 88 (entC e s), Hw.own 5 1 s (bc e.pk), row b0 59 [.int .u8 255, .int .u8 255, .int .u8 255, .int .u8 255, .int .u8 255, .int .u8 255, .int .i64 2054, .slice x.p x.n x.c], Hw.own 5 1 x (bc (questC c e).data)]) h4 := g6
 refine g7.lI 3 rfl rfl ?_
 refine g7.lI 3 rfl rfl ?_
 refine g7.lI 3 rfl rfl ?_
 refine g7.lI 3 rfl rfl ?_
 refine g7.lI 3 rfl rfl ?_
 refine g7.lI 3 rfl rfl ?_
 refine g7.lI 3 rfl rfl ?_
 refine g7.lL 3 rfl rfl ?_
 refine hK x h4 ?_
 have g8 : Sat ((L ++ [row b 76 (caC c m), Hw.own 5 1 x (bc (questC c e).data)]) ++ [row q 88 (entC e s), Hw.own 5 1 s (bc e.pk)]) h4 := Sat.csa (g7.sel [0, 4, 1, 2] (by decide) rfl)
 exact (Sat.asc (ent_shut g8)).sel [0, 2, 1] (by decide) rfl
theorem n_clear {K : Hp → Prop} (hs : Sat (L ++ [cacheA b c]) h) (hK : ∀ h', Sat (L ++ [cacheA b { c with l := [] }]) h' → K h') : C20 (some (bk b)) h K := by
 apply S20; unfold N20
 obtain ⟨m, hs⟩ := cache_open hs
 simp only [nn_some', add_bk]
 refine hs.lM 0 rfl rfl ?_
 refine pm_clear (Sat.csa hs (A := [row b 76 (caC c m)])) fun h1 g1 => ?_
 exact hK h1 (cache_shut (c := { c with l := [] }) (m := m) (Sat.asc g1))
theorem n_new {L M : List Asn} {h : Hp} {own : M6} {most : Int} {K : Option Addr → Hp → Prop} (hs : Sat (L ++ M) h)
  (hnone : most < 1 ∨ 64 < most → ∀ h', Sat (L ++ M) h' → K none h') (hK : 1 ≤ most ∧ most ≤ 64 → ∀ b h', Sat (L ++ (M ++ [cacheA b ⟨own, most, [], 0⟩])) h' → K (some (bk b)) h') : C7 own.a own.b own.c own.d own.e own.f most h K := by
 apply S7; unfold N7
 have hs0 : Sat ((L ++ M) ++ []) h := by rw [List.append_nil]; exact hs
 refine hs0.nw ?_
 intro b0 h0 g1 _
 simp only [List.nil_append] at g1
 by_cases h1 : most < 1
 ·rw [decide_eq_true h1, cond_true]
  exact hnone (.inl h1) h0 g1.left
 ·rw [decide_eq_false h1, cond_false]
  by_cases h2 : most > 64
  ·rw [decide_eq_true h2, cond_true]
   exact hnone (.inr h2) h0 g1.left
  ·rw [decide_eq_false h2, cond_false]
   have hs := g1
   repeat (first | (refine Sat.st hs 0 rfl (by simp) rfl ?_; intro _ hs; simp only [List.set_cons_zero, List.set_cons_succ] at hs) | (refine Sat.lI hs 0 rfl rfl ?_) | (refine Sat.lL hs 0 rfl rfl ?_) | (refine Sat.lP hs 0 rfl rfl ?_) | (refine Sat.lB hs 0 rfl rfl ?_) | (refine Sat.lS hs 0 rfl rfl ?_) | (refine Sat.lM hs 0 rfl rfl ?_) | (refine Sat.lA hs 0 rfl rfl ?_) | (simp only [nn_some', add_bk]))
   intro b1 e1
   have g2 := g1.newMap .u32 e1
   revert g2
   generalize upd h0 b1 _ = h2
   intro g2
   refine Sat.nw g2 ?_
   intro b2 h3 g3 _
   have g4 : Sat (((L ++ M) ++ [row b2 76 (caC ⟨own, most, [], 0⟩ b1)]) ++ [mapA .u32 b1 []]) h3 := Sat.csa (g3.sel [2, 1] (by decide) rfl)
   have g5 := pm_mk (key := keyE) (obj := entA) g4
   have g6 := cache_shut (c := ⟨own, most, [], 0⟩) (Sat.asc g5)
   exact hK (by omega) b2 h3 (Sat.asc g6)
end
end Go.Proofs.Ytkfccpabigikkaa

/-
 The cache: Next, Look; rows of what is to be sent.
-/
set_option linter.unusedSimpArgs false
set_option linter.unusedVariables false
set_option maxRecDepth 4000
namespace Go.Proofs.Ytkfccpabigikkaa
open Go Go.Hw
theorem star_get {α : Type} {L : List Asn} {E : List α} {obj : α → Asn} {h : Hp} {e : α} (hs : Sat (L ++ [star (E.map obj)]) h) (he : e ∈ E) : ∃ L', Sat (L' ++ [obj e]) h := by
 obtain ⟨j, hj, rfl⟩ := List.getElem_of_mem he
 have := hs.out j (A := obj E[j]) (by rw [List.getElem?_map, List.getElem?_eq_getElem hj]; rfl)
 exact ⟨_, Sat.csa this (A := [_]) (B := [_])⟩
def NextIs (l : List NE) (n : Int) (b : Bool) : Prop := (l = [] ∧ n = 0 ∧ b = false) ∨ (b = true ∧ (∃ e ∈ l, e.til = n) ∧ ∀ e ∈ l, n ≤ e.til)
theorem NextIs.one {l : List NE} {n m : Int} {b d : Bool} (h1 : NextIs l n b) (h2 : NextIs l m d) : n = m ∧ b = d := by
 rcases h1 with ⟨a1, a2, a3⟩ | ⟨a1, ⟨e, he, ae⟩, a3⟩
 ·rcases h2 with ⟨b1, b2, b3⟩ | ⟨b1, ⟨e', he', be⟩, b3⟩
  ·exact ⟨a2.trans b2.symm, a3.trans b3.symm⟩
  ·rw [a1] at he'; cases he'
 ·rcases h2 with ⟨b1, b2, b3⟩ | ⟨b1, ⟨e', he', be⟩, b3⟩
  ·rw [b1] at he; cases he
  ·have := a3 e' he'; have := b3 e he; exact ⟨by omega, a1.trans b1.symm⟩
section
variable {L : List Asn} {b : Nat} {c : Ca} {h : Hp}
def nbC (e : NE) : List Value := [.int .u32 e.ip, .int .u8 e.mac.a, .int .u8 e.mac.b, .int .u8 e.mac.c, .int .u8 e.mac.d, .int .u8 e.mac.e, .int .u8 e.mac.f, .int .i64 (if e.tries = 0 then 2 else 1), .int .i64 e.til, .int .i64 e.tries, .bool (decide (e.tries ≠ 0))]
def nbs (l : List NE) : List Value := l.flatMap nbC
theorem nbs_len (l : List NE) : (nbs l).length = l.length * 11 := by
 induction l with
 | nil => rfl
 | cons x l ih => show (nbC x ++ nbs l).length = _; rw [List.length_append, ih]; simp [nbC]; omega
theorem nbC_plain {e : NE} : ∀ v ∈ nbC e, plain v = true := by
 intro v hv
 simp only [nbC, List.mem_cons, List.not_mem_nil, or_false] at hv
 rcases hv with rfl | rfl | rfl | rfl | rfl | rfl | rfl | rfl | rfl | rfl | rfl <;> rfl
theorem n_look {K : Sl → Hp → Prop} (hs : Sat (L ++ [cacheA b c]) h) (ho : c.ok) (hK : ∀ s h', Sat (L ++ [cacheA b c, Hw.own 68 11 s (nbs c.l)]) h' → K s h') : C21 (some (bk b)) h K := by
 apply S21; unfold N21
 refine n_sorted hs ho ?_
 intro s0 h1 g1
 have hs1 := g1.addNil 68 11
 have sn : s0.n = c.l.length := by have := (g1.own 1 rfl).1; simp [uz] at this; exact this.symm
 have hl64 := ho.len
 have hm64 := ho.most
 unfold N21_l0
 refine loopP_inv (fun (x : Sl × Int) hc => ∃ i : Nat, x.2 = i ∧ i ≤ c.l.length ∧ Sat (L ++ [cacheA b c, Hw.own 39 1 s0 (uz (c.l.map NE.ip)), Hw.own 68 11 x.1 (nbs (c.l.take i))]) hc) (fun x _ => c.l.length - x.2.toNat) ?_ ⟨0, rfl, Nat.zero_le _, hs1⟩
 rintro ⟨acc, x⟩ hc ⟨i, hx, hi, g2⟩
 simp only at hx g2
 subst hx
 unfold N21_l0_B N21_l0_b
 dsimp only
 by_cases hil : i < c.l.length
 ·rw [show decide ((i : Int) < ((s0.n : Nat) : Int)) = true from decide_eq_true (by omega), cond_true]
  have hpi : c.l[i]? = some c.l[i] := List.getElem?_eq_getElem hil
  have htk : c.l.take (i + 1) = c.l.take i ++ [c.l[i]] := List.take_succ_eq_append_getElem hil
  generalize c.l[i] = e at hpi htk
  refine idx_of (by omega) (by omega) ?_
  simp only [Int.toNat_natCast, Nat.mul_one]
  refine g2.oI 1 rfl (n := e.ip) (by simp [uz, hpi]) ?_
  have g4 : Sat ((L ++ [Hw.own 39 1 s0 (uz (c.l.map NE.ip)), Hw.own 68 11 acc (nbs (c.l.take i))]) ++ [cacheA b c]) hc := Sat.csa (g2.sel [1, 2, 0] (by decide) rfl)
  obtain ⟨m, g5⟩ := cache_open g4
  simp only [nn_some', add_bk]
  refine g5.lM 0 rfl rfl ?_
  have hmem := List.mem_of_getElem? hpi
  have hok := ho.all e hmem
  have hfe := findK_of (key := keyE) ho.nod hmem rfl
  refine n_get g5 ho (fun hf => by rw [hfe] at hf; cases hf) ?_
  intro e' q hf g6 r hr'
  rw [hfe] at hf; cases hf
  rw [rval_kv hr']
  simp only [Option.getD_some, xP_some, nn_some', add_bk]
  have g7 : Sat ((L ++ [Hw.own 39 1 s0 (uz (c.l.map NE.ip)), Hw.own 68 11 acc (nbs (c.l.take i)), row b 76 (caC c m), pmH keyE entA .u32 m c.l e.ip q]) ++ [entA q e]) hc := Sat.mv g6
  obtain ⟨se, g8⟩ := ent_open g7
  refine g8.lI 0 rfl rfl ?_
  refine g8.lI 0 rfl rfl ?_
  refine g8.lI 0 rfl rfl ?_
  refine g8.lI 0 rfl rfl ?_
  refine g8.lI 0 rfl rfl ?_
  refine g8.lI 0 rfl rfl ?_
  refine g8.lI 0 rfl rfl ?_
  refine g8.nw ?_
  intro b0 h2 g9 _
  have g9 : Sat ((L ++ [Hw.own 39 1 s0 (uz (c.l.map NE.ip)), Hw.own 68 11 acc (nbs (c.l.take i)), row b 76 (caC c m), pmH keyE entA .u32 m c.l e.ip q]) ++ [row q 88 (entC e se), Hw.own 5 1 se (bc e.pk), row b0 68 [.int .u32 0, .int .u8 0, .int .u8 0, .int .u8 0, .int .u8 0, .int .u8 0, .int .u8 0, .int .i64 0, .int .i64 0, .int .i64 0, .bool false]]) h2 := g9
  refine ⟨g9.lI 0 rfl rfl ⟨rfl, rfl⟩, g9.lI 0 rfl rfl (g9.lI 0 rfl rfl (g9.lI 0 rfl rfl (g9.lI 0 rfl rfl (g9.lI 0 rfl rfl (g9.lI 0 rfl rfl ⟨rfl, rfl⟩))))), ?_⟩
  have fin : ∀ (h3 : Hp), Sat ((L ++ [Hw.own 39 1 s0 (uz (c.l.map NE.ip)), Hw.own 68 11 acc (nbs (c.l.take i)), row b 76 (caC c m), pmH keyE entA .u32 m c.l e.ip q]) ++ [row q 88 (entC e se), Hw.own 5 1 se (bc e.pk), row b0 68 (nbC e)]) h3 →
    N21_j1 (some (bk b)) acc (some (bk b0)) s0 ((s0.n : Nat) : Int) (i : Int) h3 (fun s4 h24 => (∃ k : Nat, IntKind.wrap .i64 ((i : Int) + 1) = k ∧ k ≤ c.l.length ∧ Sat (L ++ [cacheA b c, Hw.own 39 1 s0 (uz (c.l.map NE.ip)), Hw.own 68 11 s4 (nbs (c.l.take k))]) h24) ∧ c.l.length - (IntKind.wrap .i64 ((i : Int) + 1)).toNat < c.l.length - ((i : Nat) : Int).toNat) := by
   intro h3 g10
   unfold N21_j1
   simp only [nn_some', add_bk]
   have hs := g10
   repeat (first | (refine Sat.st hs 0 rfl (by simp) rfl ?_; intro _ hs; simp only [List.set_cons_zero, List.set_cons_succ] at hs) | (refine Sat.st hs 1 rfl (by simp) rfl ?_; intro _ hs; simp only [List.set_cons_zero, List.set_cons_succ] at hs) | (refine Sat.st hs 2 rfl (by simp) rfl ?_; intro _ hs; simp only [List.set_cons_zero, List.set_cons_succ] at hs) | (refine Sat.lI hs 0 rfl rfl ?_) | (refine Sat.lI hs 1 rfl rfl ?_) | (refine Sat.lI hs 2 rfl rfl ?_) | (refine Sat.lL hs 0 rfl rfl ?_) | (refine Sat.lL hs 1 rfl rfl ?_) | (refine Sat.lL hs 2 rfl rfl ?_) | (refine Sat.lP hs 0 rfl rfl ?_) | (refine Sat.lP hs 1 rfl rfl ?_) | (refine Sat.lP hs 2 rfl rfl ?_) | (refine Sat.lB hs 0 rfl rfl ?_) | (refine Sat.lB hs 1 rfl rfl ?_) | (refine Sat.lB hs 2 rfl rfl ?_) | (refine Sat.lS hs 0 rfl rfl ?_) | (refine Sat.lS hs 1 rfl rfl ?_) | (refine Sat.lS hs 2 rfl rfl ?_) | (refine Sat.lM hs 0 rfl rfl ?_) | (refine Sat.lM hs 1 rfl rfl ?_) | (refine Sat.lM hs 2 rfl rfl ?_) | (refine Sat.lA hs 0 rfl rfl ?_) | (refine Sat.lA hs 1 rfl rfl ?_) | (refine Sat.lA hs 2 rfl rfl ?_) | (simp only [nn_some', add_bk]))
   have g11 : Sat ((L ++ [Hw.own 39 1 s0 (uz (c.l.map NE.ip)), Hw.own 68 11 acc (nbs (c.l.take i)), row b 76 (caC c m), pmH keyE entA .u32 m c.l e.ip q]) ++ [row q 88 (entC e se), Hw.own 5 1 se (bc e.pk)]) h3 := g10.sel [0, 1] (by decide) rfl
   have g12 : Sat ((L ++ [Hw.own 39 1 s0 (uz (c.l.map NE.ip)), Hw.own 68 11 acc (nbs (c.l.take i))]) ++ [row b 76 (caC c m), pmH keyE entA .u32 m c.l e.ip q, entA q e]) h3 := Sat.mv (ent_shut g11)
   have g13 := cache_shut (n_back g12 ho.nod hfe)
   have g14 : Sat (L ++ [cacheA b c, Hw.own 39 1 s0 (uz (c.l.map NE.ip)), Hw.own 68 11 acc (nbs (c.l.take i))]) h3 := (Sat.asc g13).sel [2, 0, 1] (by decide) rfl
   have an : acc.n = i := by have := (g14.own 2 rfl).1; rw [nbs_len, List.length_take] at this; omega
   refine g14.push 2 rfl (k := 1) (ns := nbC e) nt_a nt_z rfl nbC_plain (by have := nt_b; rw [an]; have : (i + 1) * 2 * Try.prog.bytesOf 68 ≤ (i + 1) * 2 * 64 := Nat.mul_le_mul_left _ nt_b; omega) ?_
   intro acc' h4 g15 _
   rw [nat_succ64 (by omega)]
   refine ⟨⟨i + 1, rfl, hil, ?_⟩, by simp only [Int.toNat_natCast]; omega⟩
   rw [htk]
   have es : nbs (c.l.take i ++ [e]) = nbs (c.l.take i) ++ nbC e := by simp [nbs]
   rw [es]
   exact g15
  refine g9.st 2 rfl (by simp) rfl fun h3 g9 => ?_
  refine Sat.st g9 2 rfl (by simp) rfl fun h3 g9 => ?_
  refine Sat.st g9 2 rfl (by simp) rfl fun h3 g9 => ?_
  refine Sat.st g9 2 rfl (by simp) rfl fun h3 g9 => ?_
  refine Sat.st g9 2 rfl (by simp) rfl fun h3 g9 => ?_
  refine Sat.st g9 2 rfl (by simp) rfl fun h3 g9 => ?_
  refine Sat.st g9 2 rfl (by simp) rfl fun h3 g9 => ?_
  refine Sat.st g9 2 rfl (by simp) rfl fun h3 g9 => ?_
  refine Sat.st g9 2 rfl (by simp) rfl fun h3 g9 => ?_
  refine Sat.st g9 2 rfl (by simp) rfl fun h3 g9 => ?_
  refine Sat.st g9 2 rfl (by simp) rfl fun h3 g9 => ?_
  have g10 : Sat ((L ++ [Hw.own 39 1 s0 (uz (c.l.map NE.ip)), Hw.own 68 11 acc (nbs (c.l.take i)), row b 76 (caC c m), pmH keyE entA .u32 m c.l e.ip q]) ++ [row q 88 (entC e se), Hw.own 5 1 se (bc e.pk), row b0 68 [.int .u32 e.ip, .int .u8 e.mac.a, .int .u8 e.mac.b, .int .u8 e.mac.c, .int .u8 e.mac.d, .int .u8 e.mac.e, .int .u8 e.mac.f, .int .i64 2, .int .i64 e.til, .int .i64 0, .bool false]]) h3 := g9
  have g11 : Sat ((L ++ [Hw.own 39 1 s0 (uz (c.l.map NE.ip)), Hw.own 68 11 acc (nbs (c.l.take i)), row b 76 (caC c m), pmH keyE entA .u32 m c.l e.ip q, row b0 68 [.int .u32 e.ip, .int .u8 e.mac.a, .int .u8 e.mac.b, .int .u8 e.mac.c, .int .u8 e.mac.d, .int .u8 e.mac.e, .int .u8 e.mac.f, .int .i64 2, .int .i64 e.til, .int .i64 0, .bool false]]) ++ [row q 88 (entC e se), Hw.own 5 1 se (bc e.pk)]) h3 := (Sat.asc g10).part [0, 1, 2, 3, 6, 4, 5] (by decide) rfl
  refine n_known (ent_shut g11) ?_
  by_cases hk : e.tries = 0
  ·rw [show (e.tries == 0) = true by simp [hk], Bool.not_true, cond_false]
   refine fin h3 ?_
   have : nbC e = [.int .u32 e.ip, .int .u8 e.mac.a, .int .u8 e.mac.b, .int .u8 e.mac.c, .int .u8 e.mac.d, .int .u8 e.mac.e, .int .u8 e.mac.f, .int .i64 2, .int .i64 e.til, .int .i64 0, .bool false] := by unfold nbC; rw [if_pos hk, hk]; rfl
   rw [this]; exact g10
  ·rw [show (e.tries == 0) = false by simp [hk], Bool.not_false, cond_true]
   refine g10.lI 0 rfl rfl ?_
   refine g10.lI 0 rfl rfl ?_
   refine g10.st 2 rfl (by simp) rfl fun h3 g9 => ?_
   refine Sat.st g9 2 rfl (by simp) rfl fun h3 g9 => ?_
   refine Sat.st g9 2 rfl (by simp) rfl fun h3 g9 => ?_
   refine Sat.st g9 2 rfl (by simp) rfl fun h3 g9 => ?_
   refine Sat.st g9 2 rfl (by simp) rfl fun h3 g9 => ?_
   refine Sat.st g9 2 rfl (by simp) rfl fun h3 g9 => ?_
   refine Sat.st g9 2 rfl (by simp) rfl fun h3 g9 => ?_
   refine Sat.st g9 2 rfl (by simp) rfl fun h3 g9 => ?_
   refine Sat.st g9 2 rfl (by simp) rfl fun h3 g9 => ?_
   refine Sat.st g9 2 rfl (by simp) rfl fun h3 g9 => ?_
   refine Sat.st g9 2 rfl (by simp) rfl fun h3 g9 => ?_
   refine fin h3 ?_
   have : nbC e = [.int .u32 e.ip, .int .u8 0, .int .u8 0, .int .u8 0, .int .u8 0, .int .u8 0, .int .u8 0, .int .i64 1, .int .i64 e.til, .int .i64 e.tries, .bool true] := by unfold nbC; rw [if_neg hk, decide_eq_true hk, hok.asked hk]; rfl
   rw [this]; exact g9
 ·rw [show decide ((i : Int) < ((s0.n : Nat) : Int)) = false from decide_eq_false (by omega), cond_false]
  have : i = c.l.length := by omega
  subst this
  rw [List.take_length] at g2
  exact hK _ _ (g2.sel [0, 2] (by decide) rfl)
end
end Go.Proofs.Ytkfccpabigikkaa

set_option linter.unusedVariables false
set_option maxRecDepth 100000
namespace Go.Proofs.Ytkfccpabigikkaa
open Go Go.Hw
noncomputable def B12 : Code := match Try.f12.body with | some c => c | none => .skip
def N12_j1 (x0 : Option Addr) (x1 x2 : Int) (x3 : Sl) (x11 : Option Addr) (x38 : Bool) (h : Hp) (Kn : Hp → Prop) (Kr : Sl → Hp → Prop) : Prop :=
 bif x38 then
 nn x11 fun a0 =>
 xI .u8 (cell h a0) fun n0 =>
 xI .u8 (cell h (a0.add 1)) fun n1 =>
 xI .u8 (cell h (a0.add 2)) fun n2 =>
 xI .u8 (cell h (a0.add 3)) fun n3 =>
 xI .u8 (cell h (a0.add 4)) fun n4 =>
 xI .u8 (cell h (a0.add 5)) fun n5 =>
 C39 x3 h fun s0 h0 =>
 both (xI .u8 (cell h0 a0) fun n6 => xI .u8 (cell h0 (a0.add 1)) fun n7 => xI .u8 (cell h0 (a0.add 2)) fun n8 => xI .u8 (cell h0 (a0.add 3)) fun n9 => xI .u8 (cell h0 (a0.add 4)) fun n10 => xI .u8 (cell h0 (a0.add 5)) fun n11 => Only (.agg ⟨[.int .u8 n0, .int .u8 n1, .int .u8 n2, .int .u8 n3, .int .u8 n4, .int .u8 n5]⟩) h0 (.agg ⟨[.int .u8 n6, .int .u8 n7, .int .u8 n8, .int .u8 n9, .int .u8 n10, .int .u8 n11]⟩) h0) <|
 nw h0 (.cells ⟨[.int .u8 n0, .int .u8 n1, .int .u8 n2, .int .u8 n3, .int .u8 n4, .int .u8 n5, .int .i64 2048, .slice s0.p s0.n s0.c]⟩ 59) fun b0 h1 =>
 Kr ⟨some (bk b0), 1, 1⟩ h1
 else
 Kn h
noncomputable def N12_j1_t : Xf := pieceT [(0, .c (.ptr)), (1, .c (.int .u32)), (2, .c (.int .u32)), (3, .c (.slice)), (11, .c (.ptr)), (38, .c (.bool))] (codeAt B12 [1, 1, 1, 0, 0, 1, 1, 1]) fun x h Q => N12_j1 x.1 x.2.1 x.2.2.1 x.2.2.2.1 x.2.2.2.2.1 x.2.2.2.2.2 h (fun h' => Q .normal (Sg.env [] ()) h') (fun o0 h' => Q .ret (Sg.env [(10, .c (.slice))] o0) h')
theorem N12_j1_ok : Sound Try.prog Try.f12.ntmps N12_j1_t (codeAt B12 [1, 1, 1, 0, 0, 1, 1, 1]) := by
 refine piece_sound (fun e => match e with | .normal => [] | .ret => [10] | _ => []) ?_
 intro x h Q hb
 refine den_sound hE hm _ (.two (.two (.ord [0, 1, 2, 3, 4, 5, 6, 7, 8]) .leaf) .leaf) _ _ _ (⟨⟨trivial, annOk_leaf⟩, annOk_leaf⟩) ?_
 refine cast ?_ hb
 kernel_rfl
def N12_j0 (x0 : Option Addr) (x1 x2 : Int) (x3 : Sl) (x11 : Option Addr) (x21 : Bool) (h : Hp) (Kn : Hp → Prop) (Kr : Sl → Hp → Prop) : Prop :=
 bif x21 then
 C39 x3 h fun s0 h0 =>
 nn x11 fun a0 =>
 st h0 (a0.add 8) (.int .u32 x1) fun h1 =>
 nn x11 fun a1 =>
 st h1 (a1.add 9) (.slice s0.p s0.n s0.c) fun h2 =>
 Kr ⟨none, 0, 0⟩ h2
 else
 peq h x11 none fun b0 =>
 bif (!b0) then
 nn x0 fun a2 =>
 xI .i64 (cell h (a2.add 8)) fun n0 =>
 nn x11 fun a3 =>
 xI .i64 (cell h (a3.add 6)) fun n1 =>
 N12_j1 x0 x1 x2 x3 x11 (decide (n0 < n1)) h
 (fun h3 =>
 Kn h3)
 (fun s1 h4 =>
 Kr s1 h4)
 else
 N12_j1 x0 x1 x2 x3 x11 false h
 (fun h5 =>
 Kn h5)
 (fun s2 h6 =>
 Kr s2 h6)
noncomputable def N12_j0_t : Xf := pieceT [(0, .c (.ptr)), (1, .c (.int .u32)), (2, .c (.int .u32)), (3, .c (.slice)), (11, .c (.ptr)), (21, .c (.bool))] (codeAt B12 [1, 1, 1, 0, 0, 1]) fun x h Q => N12_j0 x.1 x.2.1 x.2.2.1 x.2.2.2.1 x.2.2.2.2.1 x.2.2.2.2.2 h (fun h' => Q .normal (Sg.env [] ()) h') (fun o0 h' => Q .ret (Sg.env [(10, .c (.slice))] o0) h')
theorem N12_j0_ok : Sound Try.prog Try.f12.ntmps N12_j0_t (codeAt B12 [1, 1, 1, 0, 0, 1]) := by
 refine piece_sound (fun e => match e with | .normal => [] | .ret => [10] | _ => []) ?_
 intro x h Q hb
 refine den_sound hE hm _ (.two .leaf (.two (.ord [0, 1, 2, 3, 4, 5, 6, 7, 8, 9, 10, 11, 12, 13]) (.xf N12_j1_t))) _ _ _ (⟨annOk_leaf, ⟨trivial, N12_j1_ok⟩⟩) ?_
 refine cast ?_ hb
 kernel_rfl
def N12_j2 (x0 : Option Addr) (x1 x2 : Int) (x3 : Sl) (h : Hp) (Kr : Sl → Hp → Prop) : Prop :=
 nn x0 fun a0 =>
 xM (cell h (a0.add 7)) fun m0 =>
 mdK Try.prog 74 (.map m0) (.int .u32 x2) h fun h0 =>
 C40 x0 h0 fun b0 h1 =>
 bif (!b0) then
 Kr ⟨none, 0, 0⟩ h1
 else
 C41 x0 10 h1 fun n0 h2 =>
 C39 x3 h2 fun s0 h3 =>
 nw h3 (.cells ⟨[.int .u8 0, .int .u8 0, .int .u8 0, .int .u8 0, .int .u8 0, .int .u8 0, .int .i64 n0, .int .i64 1, .int .u32 x1, .slice s0.p s0.n s0.c]⟩ 88) fun b1 h4 =>
 nn x0 fun a1 =>
 xM (cell h4 (a1.add 7)) fun m1 =>
 muK Try.prog 74 (.map m1) (.int .u32 x2) (.pointer (some (bk b1))) h4 fun h5 =>
 C42 x0 x2 (some (bk b1)) h5 fun n1 n2 n3 n4 n5 n6 n7 s1 h6 =>
 nw h6 (.cells ⟨[.int .u8 n1, .int .u8 n2, .int .u8 n3, .int .u8 n4, .int .u8 n5, .int .u8 n6, .int .i64 n7, .slice s1.p s1.n s1.c]⟩ 59) fun b2 h7 =>
 Kr ⟨some (bk b2), 1, 1⟩ h7
noncomputable def N12_j2_t : Xf := pieceT [(0, .c (.ptr)), (1, .c (.int .u32)), (2, .c (.int .u32)), (3, .c (.slice))] (codeAt B12 [1, 1, 1, 1]) fun x h Q => N12_j2 x.1 x.2.1 x.2.2.1 x.2.2.2 h (fun o0 h' => Q .ret (Sg.env [(10, .c (.slice))] o0) h')
theorem N12_j2_ok : Sound Try.prog Try.f12.ntmps N12_j2_t (codeAt B12 [1, 1, 1, 1]) := by
 refine piece_sound (fun e => match e with | .ret => [10] | _ => []) ?_
 intro x h Q hb
 refine den_sound hE hm _ .leaf _ _ _ (annOk_leaf) ?_
 refine cast ?_ hb
 kernel_rfl
def N12 (x0 : Option Addr) (x1 x2 : Int) (x3 : Sl) (x4 : Int) (h : Hp) (K : Sl → Hp → Prop) : Prop :=
 C37 x0 x4 h fun h0 =>
 nn x0 fun a0 =>
 xM (cell h0 (a0.add 7)) fun m0 =>
 xMap h0 m0 fun es0 _ =>
 keyAt (.int .u32) (.int .u32 x2) es0 fun r0 =>
 xP (some (rval r0 (.pointer none))) fun p0 =>
 peq h0 p0 none fun b0 =>
 bif (!b0) then
 C38 p0 h0 fun b1 h1 =>
 N12_j0 x0 x1 x2 x3 p0 (!b1) h1
 (fun h2 =>
 N12_j2 x0 x1 x2 x3 h2
 (fun s0 h3 =>
 K s0 h3))
 (fun s1 h4 =>
 K s1 h4)
 else
 N12_j0 x0 x1 x2 x3 p0 false h0
 (fun h5 =>
 N12_j2 x0 x1 x2 x3 h5
 (fun s2 h6 =>
 K s2 h6))
 (fun s3 h7 =>
 K s3 h7)
theorem S12 {x0 : Option Addr} {x1 x2 : Int} {x3 : Sl} {x4 : Int} {h : Hp} {K : Sl → Hp → Prop} (hn : N12 x0 x1 x2 x3 x4 h K) : C12 x0 x1 x2 x3 x4 h K := by
 refine calls_of_D Try.func12 (c := B12) rfl (by kernel_rfl) ?_
 refine den_sound hE hm _ (.two .leaf (.two .leaf (.two .leaf (.two (.one (.two .leaf (.xf N12_j0_t))) (.xf N12_j2_t))))) _ _ _ (⟨annOk_leaf, ⟨annOk_leaf, ⟨annOk_leaf, ⟨⟨annOk_leaf, N12_j0_ok⟩, N12_j2_ok⟩⟩⟩⟩) ?_
 refine cast ?_ hn
 kernel_rfl
end Go.Proofs.Ytkfccpabigikkaa

set_option linter.unusedVariables false
set_option maxRecDepth 100000
namespace Go.Proofs.Ytkfccpabigikkaa
open Go Go.Hw
noncomputable def B48 : Code := match Try.f48.body with | some c => c | none => .skip
def N48_j0 (x0 : Option Addr) (x2 : Bool) (x4 x7 : Option Addr) (x8 : Sl) (x16 : Bool) (h : Hp) (Kn Kr : Sl → Hp → Prop) : Prop :=
 bif x16 then
 nn x4 fun a0 =>
 xI .u8 (cell h (a0.add 1)) fun n0 =>
 xI .u8 (cell h (a0.add 2)) fun n1 =>
 xI .u8 (cell h (a0.add 3)) fun n2 =>
 xI .u8 (cell h (a0.add 4)) fun n3 =>
 xI .u8 (cell h (a0.add 5)) fun n4 =>
 xI .u8 (cell h (a0.add 6)) fun n5 =>
 nn x7 fun a1 =>
 xL (cell h (a1.add 9)) fun s0 =>
 nw h (.cells ⟨[.int .u8 n0, .int .u8 n1, .int .u8 n2, .int .u8 n3, .int .u8 n4, .int .u8 n5, .int .i64 2048, .slice s0.p s0.n s0.c]⟩ 59) fun b0 h0 =>
 apK Try.prog 59 x8 (.slice (some (bk b0)) 1 1) h0 fun s1 h1 =>
 Kn s1 h1
 else
 peq h x7 none fun b1 =>
 bif b1 then
 bif (!x2) then
 Kr ⟨none, 0, 0⟩ h
 else
 C40 x0 h fun b2 h2 =>
 bif (!b2) then
 Kr ⟨none, 0, 0⟩ h2
 else
 Kn x8 h2
 else
 Kn x8 h
noncomputable def N48_j0_t : Xf := pieceT [(0, .c (.ptr)), (2, .c (.bool)), (4, .c (.ptr)), (7, .c (.ptr)), (8, .c (.slice)), (16, .c (.bool))] (codeAt B48 [1, 1, 1, 0, 0, 1]) fun x h Q => N48_j0 x.1 x.2.1 x.2.2.1 x.2.2.2.1 x.2.2.2.2.1 x.2.2.2.2.2 h (fun o0 h' => Q .normal (Sg.env [(8, .c (.slice))] o0) h') (fun o0 h' => Q .ret (Sg.env [(6, .c (.slice))] o0) h')
theorem N48_j0_ok : Sound Try.prog Try.f48.ntmps N48_j0_t (codeAt B48 [1, 1, 1, 0, 0, 1]) := by
 refine piece_sound (fun e => match e with | .normal => [8] | .ret => [6] | _ => []) ?_
 intro x h Q hb
 refine den_sound hE hm _ (.two (.ord [0, 1, 2, 3, 4, 5, 6, 7, 8, 9, 10]) .leaf) _ _ _ (⟨trivial, annOk_leaf⟩) ?_
 refine cast ?_ hb
 kernel_rfl
def N48_j1 (x0 x4 : Option Addr) (x8 : Sl) (h : Hp) (Kr : Sl → Hp → Prop) : Prop :=
 nn x0 fun a0 =>
 xM (cell h (a0.add 7)) fun m0 =>
 nn x4 fun a1 =>
 xI .u32 (cell h (a1.add 7)) fun n0 =>
 nn x4 fun a2 =>
 xI .u8 (cell h (a2.add 1)) fun n1 =>
 xI .u8 (cell h (a2.add 2)) fun n2 =>
 xI .u8 (cell h (a2.add 3)) fun n3 =>
 xI .u8 (cell h (a2.add 4)) fun n4 =>
 xI .u8 (cell h (a2.add 5)) fun n5 =>
 xI .u8 (cell h (a2.add 6)) fun n6 =>
 C41 x0 600 h fun n7 h0 =>
 both (xI .u8 (cell h0 (a2.add 1)) fun n8 => xI .u8 (cell h0 (a2.add 2)) fun n9 => xI .u8 (cell h0 (a2.add 3)) fun n10 => xI .u8 (cell h0 (a2.add 4)) fun n11 => xI .u8 (cell h0 (a2.add 5)) fun n12 => xI .u8 (cell h0 (a2.add 6)) fun n13 => Only (.agg ⟨[.int .u8 n1, .int .u8 n2, .int .u8 n3, .int .u8 n4, .int .u8 n5, .int .u8 n6]⟩) h0 (.agg ⟨[.int .u8 n8, .int .u8 n9, .int .u8 n10, .int .u8 n11, .int .u8 n12, .int .u8 n13]⟩) h0) <|
 both (xI .u32 (cell h0 (a1.add 7)) fun n14 => Only (.int .u32 n0) h0 (.int .u32 n14) h0) <|
 both (xM (cell h0 (a0.add 7)) fun m1 => Only (.map m0) h0 (.map m1) h0) <|
 nw h0 (.cells ⟨[.int .u8 n1, .int .u8 n2, .int .u8 n3, .int .u8 n4, .int .u8 n5, .int .u8 n6, .int .i64 n7, .int .i64 0, .int .u32 0, .slice none 0 0]⟩ 88) fun b0 h1 =>
 both (xI .u32 (cell h1 (a1.add 7)) fun n15 => Only (.int .u32 n0) h1 (.int .u32 n15) h1) <|
 both (xM (cell h1 (a0.add 7)) fun m2 => Only (.map m0) h1 (.map m2) h1) <|
 muK Try.prog 74 (.map m0) (.int .u32 n0) (.pointer (some (bk b0))) h1 fun h2 =>
 Kr x8 h2
noncomputable def N48_j1_t : Xf := pieceT [(0, .c (.ptr)), (4, .c (.ptr)), (8, .c (.slice))] (codeAt B48 [1, 1, 1, 1]) fun x h Q => N48_j1 x.1 x.2.1 x.2.2 h (fun o0 h' => Q .ret (Sg.env [(6, .c (.slice))] o0) h')
theorem N48_j1_ok : Sound Try.prog Try.f48.ntmps N48_j1_t (codeAt B48 [1, 1, 1, 1]) := by
 refine piece_sound (fun e => match e with | .ret => [6] | _ => []) ?_
 intro x h Q hb
 refine den_sound hE hm _ (.two (.ord [0, 1, 2, 3, 4, 5, 6, 7, 8, 9, 10, 11, 12]) .leaf) _ _ _ (⟨trivial, annOk_leaf⟩) ?_
 refine cast ?_ hb
 kernel_rfl
def N48 (x0 : Option Addr) (x1_0 x1_1 x1_2 x1_3 x1_4 x1_5 x1_6 x1_7 x1_8 x1_9 x1_10 x1_11 x1_12 x1_13 x1_14 : Int) (x2 : Bool) (h : Hp) (K : Sl → Hp → Prop) : Prop :=
 nw h (.cells ⟨[.int .i64 x1_0, .int .u8 x1_1, .int .u8 x1_2, .int .u8 x1_3, .int .u8 x1_4, .int .u8 x1_5, .int .u8 x1_6, .int .u32 x1_7, .int .u8 x1_8, .int .u8 x1_9, .int .u8 x1_10, .int .u8 x1_11, .int .u8 x1_12, .int .u8 x1_13, .int .u32 x1_14]⟩ 42) fun b0 h0 =>
 nn x0 fun a0 =>
 xM (cell h0 (a0.add 7)) fun m0 =>
 xI .u32 (cell h0 ((bk b0).add 7)) fun n0 =>
 xMap h0 m0 fun es0 _ =>
 keyAt (.int .u32) (.int .u32 n0) es0 fun r0 =>
 xP (some (rval r0 (.pointer none))) fun p0 =>
 peq h0 p0 none fun b1 =>
 bif (!b1) then
 C38 p0 h0 fun b2 h1 =>
 N48_j0 x0 x2 (some (bk b0)) p0 ⟨none, 0, 0⟩ (!b2) h1
 (fun s0 h2 =>
 N48_j1 x0 (some (bk b0)) s0 h2
 (fun s1 h3 =>
 K s1 h3))
 (fun s2 h4 =>
 K s2 h4)
 else
 N48_j0 x0 x2 (some (bk b0)) p0 ⟨none, 0, 0⟩ false h0
 (fun s3 h5 =>
 N48_j1 x0 (some (bk b0)) s3 h5
 (fun s4 h6 =>
 K s4 h6))
 (fun s5 h7 =>
 K s5 h7)
theorem S48 {x0 : Option Addr} {x1_0 x1_1 x1_2 x1_3 x1_4 x1_5 x1_6 x1_7 x1_8 x1_9 x1_10 x1_11 x1_12 x1_13 x1_14 : Int} {x2 : Bool} {h : Hp} {K : Sl → Hp → Prop} (hn : N48 x0 x1_0 x1_1 x1_2 x1_3 x1_4 x1_5 x1_6 x1_7 x1_8 x1_9 x1_10 x1_11 x1_12 x1_13 x1_14 x2 h K) : C48 x0 x1_0 x1_1 x1_2 x1_3 x1_4 x1_5 x1_6 x1_7 x1_8 x1_9 x1_10 x1_11 x1_12 x1_13 x1_14 x2 h K := by
 refine calls_of_D Try.func48 (c := B48) rfl (by kernel_rfl) ?_
 refine den_sound hE hm _ (.two .leaf (.two (.ord [0, 1, 2, 3, 4, 5, 6, 7]) (.two .leaf (.two (.one (.two .leaf (.xf N48_j0_t))) (.xf N48_j1_t))))) _ _ _ (⟨annOk_leaf, ⟨trivial, ⟨annOk_leaf, ⟨⟨annOk_leaf, N48_j0_ok⟩, N48_j1_ok⟩⟩⟩⟩) ?_
 refine cast ?_ hn
 kernel_rfl
end Go.Proofs.Ytkfccpabigikkaa

set_option linter.unusedVariables false
set_option maxRecDepth 100000
namespace Go.Proofs.Ytkfccpabigikkaa
open Go Go.Hw
noncomputable def B18 : Code := match Try.f18.body with | some c => c | none => .skip
def N18_j2 (x0 x5 : Option Addr) (x9 : Bool) (x10 : Sl) (x50 : Bool) (h : Hp) (Kn : Sl → Hp → Prop) : Prop :=
 bif x50 then
 nn x5 fun a0 =>
 xI .i64 (cell h a0) fun n0 =>
 xI .u8 (cell h (a0.add 1)) fun n1 =>
 xI .u8 (cell h (a0.add 2)) fun n2 =>
 xI .u8 (cell h (a0.add 3)) fun n3 =>
 xI .u8 (cell h (a0.add 4)) fun n4 =>
 xI .u8 (cell h (a0.add 5)) fun n5 =>
 xI .u8 (cell h (a0.add 6)) fun n6 =>
 xI .u32 (cell h (a0.add 7)) fun n7 =>
 xI .u8 (cell h (a0.add 8)) fun n8 =>
 xI .u8 (cell h (a0.add 9)) fun n9 =>
 xI .u8 (cell h (a0.add 10)) fun n10 =>
 xI .u8 (cell h (a0.add 11)) fun n11 =>
 xI .u8 (cell h (a0.add 12)) fun n12 =>
 xI .u8 (cell h (a0.add 13)) fun n13 =>
 xI .u32 (cell h (a0.add 14)) fun n14 =>
 C48 x0 n0 n1 n2 n3 n4 n5 n6 n7 n8 n9 n10 n11 n12 n13 n14 x9 h fun s0 h0 =>
 Kn s0 h0
 else
 Kn x10 h
noncomputable def N18_j2_t : Xf := pieceT [(0, .c (.ptr)), (5, .c (.ptr)), (9, .c (.bool)), (10, .c (.slice)), (50, .c (.bool))] (codeAt B18 [1, 1, 1, 1, 1, 0, 1]) fun x h Q => N18_j2 x.1 x.2.1 x.2.2.1 x.2.2.2.1 x.2.2.2.2 h (fun o0 h' => Q .normal (Sg.env [(10, .c (.slice))] o0) h')
theorem N18_j2_ok : Sound Try.prog Try.f18.ntmps N18_j2_t (codeAt B18 [1, 1, 1, 1, 1, 0, 1]) := by
 refine piece_sound (fun e => match e with | .normal => [10] | _ => []) ?_
 intro x h Q hb
 refine den_sound hE hm _ .leaf _ _ _ (annOk_leaf) ?_
 refine cast ?_ hb
 kernel_rfl
def N18_j3 (x0 x5 : Option Addr) (x9 : Bool) (x10 : Sl) (h : Hp) (Kr : Sl → Hp → Prop) : Prop :=
 bif x9 then
 nn x0 fun a0 =>
 xI .u8 (cell h a0) fun n0 =>
 xI .u8 (cell h (a0.add 1)) fun n1 =>
 xI .u8 (cell h (a0.add 2)) fun n2 =>
 xI .u8 (cell h (a0.add 3)) fun n3 =>
 xI .u8 (cell h (a0.add 4)) fun n4 =>
 xI .u8 (cell h (a0.add 5)) fun n5 =>
 nn x5 fun a1 =>
 xI .i64 (cell h a1) fun n6 =>
 xI .u8 (cell h (a1.add 1)) fun n7 =>
 xI .u8 (cell h (a1.add 2)) fun n8 =>
 xI .u8 (cell h (a1.add 3)) fun n9 =>
 xI .u8 (cell h (a1.add 4)) fun n10 =>
 xI .u8 (cell h (a1.add 5)) fun n11 =>
 xI .u8 (cell h (a1.add 6)) fun n12 =>
 xI .u32 (cell h (a1.add 7)) fun n13 =>
 xI .u8 (cell h (a1.add 8)) fun n14 =>
 xI .u8 (cell h (a1.add 9)) fun n15 =>
 xI .u8 (cell h (a1.add 10)) fun n16 =>
 xI .u8 (cell h (a1.add 11)) fun n17 =>
 xI .u8 (cell h (a1.add 12)) fun n18 =>
 xI .u8 (cell h (a1.add 13)) fun n19 =>
 xI .u32 (cell h (a1.add 14)) fun n20 =>
 C50 n0 n1 n2 n3 n4 n5 n6 n7 n8 n9 n10 n11 n12 n13 n14 n15 n16 n17 n18 n19 n20 h fun n21 n22 n23 n24 n25 n26 n27 n28 n29 n30 n31 n32 n33 n34 n35 h0 =>
 C49 n21 n22 n23 n24 n25 n26 n27 n28 n29 n30 n31 n32 n33 n34 n35 h0 fun s0 n36 h1 =>
 nn x5 fun a2 =>
 xI .u8 (cell h1 (a2.add 1)) fun n37 =>
 xI .u8 (cell h1 (a2.add 2)) fun n38 =>
 xI .u8 (cell h1 (a2.add 3)) fun n39 =>
 xI .u8 (cell h1 (a2.add 4)) fun n40 =>
 xI .u8 (cell h1 (a2.add 5)) fun n41 =>
 xI .u8 (cell h1 (a2.add 6)) fun n42 =>
 nw h1 (.cells ⟨[.int .u8 n37, .int .u8 n38, .int .u8 n39, .int .u8 n40, .int .u8 n41, .int .u8 n42, .int .i64 2054, .slice s0.p s0.n s0.c]⟩ 59) fun b0 h2 =>
 apK Try.prog 59 x10 (.slice (some (bk b0)) 1 1) h2 fun s1 h3 =>
 Kr s1 h3
 else
 Kr x10 h
noncomputable def N18_j3_t : Xf := pieceT [(0, .c (.ptr)), (5, .c (.ptr)), (9, .c (.bool)), (10, .c (.slice))] (codeAt B18 [1, 1, 1, 1, 1, 1]) fun x h Q => N18_j3 x.1 x.2.1 x.2.2.1 x.2.2.2 h (fun o0 h' => Q .ret (Sg.env [(8, .c (.slice))] o0) h')
theorem N18_j3_ok : Sound Try.prog Try.f18.ntmps N18_j3_t (codeAt B18 [1, 1, 1, 1, 1, 1]) := by
 refine piece_sound (fun e => match e with | .ret => [8] | _ => []) ?_
 intro x h Q hb
 refine den_sound hE hm _ (.two (.two .leaf (.two (.two (.ord [0, 1, 2, 3, 4, 5, 6, 7, 8, 9, 10, 11]) .leaf) .leaf)) .leaf) _ _ _ (⟨⟨annOk_leaf, ⟨⟨trivial, annOk_leaf⟩, annOk_leaf⟩⟩, annOk_leaf⟩) ?_
 refine cast ?_ hb
 kernel_rfl
def N18_j1 (x0 : Option Addr) (x2 : Int) (x5 : Option Addr) (x9 : Bool) (h : Hp) (Kr : Sl → Hp → Prop) : Prop :=
 nn x5 fun a0 =>
 xI .u32 (cell h (a0.add 7)) fun n0 =>
 C47 n0 h fun b0 h0 =>
 bif b0 then
 nn x5 fun a1 =>
 xI .u32 (cell h0 (a1.add 7)) fun n1 =>
 N18_j2 x0 x5 x9 ⟨none, 0, 0⟩ (n1 != x2) h0
 (fun s0 h1 =>
 N18_j3 x0 x5 x9 s0 h1
 (fun s1 h2 =>
 Kr s1 h2))
 else
 N18_j2 x0 x5 x9 ⟨none, 0, 0⟩ false h0
 (fun s2 h3 =>
 N18_j3 x0 x5 x9 s2 h3
 (fun s3 h4 =>
 Kr s3 h4))
noncomputable def N18_j1_t : Xf := pieceT [(0, .c (.ptr)), (2, .c (.int .u32)), (5, .c (.ptr)), (9, .c (.bool))] (codeAt B18 [1, 1, 1, 1]) fun x h Q => N18_j1 x.1 x.2.1 x.2.2.1 x.2.2.2 h (fun o0 h' => Q .ret (Sg.env [(8, .c (.slice))] o0) h')
theorem N18_j1_ok : Sound Try.prog Try.f18.ntmps N18_j1_t (codeAt B18 [1, 1, 1, 1]) := by
 refine piece_sound (fun e => match e with | .ret => [8] | _ => []) ?_
 intro x h Q hb
 refine den_sound hE hm _ (.two .leaf (.two (.two .leaf (.xf N18_j2_t)) (.xf N18_j3_t))) _ _ _ (⟨annOk_leaf, ⟨⟨annOk_leaf, N18_j2_ok⟩, N18_j3_ok⟩⟩) ?_
 refine cast ?_ hb
 kernel_rfl
def N18_j0 (x0 : Option Addr) (x2 : Int) (x5 : Option Addr) (h : Hp) (Kr : Sl → Hp → Prop) : Prop :=
 bif (x2 != 0) then
 nn x5 fun a0 =>
 xI .i64 (cell h a0) fun n0 =>
 bif (n0 == 1) then
 nn x5 fun a1 =>
 xI .u32 (cell h (a1.add 14)) fun n1 =>
 N18_j1 x0 x2 x5 (n1 == x2) h
 (fun s0 h0 =>
 Kr s0 h0)
 else
 N18_j1 x0 x2 x5 false h
 (fun s1 h1 =>
 Kr s1 h1)
 else
 N18_j1 x0 x2 x5 false h
 (fun s2 h2 =>
 Kr s2 h2)
noncomputable def N18_j0_t : Xf := pieceT [(0, .c (.ptr)), (2, .c (.int .u32)), (5, .c (.ptr))] (codeAt B18 [1, 1, 1]) fun x h Q => N18_j0 x.1 x.2.1 x.2.2 h (fun o0 h' => Q .ret (Sg.env [(8, .c (.slice))] o0) h')
theorem N18_j0_ok : Sound Try.prog Try.f18.ntmps N18_j0_t (codeAt B18 [1, 1, 1]) := by
 refine piece_sound (fun e => match e with | .ret => [8] | _ => []) ?_
 intro x h Q hb
 refine den_sound hE hm _ (.two .leaf (.xf N18_j1_t)) _ _ _ (⟨annOk_leaf, N18_j1_ok⟩) ?_
 refine cast ?_ hb
 kernel_rfl
def N18 (x0 : Option Addr) (x1_0 x1_1 x1_2 x1_3 x1_4 x1_5 x1_6 x1_7 x1_8 x1_9 x1_10 x1_11 x1_12 x1_13 x1_14 x2 x3 : Int) (h : Hp) (K : Sl → Hp → Prop) : Prop :=
 nw h (.cells ⟨[.int .i64 x1_0, .int .u8 x1_1, .int .u8 x1_2, .int .u8 x1_3, .int .u8 x1_4, .int .u8 x1_5, .int .u8 x1_6, .int .u32 x1_7, .int .u8 x1_8, .int .u8 x1_9, .int .u8 x1_10, .int .u8 x1_11, .int .u8 x1_12, .int .u8 x1_13, .int .u32 x1_14]⟩ 42) fun b0 h0 =>
 C37 x0 x3 h0 fun h1 =>
 xI .i64 (cell h1 (bk b0)) fun n0 =>
 bif (n0 != 1) then
 xI .i64 (cell h1 (bk b0)) fun n1 =>
 bif (n1 != 2) then
 K ⟨none, 0, 0⟩ h1
 else
 xI .u8 (cell h1 ((bk b0).add 1)) fun n2 =>
 xI .u8 (cell h1 ((bk b0).add 2)) fun n3 =>
 xI .u8 (cell h1 ((bk b0).add 3)) fun n4 =>
 xI .u8 (cell h1 ((bk b0).add 4)) fun n5 =>
 xI .u8 (cell h1 ((bk b0).add 5)) fun n6 =>
 xI .u8 (cell h1 ((bk b0).add 6)) fun n7 =>
 C46 n2 n3 n4 n5 n6 n7 h1 fun b1 h2 =>
 bif b1 then
 K ⟨none, 0, 0⟩ h2
 else
 N18_j0 x0 x2 (some (bk b0)) h2
 (fun s0 h3 =>
 K s0 h3)
 else
 xI .u8 (cell h1 ((bk b0).add 1)) fun n8 =>
 xI .u8 (cell h1 ((bk b0).add 2)) fun n9 =>
 xI .u8 (cell h1 ((bk b0).add 3)) fun n10 =>
 xI .u8 (cell h1 ((bk b0).add 4)) fun n11 =>
 xI .u8 (cell h1 ((bk b0).add 5)) fun n12 =>
 xI .u8 (cell h1 ((bk b0).add 6)) fun n13 =>
 C46 n8 n9 n10 n11 n12 n13 h1 fun b2 h4 =>
 bif b2 then
 K ⟨none, 0, 0⟩ h4
 else
 N18_j0 x0 x2 (some (bk b0)) h4
 (fun s1 h5 =>
 K s1 h5)
theorem S18 {x0 : Option Addr} {x1_0 x1_1 x1_2 x1_3 x1_4 x1_5 x1_6 x1_7 x1_8 x1_9 x1_10 x1_11 x1_12 x1_13 x1_14 x2 x3 : Int} {h : Hp} {K : Sl → Hp → Prop} (hn : N18 x0 x1_0 x1_1 x1_2 x1_3 x1_4 x1_5 x1_6 x1_7 x1_8 x1_9 x1_10 x1_11 x1_12 x1_13 x1_14 x2 x3 h K) : C18 x0 x1_0 x1_1 x1_2 x1_3 x1_4 x1_5 x1_6 x1_7 x1_8 x1_9 x1_10 x1_11 x1_12 x1_13 x1_14 x2 x3 h K := by
 refine calls_of_D Try.func18 (c := B18) rfl (by kernel_rfl) ?_
 refine den_sound hE hm _ (.two .leaf (.two .leaf (.two .leaf (.xf N18_j0_t)))) _ _ _ (⟨annOk_leaf, ⟨annOk_leaf, ⟨annOk_leaf, N18_j0_ok⟩⟩⟩) ?_
 refine cast ?_ hn
 kernel_rfl
end Go.Proofs.Ytkfccpabigikkaa

set_option linter.unusedVariables false
set_option maxRecDepth 100000
namespace Go.Proofs.Ytkfccpabigikkaa
open Go Go.Hw
noncomputable def B19 : Code := match Try.f19.body with | some c => c | none => .skip
def N19_j1 (x0 : Option Addr) (x5 : Sl) (x7 : Int) (x8 : Option Addr) (x13 : Sl) (x14 x15 : Int) (x54 : Bool) (h : Hp) (Kn : Sl → Hp → Prop) : Prop :=
 bif x54 then
 nn x0 fun a0 =>
 xM (cell h (a0.add 7)) fun m0 =>
 mdK Try.prog 74 (.map m0) (.int .u32 x7) h fun h0 =>
 Kn x5 h0
 else
 nn x8 fun a1 =>
 xI .i64 (cell h (a1.add 7)) fun n0 =>
 nn x8 fun a2 =>
 st h (a2.add 7) (.int .i64 (IntKind.wrap .i64 (n0 + 1))) fun h1 =>
 C41 x0 10 h1 fun n1 h2 =>
 nn x8 fun a3 =>
 st h2 (a3.add 6) (.int .i64 n1) fun h3 =>
 C42 x0 x7 x8 h3 fun n2 n3 n4 n5 n6 n7 n8 s0 h4 =>
 nw h4 (.cells ⟨[.int .u8 n2, .int .u8 n3, .int .u8 n4, .int .u8 n5, .int .u8 n6, .int .u8 n7, .int .i64 n8, .slice s0.p s0.n s0.c]⟩ 59) fun b0 h5 =>
 apK Try.prog 59 x5 (.slice (some (bk b0)) 1 1) h5 fun s1 h6 =>
 Kn s1 h6
noncomputable def N19_j1_t : Xf := pieceT [(0, .c (.ptr)), (5, .c (.slice)), (7, .c (.int .u32)), (8, .c (.ptr)), (13, .c (.slice)), (14, .c (.int .i64)), (15, .c (.int .i64)), (54, .c (.bool))] (codeAt B19 [1, 1, 1, 0, 1, 0, 0, 1, 1, 0, 0, 1, 1, 0, 1, 1, 1]) fun x h Q => N19_j1 x.1 x.2.1 x.2.2.1 x.2.2.2.1 x.2.2.2.2.1 x.2.2.2.2.2.1 x.2.2.2.2.2.2.1 x.2.2.2.2.2.2.2 h (fun o0 h' => Q .normal (Sg.env [(5, .c (.slice))] o0) h')
theorem N19_j1_ok : Sound Try.prog Try.f19.ntmps N19_j1_t (codeAt B19 [1, 1, 1, 0, 1, 0, 0, 1, 1, 0, 0, 1, 1, 0, 1, 1, 1]) := by
 refine piece_sound (fun e => match e with | .normal => [5] | _ => []) ?_
 intro x h Q hb
 refine den_sound hE hm _ .leaf _ _ _ (annOk_leaf) ?_
 refine cast ?_ hb
 kernel_rfl
def N19_l0_b (x0 : Option Addr) (x13 : Sl) (x14 : Int) (Φ : Sl → Int → Hp → Prop) (x5 : Sl) (x15 : Int) (h : Hp) (K0 : Sl → Hp → Prop) : Prop :=
 bif (decide (x15 < x14)) then
 idx x15 x13.n <|
 nn x13.p fun a0 =>
 xI .u32 (cell h (a0.add (x15.toNat * 1))) fun n0 =>
 nn x0 fun a1 =>
 xM (cell h (a1.add 7)) fun m0 =>
 xMap h m0 fun es0 _ =>
 keyAt (.int .u32) (.int .u32 n0) es0 fun r0 =>
 xP (some (rval r0 (.pointer none))) fun p0 =>
 nn p0 fun a2 =>
 xI .i64 (cell h (a2.add 6)) fun n1 =>
 nn x0 fun a3 =>
 xI .i64 (cell h (a3.add 8)) fun n2 =>
 bif (decide (n1 > n2)) then
 Φ x5 (IntKind.wrap .i64 (x15 + 1)) h
 else
 C38 p0 h fun b0 h0 =>
 bif b0 then
 N19_j1 x0 x5 n0 p0 x13 x14 x15 true h0
 (fun s0 h1 =>
 Φ s0 (IntKind.wrap .i64 (x15 + 1)) h1)
 else
 nn p0 fun a4 =>
 xI .i64 (cell h0 (a4.add 7)) fun n3 =>
 N19_j1 x0 x5 n0 p0 x13 x14 x15 (decide (n3 ≥ 3)) h0
 (fun s1 h2 =>
 Φ s1 (IntKind.wrap .i64 (x15 + 1)) h2)
 else
 K0 x5 h
def N19_l0_B (x0 : Option Addr) (x13 : Sl) (x14 : Int) (K0 : Sl → Hp → Prop) (s : Sg.T [(5, .c (.slice)), (15, .c (.int .i64))]) (h : Hp) (Φ : Sg.T [(5, .c (.slice)), (15, .c (.int .i64))] → Hp → Prop) : Prop :=
 N19_l0_b x0 x13 x14 (fun x5 x15 h => Φ (x5, x15) h) s.1 s.2 h K0
def N19_l0 (x0 : Option Addr) (x13 : Sl) (x14 : Int) (x5 : Sl) (x15 : Int) (h : Hp) (K0 : Sl → Hp → Prop) : Prop :=
 loopP (N19_l0_B x0 x13 x14 K0) (x5, x15) h
noncomputable def N19_l0_t : Xf := loopT [(0, .c (.ptr)), (13, .c (.slice)), (14, .c (.int .i64))] [(5, .c (.slice)), (15, .c (.int .i64))] (codeAt B19 [1, 1, 1, 0, 1, 0, 0]) fun F Q => N19_l0_B F.1 F.2.1 F.2.2 (fun o0 h' => Q (.exit 0) (Sg.env [(5, .c (.slice))] o0) h')
theorem N19_l0_ok : Sound Try.prog Try.f19.ntmps N19_l0_t (codeAt B19 [1, 1, 1, 0, 1, 0]) := by
 refine loop_sound (fun e => match e with | .exit 0 => [5] | _ => []) (by kernel_rfl) ?_
 intro F Q s h Φ hb
 refine den_sound hE hm _ (.two .leaf (.two .leaf (.two (.one (.two .leaf (.two .leaf (.one (.two (.ord [0, 1, 2, 3, 4, 5, 6, 7, 8, 9]) (.two .leaf (.two .leaf (.xf N19_j1_t)))))))) .leaf))) _ _ _ (⟨annOk_leaf, ⟨annOk_leaf, ⟨⟨annOk_leaf, ⟨annOk_leaf, ⟨trivial, ⟨annOk_leaf, ⟨annOk_leaf, N19_j1_ok⟩⟩⟩⟩⟩, annOk_leaf⟩⟩⟩) ?_
 refine cast ?_ hb
 kernel_rfl
def N19 (x0 : Option Addr) (x1 : Int) (h : Hp) (K : Sl → Hp → Prop) : Prop :=
 C37 x0 x1 h fun h0 =>
 C51 x0 h0 fun s0 h1 =>
 N19_l0 x0 s0 ((s0.n : Nat) : Int) ⟨none, 0, 0⟩ 0 h1
 (fun s1 h2 =>
 K s1 h2)
theorem S19 {x0 : Option Addr} {x1 : Int} {h : Hp} {K : Sl → Hp → Prop} (hn : N19 x0 x1 h K) : C19 x0 x1 h K := by
 refine calls_of_D Try.func19 (c := B19) rfl (by kernel_rfl) ?_
 refine den_sound hE hm _ (.two .leaf (.two .leaf (.two .leaf (.two (.two .leaf (.one (.xf N19_l0_t))) .leaf)))) _ _ _ (⟨annOk_leaf, ⟨annOk_leaf, ⟨annOk_leaf, ⟨⟨annOk_leaf, N19_l0_ok⟩, annOk_leaf⟩⟩⟩⟩) ?_
 refine cast ?_ hn
 kernel_rfl
end Go.Proofs.Ytkfccpabigikkaa

/-
 The cache: what the program's calls do: Ask, On, Tick.
-/
set_option linter.unusedSimpArgs false
set_option linter.unusedVariables false
set_option maxRecDepth 4000
namespace Go.Proofs.Ytkfccpabigikkaa
open Go Go.Hw
def newC (c : Ca) (src ip : Int) (pk : List UInt8) : List Snd × Ca := match roomL c.most (delK keyE ip c.l) with
 | none => ([], { c with l := delK keyE ip c.l })
 | some l => ([questC c ⟨ip, mac0, behindC c 10, 1, src, pk⟩], { c with l := putL' ⟨ip, mac0, behindC c 10, 1, src, pk⟩ l })
def askC (c : Ca) (src ip : Int) (pk : List UInt8) : List Snd × Ca := match findK keyE ip c.l with
 | none => newC c src ip pk
 | some e => if e.tries ≠ 0 then ([], { c with l := updK keyE ip { e with src := src, pk := pk } c.l }) else if c.now < e.til then ([⟨e.mac, 2048, pk⟩], c) else newC c src ip pk
def learnC (c : Ca) (ip : Int) (mac : M6) (asks : Bool) : List Snd × Ca := match findK keyE ip c.l with
 | some e => (if e.tries ≠ 0 then [⟨mac, 2048, e.pk⟩] else [], { c with l := updK keyE ip ⟨ip, mac, behindC c 600, 0, 0, []⟩ c.l })
 | none => if asks then match roomL c.most c.l with
  | none => ([], c)
  | some l => ([], { c with l := putL' ⟨ip, mac, behindC c 600, 0, 0, []⟩ l }) else ([], c)
def asksC (op own di : Int) : Bool := decide (own ≠ 0) && (decide (op = 1) && decide (di = own))
def onC (c : Ca) (op : Int) (s : M6) (si di own : Int) : List Snd × Ca := if (op ≠ 1 ∧ op ≠ 2) ∨ s.a % 2 = 1 then ([], c) else
 let r := if isHost si && decide (si ≠ own) then learnC c si s (asksC op own di) else ([], c)
 (r.1 ++ if asksC op own di then [⟨s, 2054, arpL 2 c.own di s si⟩] else [], r.2)
def tickE (c : Ca) (e : NE) : NE := { e with tries := e.tries + 1, til := behindC c 10 }
def tickL (c : Ca) : List NE → List NE × List Snd
 | [] => ([], [])
 | e :: l => if c.now < e.til then (e :: (tickL c l).1, (tickL c l).2) else if e.tries = 0 ∨ 3 ≤ e.tries then tickL c l else (tickE c e :: (tickL c l).1, questC c (tickE c e) :: (tickL c l).2)
def tickC (c : Ca) : List Snd × Ca := ((tickL c c.l).2, { c with l := (tickL c c.l).1 })
theorem Ca.ok.tell {c : Ca} (h : c.ok) (now : Int) : (tellC c now).ok := ⟨h.own, h.most, h.srt, h.all, h.len, by have := h.now; simp only [tellC, maxT] at *; omega⟩
theorem behind_rng {c : Ca} (h : c.ok) {n : Int} (hn : 0 ≤ n) : 0 ≤ behindC c n ∧ behindC c n ≤ maxT := by have := h.now; simp only [behindC, maxT] at *; omega
theorem delK_srt {n : Int} {l : List NE} (h : l.Pairwise fun a b => a.ip < b.ip) : (delK keyE n l).Pairwise fun a b => a.ip < b.ip := h.filter _
theorem delK_len {n : Int} {l : List NE} : (delK keyE n l).length ≤ l.length := List.length_filter_le _ _
theorem delK_mem {n : Int} {l : List NE} {e : NE} (h : e ∈ delK keyE n l) : e ∈ l ∧ e.ip ≠ n := by
 have := List.mem_filter.1 h
 exact ⟨this.1, by simpa [keyE] using this.2⟩
theorem delK_lt {n : Int} {l : List NE} {e : NE} (h : e ∈ l) (hn : e.ip = n) : (delK keyE n l).length < l.length := by
 have : (delK keyE n l).length ≠ l.length := by
  intro q
  have := List.length_filter_eq_length_iff.1 q e h
  simp [keyE, hn] at this
 have := delK_len (n := n) (l := l)
 omega
theorem updK_srt {n : Int} {e : NE} {l : List NE} (h : l.Pairwise fun a b => a.ip < b.ip) (he : e.ip = n) : (updK keyE n e l).Pairwise fun a b => a.ip < b.ip := by
 have : ((updK keyE n e l).map NE.ip).Pairwise fun a b => a < b := by
  rw [show (updK keyE n e l).map NE.ip = l.map NE.ip from updK_keys (key := keyE) he]
  exact List.pairwise_map.2 h
 exact List.pairwise_map.1 this
theorem updK_mem {n : Int} {e x : NE} {l : List NE} (h : x ∈ updK keyE n e l) : x = e ∨ x ∈ l := by
 obtain ⟨y, hy, rfl⟩ := List.mem_map.1 h
 split
 ·exact .inl rfl
 ·exact .inr hy
theorem putL_mem {e x : NE} {l : List NE} (h : x ∈ putL' e l) : x = e ∨ x ∈ l := List.mem_cons.1 ((putL_perm e l).mem_iff.1 h)
theorem putL_len {e : NE} {l : List NE} : (putL' e l).length = l.length + 1 := (putL_perm e l).length_eq
theorem putL_srt {e : NE} : ∀ {l : List NE}, l.Pairwise (fun a b => a.ip < b.ip) → (∀ x ∈ l, x.ip ≠ e.ip) → (putL' e l).Pairwise fun a b => a.ip < b.ip := by
 intro l
 induction l with
 | nil => intro _ _; simp [putL']
 | cons p l ih =>
  intro h hne
  obtain ⟨h1, h2⟩ := List.pairwise_cons.1 h
  have hp := hne p List.mem_cons_self
  unfold putL'
  split
  ·rename_i hgt
   refine List.pairwise_cons.2 ⟨fun x hx => ?_, h⟩
   rcases List.mem_cons.1 hx with rfl | hx
   ·omega
   ·have := h1 x hx; omega
  ·rename_i hgt
   refine List.pairwise_cons.2 ⟨fun x hx => ?_, ih h2 fun x hx => hne x (List.mem_cons_of_mem _ hx)⟩
   rcases putL_mem hx with rfl | hx
   ·omega
   ·exact h1 x hx
theorem roomL_some {most : Int} {l l' : List NE} (h : roomL most l = some l') (hl : (l.length : Int) ≤ most) (hm : 1 ≤ most) : (l'.length : Int) < most ∧ (l' = l ∨ ∃ e ∈ l, l' = delK keyE e.ip l) := by
 unfold roomL at h
 split at h
 ·cases h; exact ⟨by assumption, .inl rfl⟩
 ·split at h
  ·cases h
  ·rename_i e he
   cases h
   rcases leastK_mem he with q | q
   ·cases q
   ·have := delK_lt q rfl
    exact ⟨by omega, .inr ⟨e, q, rfl⟩⟩
theorem Ca.ok.sub {c : Ca} (h : c.ok) {l : List NE} (hs : l.Pairwise fun a b => a.ip < b.ip) (hm : ∀ e ∈ l, e.ok) (hl : (l.length : Int) ≤ c.most) : ({ c with l := l } : Ca).ok := ⟨h.own, h.most, hs, hm, hl, h.now⟩
theorem Ca.ok.del {c : Ca} (h : c.ok) (n : Int) : ({ c with l := delK keyE n c.l } : Ca).ok := h.sub (delK_srt h.srt) (fun e he => h.all e (delK_mem he).1) (by have := delK_len (n := n) (l := c.l); have := h.len; omega)
theorem Ca.ok.room {c : Ca} (h : c.ok) {l : List NE} (hr : roomL c.most c.l = some l) : ({ c with l := l } : Ca).ok ∧ (l.length : Int) < c.most ∧ ∀ e ∈ l, e ∈ c.l := by
 obtain ⟨h1, h2⟩ := roomL_some hr h.len h.most.1
 rcases h2 with rfl | ⟨e, he, rfl⟩
 ·exact ⟨h.sub h.srt h.all h.len, h1, fun e he => he⟩
 ·exact ⟨h.del e.ip, h1, fun e he => (delK_mem he).1⟩
theorem Ca.ok.put {c : Ca} (h : c.ok) {e : NE} (he : e.ok) (hl : (c.l.length : Int) < c.most) (hn : ∀ x ∈ c.l, x.ip ≠ e.ip) : ({ c with l := putL' e c.l } : Ca).ok :=
 h.sub (putL_srt h.srt hn) (fun x hx => by rcases putL_mem hx with rfl | hx; exact he; exact h.all x hx) (by rw [putL_len]; omega)
theorem Ca.ok.upd {c : Ca} (h : c.ok) {e : NE} (he : e.ok) : ({ c with l := updK keyE e.ip e c.l } : Ca).ok :=
 h.sub (updK_srt h.srt rfl) (fun x hx => by rcases updK_mem hx with rfl | hx; exact he; exact h.all x hx) (by unfold updK; rw [List.length_map]; exact h.len)
theorem mac0_ok : mac0.ok := by unfold M6.ok mac0; decide
theorem newE_ok {c : Ca} (h : c.ok) {src ip : Int} {pk : List UInt8} (hs : 0 ≤ src ∧ src < 4294967296) (hi : 0 ≤ ip ∧ ip < 4294967296) (hp : pk.length ≤ 1099511627776) : (NE.mk ip mac0 (behindC c 10) 1 src pk).ok :=
 ⟨hi, mac0_ok, behind_rng h (by omega), by dsimp only; omega, hs, fun e => by simp at e, fun _ => rfl, hp⟩
theorem knownE_ok {c : Ca} (h : c.ok) {ip : Int} {mac : M6} (hm : mac.ok) (hi : 0 ≤ ip ∧ ip < 4294967296) : (NE.mk ip mac (behindC c 600) 0 0 []).ok :=
 ⟨hi, hm, behind_rng h (by omega), by dsimp only; omega, by dsimp only; omega, fun _ => ⟨rfl, rfl⟩, fun e => absurd rfl e, by simp⟩
theorem newC_ok {c : Ca} (h : c.ok) {src ip : Int} {pk : List UInt8} (hs : 0 ≤ src ∧ src < 4294967296) (hi : 0 ≤ ip ∧ ip < 4294967296) (hp : pk.length ≤ 1099511627776) : (newC c src ip pk).2.ok := by
 unfold newC
 have h1 := h.del ip
 cases hr : roomL c.most (delK keyE ip c.l) with
 | none => exact h1
 | some l =>
  obtain ⟨h2, h3, h4⟩ := h1.room (l := l) hr
  exact h2.put (newE_ok h hs hi hp) h3 (fun x hx => (delK_mem (h4 x hx)).2)
theorem askC_ok {c : Ca} (h : c.ok) {src ip : Int} {pk : List UInt8} (hs : 0 ≤ src ∧ src < 4294967296) (hi : 0 ≤ ip ∧ ip < 4294967296) (hp : pk.length ≤ 1099511627776) : (askC c src ip pk).2.ok := by
 unfold askC
 cases hf : findK keyE ip c.l with
 | none => exact newC_ok h hs hi hp
 | some e =>
  obtain ⟨h1, h2⟩ := findK_some hf
  have he := h.all e h1
  simp only []
  split
  ·rename_i ht
   have h2 : e.ip = ip := h2
   subst h2
   exact h.upd (e := { e with src := src, pk := pk }) ⟨he.ip, he.mac, he.til, he.tries, hs, fun q => absurd q ht, he.asked, hp⟩
  ·split
   ·exact h
   ·exact newC_ok h hs hi hp
theorem learnC_ok {c : Ca} (h : c.ok) {ip : Int} {mac : M6} {asks : Bool} (hm : mac.ok) (hi : 0 ≤ ip ∧ ip < 4294967296) : (learnC c ip mac asks).2.ok := by
 unfold learnC
 cases hf : findK keyE ip c.l with
 | some e => exact h.upd (knownE_ok h hm hi)
 | none =>
  simp only []
  split
  ·cases hr : roomL c.most c.l with
   | none => exact h
   | some l =>
    obtain ⟨h2, h3, h4⟩ := h.room hr
    exact h2.put (knownE_ok h hm hi) h3 (fun x hx => findK_none hf x (h4 x hx))
  ·exact h
theorem onC_ok {c : Ca} (h : c.ok) {op si di own : Int} {s : M6} (hm : s.ok) (hi : 0 ≤ si ∧ si < 4294967296) : (onC c op s si di own).2.ok := by
 unfold onC
 split
 ·exact h
 ·simp only []
  split
  ·exact learnC_ok h hm hi
  ·exact h
theorem tickL_mem {c : Ca} : ∀ {l : List NE} {x : NE}, x ∈ (tickL c l).1 → (x ∈ l) ∨ ∃ e ∈ l, x = tickE c e ∧ e.tries ≠ 0 ∧ e.tries < 3 := by
 intro l
 induction l with
 | nil => intro x h; cases h
 | cons e l ih =>
  intro x h
  rw [tickL] at h
  have up : (x ∈ l ∨ ∃ e ∈ l, x = tickE c e ∧ e.tries ≠ 0 ∧ e.tries < 3) → (x ∈ e :: l ∨ ∃ e' ∈ e :: l, x = tickE c e' ∧ e'.tries ≠ 0 ∧ e'.tries < 3) := by
   rintro (q | ⟨e', he, q⟩)
   ·exact .inl (List.mem_cons_of_mem _ q)
   ·exact .inr ⟨e', List.mem_cons_of_mem _ he, q⟩
  split at h
  ·rcases List.mem_cons.1 h with rfl | h
   ·exact .inl List.mem_cons_self
   ·exact up (ih h)
  ·split at h
   ·exact up (ih h)
   ·rename_i h1 h2
    rcases List.mem_cons.1 h with rfl | h
    ·exact .inr ⟨e, List.mem_cons_self, rfl, by omega, by omega⟩
    ·exact up (ih h)
theorem tickL_ips {c : Ca} : ∀ {l : List NE}, ((tickL c l).1.map NE.ip).Sublist (l.map NE.ip) := by
 intro l
 induction l with
 | nil => exact List.Sublist.refl _
 | cons e l ih =>
  rw [tickL]
  split
  ·exact ih.cons_cons _
  ·split
   ·exact ih.cons _
   ·exact ih.cons_cons _
theorem tickL_srt {c : Ca} {l : List NE} (h : l.Pairwise fun a b => a.ip < b.ip) : (tickL c l).1.Pairwise fun a b => a.ip < b.ip := by
 have h1 : (l.map NE.ip).Pairwise fun a b => a < b := List.pairwise_map.2 h
 exact List.pairwise_map.1 (h1.sublist tickL_ips)
theorem tickE_ok {c : Ca} (h : c.ok) {e : NE} (he : e.ok) (h1 : e.tries ≠ 0) (h2 : e.tries < 3) : (tickE c e).ok :=
 ⟨he.ip, he.mac, behind_rng h (by omega), by have := he.tries; simp only [tickE]; omega, he.src, fun q => by have := he.tries; simp only [tickE] at q; omega, fun _ => he.asked h1, he.pk⟩
theorem tickC_ok {c : Ca} (h : c.ok) : (tickC c).2.ok := by
 refine h.sub (tickL_srt h.srt) ?_ ?_
 ·intro x hx
  rcases tickL_mem hx with hx | ⟨e, he, rfl, h1, h2⟩
  ·exact h.all x hx
  ·exact tickE_ok h (h.all e he) h1 h2
 ·have := (tickL_ips (c := c) (l := c.l)).length_le
  simp only [List.length_map] at this
  have := h.len
  omega
theorem tickL_app {c : Ca} : ∀ {l m : List NE}, tickL c (l ++ m) = ((tickL c l).1 ++ (tickL c m).1, (tickL c l).2 ++ (tickL c m).2) := by
 intro l m
 induction l with
 | nil => rfl
 | cons e l ih =>
  simp only [List.cons_append, tickL, ih]
  split
  ·rfl
  ·split <;> rfl
theorem tickL_len {c : Ca} : ∀ {l : List NE}, (tickL c l).2.length ≤ l.length := by
 intro l
 induction l with
 | nil => exact Nat.le_refl _
 | cons e l ih =>
  rw [tickL]
  split
  ·exact Nat.le_succ_of_le ih
  ·split
   ·exact Nat.le_succ_of_le ih
   ·exact Nat.succ_le_succ ih
def sndC (x : Snd × Sl) : List Value := [.int .u8 x.1.dst.a, .int .u8 x.1.dst.b, .int .u8 x.1.dst.c, .int .u8 x.1.dst.d, .int .u8 x.1.dst.e, .int .u8 x.1.dst.f, .int .i64 x.1.kind, x.2.v]
def sndsA (s : Sl) (o : List Snd) : Asn := exs fun X : List (Snd × Sl) => star [Hw.own 59 8 s (X.flatMap sndC), star (X.map fun x => Hw.own 5 1 x.2 (bc x.1.data)), pur (X.map Prod.fst = o)]
theorem snd_a : Try.prog.cellsOf 59 = 8 := by kernel_rfl
theorem snd_z : (zc Try.prog 59).length = 8 := by kernel_rfl
theorem snd_b : Try.prog.bytesOf 59 ≤ 64 := by rw [show Try.prog.bytesOf 59 = 40 by kernel_rfl]; omega
theorem sndC_plain {x : Snd × Sl} : ∀ v ∈ sndC x, plain v = true := by
 intro v hv
 simp only [sndC, List.mem_cons, List.not_mem_nil, or_false] at hv
 rcases hv with rfl | rfl | rfl | rfl | rfl | rfl | rfl | rfl <;> rfl
theorem sndC_len (X : List (Snd × Sl)) : (X.flatMap sndC).length = X.length * 8 := by
 induction X with
 | nil => rfl
 | cons x l ih => show (sndC x ++ l.flatMap sndC).length = _; rw [List.length_append, ih]; simp [sndC]; omega
section
variable {L M : List Asn} {h : Hp} {s : Sl} {o : List Snd}
theorem snds_open (hs : Sat (L ++ [sndsA s o]) h) : ∃ X : List (Snd × Sl), Sat (L ++ [Hw.own 59 8 s (X.flatMap sndC), star (X.map fun x => Hw.own 5 1 x.2 (bc x.1.data))]) h ∧ X.map Prod.fst = o := by
 obtain ⟨X, hs⟩ := hs.exOut
 have hs : Sat (L ++ [star [Hw.own 59 8 s (X.flatMap sndC), star (X.map fun x => Hw.own 5 1 x.2 (bc x.1.data)), pur (X.map Prod.fst = o)]]) h := hs
 have hs := hs.open
 exact ⟨X, hs.sel [0, 1] (by decide) rfl, hs.pur 2 rfl⟩
theorem snds_shut {X : List (Snd × Sl)} (hs : Sat (L ++ [Hw.own 59 8 s (X.flatMap sndC), star (X.map fun x => Hw.own 5 1 x.2 (bc x.1.data))]) h) (hX : X.map Prod.fst = o) : Sat (L ++ [sndsA s o]) h := by
 have h1 : Sat (L ++ [Hw.own 59 8 s (X.flatMap sndC), star (X.map fun x => Hw.own 5 1 x.2 (bc x.1.data)), pur (X.map Prod.fst = o)]) h := hs.andPur hX
 have h2 := h1.close
 unfold sndsA
 exact h2.exIn X
theorem snds_n (hs : Sat (L ++ [sndsA s o]) h) : s.n = o.length := by
 obtain ⟨X, g, hX⟩ := snds_open hs
 have := (g.own 0 rfl).1
 rw [sndC_len] at this
 rw [← hX, List.length_map]; omega
theorem snds_nil (hs : Sat (L ++ M) h) : Sat (L ++ (M ++ [sndsA ⟨none, 0, 0⟩ []])) h := by
 have h1 : Sat ((L ++ M) ++ []) h := by rw [List.append_nil]; exact hs
 have h2 := h1.addNil 59 8
 have h3 : Sat (((L ++ M) ++ [Hw.own 59 8 ⟨none, 0, 0⟩ []]) ++ []) h := by rw [List.append_nil]; exact h2
 have h4 := h3.close
 exact Sat.asc (snds_shut (X := []) (by simpa using h4) rfl)
theorem snds_push {x : Snd} {d : Sl} {F : Sl → Hp → Prop} (hs : Sat (L ++ [sndsA s o, Hw.own 5 1 d (bc x.data)]) h) (ho : o.length ≤ 1000000)
  (hF : ∀ s' h', Sat (L ++ [sndsA s' (o ++ [x])]) h' → F s' h') : nw h (.cells ⟨sndC (x, d)⟩ 59) fun b h0 => apK Try.prog 59 s (.slice (some (bk b)) 1 1) h0 F := by
 have g1 : Sat ((L ++ [Hw.own 5 1 d (bc x.data)]) ++ [sndsA s o]) h := hs.part [1, 0] (by decide) rfl
 obtain ⟨X, g2, hX⟩ := snds_open g1
 have hn : s.n = o.length := snds_n g1
 refine g2.push 0 rfl (k := 1) (ns := sndC (x, d)) snd_a snd_z rfl sndC_plain ?_ ?_
 ·have := snd_b
  have : (s.n + 1) * 2 * Try.prog.bytesOf 59 ≤ (s.n + 1) * 2 * 64 := Nat.mul_le_mul_left _ snd_b
  omega
 ·intro s' h' g3 _
  have g4 : Sat ((L ++ [Hw.own 59 8 s' (X.flatMap sndC ++ sndC (x, d))]) ++ [star (X.map fun x => Hw.own 5 1 x.2 (bc x.1.data)), Hw.own 5 1 d (bc x.data)]) h' := (Sat.asc g3).part [1, 2, 0] (by decide) rfl
  have g5 := g4.into
  have e1 : (X.map fun x => Hw.own 5 1 x.2 (bc x.1.data)) ++ [Hw.own 5 1 d (bc x.data)] = (X ++ [(x, d)]).map fun x => Hw.own 5 1 x.2 (bc x.1.data) := by simp
  have e2 : X.flatMap sndC ++ sndC (x, d) = (X ++ [(x, d)]).flatMap sndC := by simp
  rw [e1, e2] at g5
  exact hF s' h' (snds_shut (X := X ++ [(x, d)]) (Sat.asc g5) (by rw [List.map_append, hX]; rfl))
theorem snds_one {x : Snd} {d : Sl} {F : Nat → Hp → Prop} (hs : Sat (L ++ [Hw.own 5 1 d (bc x.data)]) h) (hF : ∀ b h', Sat (L ++ [sndsA ⟨some (bk b), 1, 1⟩ [x]]) h' → F b h') : nw h (.cells ⟨sndC (x, d)⟩ 59) F := by
 intro b hb
 have g1 := hs.addOwn (T := 59) (sz := 8) (s := ⟨some (bk b), 1, 1⟩) (vs := sndC (x, d)) (Ext.new (o := .cells ⟨sndC (x, d)⟩ 59 (0, 0)) hb) ⟨rfl, Nat.le_refl _, rfl, sndC (x, d), upd_same, rfl, rfl⟩ (by
  intro b' hb'
  simp only [Option.some.injEq] at hb'
  have : b = b' := congrArg Addr.block hb'
  subst this; exact hb)
 have g2 : Sat ((L ++ [Hw.own 59 8 ⟨some (bk b), 1, 1⟩ (sndC (x, d))]) ++ [Hw.own 5 1 d (bc x.data)]) _ := g1.part [1, 0] (by decide) rfl
 have g3 := g2.close
 exact hF b _ (snds_shut (X := [(x, d)]) (by simpa using Sat.asc g3) rfl)
end
end Go.Proofs.Ytkfccpabigikkaa
