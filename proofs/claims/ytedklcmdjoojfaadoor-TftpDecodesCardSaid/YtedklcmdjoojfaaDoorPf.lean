/- Texts of a walk over heaps, printed by program and by hand: lemmas for the law that is proved in this claim. No condition. -/
import Derived.Test.YtedklcmdjoojfaaDoorPd
import Derived.Test.YtedklcmdjoojfaaDoorPe
set_option linter.unusedVariables false
set_option maxRecDepth 100000
namespace Go.Proofs.YtedklcmdjoojfaaDoor
open Go Go.Hw
/-! ### 47 slipway/slipwayref17.known -/
noncomputable def B47 : Code := match Tryd.f47.body with | some c => c | none => .skip
def N47 (x0 : ByteArray) (h : Hp) (K : Bool → Hp → Prop) : Prop :=
  bif (x0.toList == (⟨⟨[98, 108, 107, 115, 105, 122, 101]⟩⟩ : ByteArray).toList) then
    K true h
  else
    bif (x0.toList == (⟨⟨[119, 105, 110, 100, 111, 119, 115, 105, 122, 101]⟩⟩ : ByteArray).toList) then
      K true h
    else
      K (x0.toList == (⟨⟨[116, 115, 105, 122, 101]⟩⟩ : ByteArray).toList) h
theorem S47 {x0 : ByteArray} {h : Hp} {K : Bool → Hp → Prop} (hn : N47 x0 h K) : C47 x0 h K := by
  refine calls_of_D Tryd.func47 (c := B47) rfl (by kernel_rfl) ?_
  refine den_sound hE hm _ .leaf _ _ _ (annOk_leaf) ?_
  refine cast ?_ hn
  kernel_rfl
end Go.Proofs.YtedklcmdjoojfaaDoor

set_option linter.unusedVariables false
set_option maxRecDepth 100000
namespace Go.Proofs.YtedklcmdjoojfaaDoor
open Go Go.Hw
/-! ### 43 slipway/tftp.first -/
noncomputable def B43 : Code := match Tryd.f43.body with | some c => c | none => .skip
def N43_l0_b (x0_l : Sl) (x1_at : Int) (x9 : Sl) (x10 : Int) (Φ : Int → Hp → Prop) (x11 : Int) (h : Hp) (K_e0 : Hp → Prop) (K_ret : Bool → Hp → Prop) : Prop :=
  bif (decide (x11 < x10)) then
    idx x11 x9.n <|
    nn x9.p fun a0 =>
    xS (cell h (a0.add (x11.toNat * 2))) fun s0 =>
    xI .i64 (cell h ((a0.add (x11.toNat * 2)).add 1)) fun n0 =>
    nw h (.cells ⟨[.string (⟨⟨[]⟩⟩ : ByteArray), .int .i64 0]⟩ 56) fun b0 h0 =>
    st h0 (bk b0) (.string s0) fun h1 =>
    st h1 ((bk b0).add 1) (.int .i64 n0) fun h2 =>
    xS (cell h2 (bk b0)) fun s1 =>
    idx x1_at x0_l.n <|
    nn x0_l.p fun a1 =>
    xS (cell h2 (a1.add (x1_at.toNat * 2))) fun s2 =>
    bif (s1.toList == s2.toList) then
      K_ret false h2
    else
      Φ (IntKind.wrap .i64 (x11 + 1)) h2
  else
    K_e0 h
def N43_l0_B (x0_l : Sl) (x1_at : Int) (x9 : Sl) (x10 : Int) (K_e0 : Hp → Prop) (K_ret : Bool → Hp → Prop) (s : Sg.T [(11, .c (.int .i64))]) (h : Hp) (Φ : Sg.T [(11, .c (.int .i64))] → Hp → Prop) : Prop :=
  N43_l0_b x0_l x1_at x9 x10 (fun x11 h => Φ x11 h) s h K_e0 K_ret
def N43_l0 (x0_l : Sl) (x1_at : Int) (x9 : Sl) (x10 : Int) (x11 : Int) (h : Hp) (K_e0 : Hp → Prop) (K_ret : Bool → Hp → Prop) : Prop :=
  loopP (N43_l0_B x0_l x1_at x9 x10 K_e0 K_ret) x11 h
noncomputable def N43_l0_t : Xf := loopT [(0, .c (.slice)), (1, .c (.int .i64)), (9, .c (.slice)), (10, .c (.int .i64))] [(11, .c (.int .i64))] (codeAt B43 [1, 0, 1, 0, 0]) fun F Q => N43_l0_B F.1 F.2.1 F.2.2.1 F.2.2.2 (fun h' => Q (.exit 0) (Sg.env [] ()) h') (fun o0 h' => Q .ret (Sg.env [(4, .c (.bool))] o0) h')
theorem N43_l0_ok : Sound Tryd.prog Tryd.f43.ntmps N43_l0_t (codeAt B43 [1, 0, 1, 0]) := by
  refine loop_sound (fun e => match e with | .exit 0 => [] | .ret => [4] | _ => []) (by kernel_rfl) ?_
  intro F Q s h Φ hb
  refine den_sound hE hm _ (.two .leaf (.two .leaf (.two (.one (.two .leaf (.two (.ord [0, 1, 2, 3, 4, 5, 6, 7]) .leaf))) .leaf))) _ _ _ (⟨annOk_leaf, ⟨annOk_leaf, ⟨⟨annOk_leaf, ⟨trivial, annOk_leaf⟩⟩, annOk_leaf⟩⟩⟩) ?_
  refine cast ?_ hb
  kernel_rfl
def N43 (x0 : Sl) (x1 : Int) (h : Hp) (K : Bool → Hp → Prop) : Prop :=
  bd x1 x0.c fun k0 =>
  N43_l0 x0 x1 ⟨sadr x0.p x0.c 0 2, k0, x0.c⟩ ((k0 : Nat) : Int) 0 h
    (fun h0 =>
      K true h0)
    (fun b0 h1 =>
      K b0 h1)
theorem S43 {x0 : Sl} {x1 : Int} {h : Hp} {K : Bool → Hp → Prop} (hn : N43 x0 x1 h K) : C43 x0 x1 h K := by
  refine calls_of_D Tryd.func43 (c := B43) rfl (by kernel_rfl) ?_
  refine den_sound hE hm _ (.two .leaf (.two (.two .leaf (.one (.xf N43_l0_t))) .leaf)) _ _ _ (⟨annOk_leaf, ⟨⟨annOk_leaf, N43_l0_ok⟩, annOk_leaf⟩⟩) ?_
  refine cast ?_ hn
  kernel_rfl
end Go.Proofs.YtedklcmdjoojfaaDoor

set_option linter.unusedVariables false
set_option maxRecDepth 100000
namespace Go.Proofs.YtedklcmdjoojfaaDoor
open Go Go.Hw
/-! ### 45 slipway/slipwayref17.twice -/
noncomputable def B45 : Code := match Tryd.f45.body with | some c => c | none => .skip
def N45_l0_b (x0_l : Sl) (x1_at : Int) (Φ : Int → Hp → Prop) (x5_i : Int) (h : Hp) (K_e0 : Hp → Prop) (K_ret : Bool → Hp → Prop) : Prop :=
  bif (decide (x5_i < x1_at)) then
    idx x5_i x0_l.n <|
    nn x0_l.p fun a0 =>
    xS (cell h (a0.add (x5_i.toNat * 2))) fun s0 =>
    idx x1_at x0_l.n <|
    nn x0_l.p fun a1 =>
    xS (cell h (a1.add (x1_at.toNat * 2))) fun s1 =>
    bif (s0.toList == s1.toList) then
      K_ret true h
    else
      Φ (IntKind.wrap .i64 (x5_i + 1)) h
  else
    K_e0 h
def N45_l0_B (x0_l : Sl) (x1_at : Int) (K_e0 : Hp → Prop) (K_ret : Bool → Hp → Prop) (s : Sg.T [(5, .c (.int .i64))]) (h : Hp) (Φ : Sg.T [(5, .c (.int .i64))] → Hp → Prop) : Prop :=
  N45_l0_b x0_l x1_at (fun x5_i h => Φ x5_i h) s h K_e0 K_ret
def N45_l0 (x0_l : Sl) (x1_at : Int) (x5_i : Int) (h : Hp) (K_e0 : Hp → Prop) (K_ret : Bool → Hp → Prop) : Prop :=
  loopP (N45_l0_B x0_l x1_at K_e0 K_ret) x5_i h
noncomputable def N45_l0_t : Xf := loopT [(0, .c (.slice)), (1, .c (.int .i64))] [(5, .c (.int .i64))] (codeAt B45 [1, 0, 1, 0, 0]) fun F Q => N45_l0_B F.1 F.2 (fun h' => Q (.exit 0) (Sg.env [] ()) h') (fun o0 h' => Q .ret (Sg.env [(4, .c (.bool))] o0) h')
theorem N45_l0_ok : Sound Tryd.prog Tryd.f45.ntmps N45_l0_t (codeAt B45 [1, 0, 1, 0]) := by
  refine loop_sound (fun e => match e with | .exit 0 => [] | .ret => [4] | _ => []) (by kernel_rfl) ?_
  intro F Q s h Φ hb
  refine den_sound hE hm _ (.two .leaf (.two (.one (.two (.ord [0, 1, 2, 3, 4, 5, 6, 7, 8, 9, 10]) .leaf)) .leaf)) _ _ _ (⟨annOk_leaf, ⟨⟨trivial, annOk_leaf⟩, annOk_leaf⟩⟩) ?_
  refine cast ?_ hb
  kernel_rfl
def N45 (x0 : Sl) (x1 : Int) (h : Hp) (K : Bool → Hp → Prop) : Prop :=
  N45_l0 x0 x1 0 h
    (fun h0 =>
      K false h0)
    (fun b0 h1 =>
      K b0 h1)
theorem S45 {x0 : Sl} {x1 : Int} {h : Hp} {K : Bool → Hp → Prop} (hn : N45 x0 x1 h K) : C45 x0 x1 h K := by
  refine calls_of_D Tryd.func45 (c := B45) rfl (by kernel_rfl) ?_
  refine den_sound hE hm _ (.two .leaf (.two (.two .leaf (.one (.xf N45_l0_t))) .leaf)) _ _ _ (⟨annOk_leaf, ⟨⟨annOk_leaf, N45_l0_ok⟩, annOk_leaf⟩⟩) ?_
  refine cast ?_ hn
  kernel_rfl
end Go.Proofs.YtedklcmdjoojfaaDoor

set_option linter.unusedVariables false
set_option maxRecDepth 100000
namespace Go.Proofs.YtedklcmdjoojfaaDoor
open Go Go.Hw
/-! ### 49 slipway/tftp.right -/
noncomputable def B49 : Code := match Tryd.f49.body with | some c => c | none => .skip
def N49_l0_b (x0_l : Sl) (x5 : Sl) (x6 : Int) (Φ : Int → Hp → Prop) (x7 : Int) (h : Hp) (K_e0 : Hp → Prop) (K_ret : Bool → Hp → Prop) : Prop :=
  bif (decide (x7 < x6)) then
    idx x7 x5.n <|
    nn x5.p fun a0 =>
    xS (cell h (a0.add (x7.toNat * 2))) fun s0 =>
    xI .i64 (cell h ((a0.add (x7.toNat * 2)).add 1)) fun n0 =>
    nw h (.cells ⟨[.string (⟨⟨[]⟩⟩ : ByteArray), .int .i64 0]⟩ 56) fun b0 h0 =>
    st h0 (bk b0) (.string s0) fun h1 =>
    st h1 ((bk b0).add 1) (.int .i64 n0) fun h2 =>
    xS (cell h2 (bk b0)) fun s1 =>
    C44 s1 h2 fun b1 h3 =>
    bif (!b1) then
      K_ret false h3
    else
      C43 x0_l x7 h3 fun b2 h4 =>
      bif (!b2) then
        K_ret false h4
      else
        xI .i64 (cell h4 ((bk b0).add 1)) fun n1 =>
        bif (decide (n1 < 0)) then
          K_ret false h4
        else
          xI .i64 (cell h4 ((bk b0).add 1)) fun n2 =>
          bif (decide (n2 > 2147483647)) then
            K_ret false h4
          else
            Φ (IntKind.wrap .i64 (x7 + 1)) h4
  else
    K_e0 h
def N49_l0_B (x0_l : Sl) (x5 : Sl) (x6 : Int) (K_e0 : Hp → Prop) (K_ret : Bool → Hp → Prop) (s : Sg.T [(7, .c (.int .i64))]) (h : Hp) (Φ : Sg.T [(7, .c (.int .i64))] → Hp → Prop) : Prop :=
  N49_l0_b x0_l x5 x6 (fun x7 h => Φ x7 h) s h K_e0 K_ret
def N49_l0 (x0_l : Sl) (x5 : Sl) (x6 : Int) (x7 : Int) (h : Hp) (K_e0 : Hp → Prop) (K_ret : Bool → Hp → Prop) : Prop :=
  loopP (N49_l0_B x0_l x5 x6 K_e0 K_ret) x7 h
noncomputable def N49_l0_t : Xf := loopT [(0, .c (.slice)), (5, .c (.slice)), (6, .c (.int .i64))] [(7, .c (.int .i64))] (codeAt B49 [1, 0, 1, 0, 0]) fun F Q => N49_l0_B F.1 F.2.1 F.2.2 (fun h' => Q (.exit 0) (Sg.env [] ()) h') (fun o0 h' => Q .ret (Sg.env [(2, .c (.bool))] o0) h')
theorem N49_l0_ok : Sound Tryd.prog Tryd.f49.ntmps N49_l0_t (codeAt B49 [1, 0, 1, 0]) := by
  refine loop_sound (fun e => match e with | .exit 0 => [] | .ret => [2] | _ => []) (by kernel_rfl) ?_
  intro F Q s h Φ hb
  refine den_sound hE hm _ .leaf _ _ _ (annOk_leaf) ?_
  refine cast ?_ hb
  kernel_rfl
def N49 (x0 : Sl) (h : Hp) (K : Bool → Hp → Prop) : Prop :=
  N49_l0 x0 x0 ((x0.n : Nat) : Int) 0 h
    (fun h0 =>
      K true h0)
    (fun b0 h1 =>
      K b0 h1)
theorem S49 {x0 : Sl} {h : Hp} {K : Bool → Hp → Prop} (hn : N49 x0 h K) : C49 x0 h K := by
  refine calls_of_D Tryd.func49 (c := B49) rfl (by kernel_rfl) ?_
  refine den_sound hE hm _ (.two .leaf (.two (.two .leaf (.one (.xf N49_l0_t))) .leaf)) _ _ _ (⟨annOk_leaf, ⟨⟨annOk_leaf, N49_l0_ok⟩, annOk_leaf⟩⟩) ?_
  refine cast ?_ hn
  kernel_rfl
end Go.Proofs.YtedklcmdjoojfaaDoor

set_option linter.unusedVariables false
set_option maxRecDepth 100000
namespace Go.Proofs.YtedklcmdjoojfaaDoor
open Go Go.Hw
/-! ### 54 slipway/slipwayref17.choices -/
noncomputable def B54 : Code := match Tryd.f54.body with | some c => c | none => .skip
def N54_l0_b (x0_l : Sl) (Φ : Int → Hp → Prop) (x3_i : Int) (h : Hp) (K_e0 : Hp → Prop) (K_ret : Bool → Hp → Prop) : Prop :=
  bif (decide (x3_i < ((x0_l.n : Nat) : Int))) then
    idx x3_i x0_l.n <|
    nn x0_l.p fun a0 =>
    xS (cell h (a0.add (x3_i.toNat * 2))) fun s0 =>
    C47 s0 h fun b0 h0 =>
    C45 x0_l x3_i h0 fun b1 h1 =>
    bif (!b0) then
      K_ret false h1
    else
      bif b1 then
        K_ret false h1
      else
        idx x3_i x0_l.n <|
        nn x0_l.p fun a1 =>
        xI .i64 (cell h1 ((a1.add (x3_i.toNat * 2)).add 1)) fun n0 =>
        bif (decide (n0 < 0)) then
          K_ret false h1
        else
          idx x3_i x0_l.n <|
          nn x0_l.p fun a2 =>
          xI .i64 (cell h1 ((a2.add (x3_i.toNat * 2)).add 1)) fun n1 =>
          bif (decide (n1 > 2147483647)) then
            K_ret false h1
          else
            Φ (IntKind.wrap .i64 (x3_i + 1)) h1
  else
    K_e0 h
def N54_l0_B (x0_l : Sl) (K_e0 : Hp → Prop) (K_ret : Bool → Hp → Prop) (s : Sg.T [(3, .c (.int .i64))]) (h : Hp) (Φ : Sg.T [(3, .c (.int .i64))] → Hp → Prop) : Prop :=
  N54_l0_b x0_l (fun x3_i h => Φ x3_i h) s h K_e0 K_ret
def N54_l0 (x0_l : Sl) (x3_i : Int) (h : Hp) (K_e0 : Hp → Prop) (K_ret : Bool → Hp → Prop) : Prop :=
  loopP (N54_l0_B x0_l K_e0 K_ret) x3_i h
noncomputable def N54_l0_t : Xf := loopT [(0, .c (.slice))] [(3, .c (.int .i64))] (codeAt B54 [1, 0, 1, 0, 0]) fun F Q => N54_l0_B F (fun h' => Q (.exit 0) (Sg.env [] ()) h') (fun o0 h' => Q .ret (Sg.env [(2, .c (.bool))] o0) h')
theorem N54_l0_ok : Sound Tryd.prog Tryd.f54.ntmps N54_l0_t (codeAt B54 [1, 0, 1, 0]) := by
  refine loop_sound (fun e => match e with | .exit 0 => [] | .ret => [2] | _ => []) (by kernel_rfl) ?_
  intro F Q s h Φ hb
  refine den_sound hE hm _ .leaf _ _ _ (annOk_leaf) ?_
  refine cast ?_ hb
  kernel_rfl
def N54 (x0 : Sl) (h : Hp) (K : Bool → Hp → Prop) : Prop :=
  N54_l0 x0 0 h
    (fun h0 =>
      K true h0)
    (fun b0 h1 =>
      K b0 h1)
theorem S54 {x0 : Sl} {h : Hp} {K : Bool → Hp → Prop} (hn : N54 x0 h K) : C54 x0 h K := by
  refine calls_of_D Tryd.func54 (c := B54) rfl (by kernel_rfl) ?_
  refine den_sound hE hm _ (.two .leaf (.two (.two .leaf (.one (.xf N54_l0_t))) .leaf)) _ _ _ (⟨annOk_leaf, ⟨⟨annOk_leaf, N54_l0_ok⟩, annOk_leaf⟩⟩) ?_
  refine cast ?_ hn
  kernel_rfl
end Go.Proofs.YtedklcmdjoojfaaDoor

set_option linter.unusedVariables false
set_option maxRecDepth 100000
namespace Go.Proofs.YtedklcmdjoojfaaDoor
open Go Go.Hw
/-! ### 53 slipway/slipwayref17.hasZero -/
noncomputable def B53 : Code := match Tryd.f53.body with | some c => c | none => .skip
def N53_l0_b (x0_s : ByteArray) (Φ : Int → Hp → Prop) (x3_i : Int) (h : Hp) (K_e0 : Hp → Prop) (K_ret : Bool → Hp → Prop) : Prop :=
  bif (decide (x3_i < (x0_s.size : Int))) then
    idx x3_i x0_s.size <|
    bif ((sbyte x0_s x3_i) == 0) then
      K_ret true h
    else
      Φ (IntKind.wrap .i64 (x3_i + 1)) h
  else
    K_e0 h
def N53_l0_B (x0_s : ByteArray) (K_e0 : Hp → Prop) (K_ret : Bool → Hp → Prop) (s : Sg.T [(3, .c (.int .i64))]) (h : Hp) (Φ : Sg.T [(3, .c (.int .i64))] → Hp → Prop) : Prop :=
  N53_l0_b x0_s (fun x3_i h => Φ x3_i h) s h K_e0 K_ret
def N53_l0 (x0_s : ByteArray) (x3_i : Int) (h : Hp) (K_e0 : Hp → Prop) (K_ret : Bool → Hp → Prop) : Prop :=
  loopP (N53_l0_B x0_s K_e0 K_ret) x3_i h
noncomputable def N53_l0_t : Xf := loopT [(0, .c (.str))] [(3, .c (.int .i64))] (codeAt B53 [1, 0, 1, 0, 0]) fun F Q => N53_l0_B F (fun h' => Q (.exit 0) (Sg.env [] ()) h') (fun o0 h' => Q .ret (Sg.env [(2, .c (.bool))] o0) h')
theorem N53_l0_ok : Sound Tryd.prog Tryd.f53.ntmps N53_l0_t (codeAt B53 [1, 0, 1, 0]) := by
  refine loop_sound (fun e => match e with | .exit 0 => [] | .ret => [2] | _ => []) (by kernel_rfl) ?_
  intro F Q s h Φ hb
  refine den_sound hE hm _ .leaf _ _ _ (annOk_leaf) ?_
  refine cast ?_ hb
  kernel_rfl
def N53 (x0 : ByteArray) (h : Hp) (K : Bool → Hp → Prop) : Prop :=
  N53_l0 x0 0 h
    (fun h0 =>
      K false h0)
    (fun b0 h1 =>
      K b0 h1)
theorem S53 {x0 : ByteArray} {h : Hp} {K : Bool → Hp → Prop} (hn : N53 x0 h K) : C53 x0 h K := by
  refine calls_of_D Tryd.func53 (c := B53) rfl (by kernel_rfl) ?_
  refine den_sound hE hm _ (.two .leaf (.two (.two .leaf (.one (.xf N53_l0_t))) .leaf)) _ _ _ (⟨annOk_leaf, ⟨⟨annOk_leaf, N53_l0_ok⟩, annOk_leaf⟩⟩) ?_
  refine cast ?_ hn
  kernel_rfl
end Go.Proofs.YtedklcmdjoojfaaDoor

set_option linter.unusedVariables false
set_option maxRecDepth 100000
namespace Go.Proofs.YtedklcmdjoojfaaDoor
open Go Go.Hw
/-! ### 50 strings.Contains -/
noncomputable def B50 : Code := match Tryd.f50.body with | some c => c | none => .skip
def N50 (x0 : ByteArray) (x1 : ByteArray) (h : Hp) (K : Bool → Hp → Prop) : Prop :=
  C63 x0 x1 h fun n0 h0 =>
  K (decide (n0 ≥ 0)) h0
theorem S50 {x0 : ByteArray} {x1 : ByteArray} {h : Hp} {K : Bool → Hp → Prop} (hn : N50 x0 x1 h K) : C50 x0 x1 h K := by
  refine calls_of_D Tryd.func50 (c := B50) rfl (by kernel_rfl) ?_
  refine den_sound hE hm _ .leaf _ _ _ (annOk_leaf) ?_
  refine cast ?_ hn
  kernel_rfl
end Go.Proofs.YtedklcmdjoojfaaDoor

/-
  The choices of a packet: how they lie, which are right.
-/
set_option linter.unusedSimpArgs false
set_option linter.unusedVariables false
namespace Go.Proofs.YtedklcmdjoojfaaDoor
open Go Go.Hw

abbrev Opt := ByteArray × Int
def oc (o : Opt) : List Value := [.string o.1, .int .i64 o.2]
theorem oc_get : ∀ (os : List Opt) (i : Nat) (hi : i < os.length), (os.flatMap oc)[i * 2]? = some (.string os[i].1) ∧ (os.flatMap oc)[i * 2 + 1]? = some (.int .i64 os[i].2)
  | o :: os, 0, _ => ⟨rfl, rfl⟩
  | o :: os, i + 1, hi => by
    have := oc_get os i (by simpa using hi)
    rw [show (i + 1) * 2 = i * 2 + 1 + 1 by omega]
    exact this
/-- a slice that reads as these choices -/
structure RdO (h : Hp) (s : Sl) (os : List Opt) : Prop where
  n : s.n = os.length
  c : s.n ≤ s.c
  r : Rdc h s.p (os.flatMap oc)
theorem RdO.ext {h h' : Hp} {s : Sl} {os : List Opt} (H : RdO h s os) (he : Ext none' h h') : RdO h' s os := ⟨H.n, H.c, H.r.ext he⟩
theorem RdO.at {h : Hp} {s : Sl} {os : List Opt} (H : RdO h s os) {x : Int} {i : Nat} (hx : x = i) (hi : i < os.length) {X : Addr → Prop}
    (hX : ∀ a, s.p = some a → cell h (a.add (x.toNat * 2)) = some (.string os[i].1) → cell h ((a.add (x.toNat * 2)).add 1) = some (.int .i64 os[i].2) → X a) : idx x s.n (nn s.p X) := by
  obtain ⟨g1, g2⟩ := oc_get os i hi
  obtain ⟨a, ha, hc⟩ := H.r _ _ g1
  obtain ⟨a', ha', hc'⟩ := H.r _ _ g2
  have : a = a' := Option.some.inj (ha.symm.trans ha')
  subst this
  subst hx
  refine idx_of (by omega) (by rw [H.n]; omega) ?_
  rw [ha]
  show X a
  exact hX a ha (by rw [Int.toNat_natCast]; exact hc) (by rw [Int.toNat_natCast, addadd]; exact hc')
theorem RdO.cells {h : Hp} {s : Sl} {os : List Opt} (H : RdO h s os) {i : Nat} (hi : i < os.length) : ∃ a, s.p = some a ∧ cell h (a.add ((i : Int).toNat * 2)) = some (.string os[i].1) ∧ cell h ((a.add ((i : Int).toNat * 2)).add 1) = some (.int .i64 os[i].2) := by
  obtain ⟨g1, g2⟩ := oc_get os i hi
  obtain ⟨a, ha, hc⟩ := H.r _ _ g1
  obtain ⟨a', ha', hc'⟩ := H.r _ _ g2
  have : a = a' := Option.some.inj (ha.symm.trans ha')
  subst this
  exact ⟨a, ha, by rw [Int.toNat_natCast]; exact hc, by rw [Int.toNat_natCast, addadd]; exact hc'⟩
/-- one choice, copied into a row of its own -/
theorem rng_new {h : Hp} {s0 : ByteArray} {n0 : Int} {F : Nat → Hp → Prop} (hF : ∀ b h', Ext none' h h' → Blk h' b 56 [.string s0, .int .i64 n0] → F b h') :
    nw h (.cells ⟨[.string (⟨⟨[]⟩⟩ : ByteArray), .int .i64 0]⟩ 56) fun b0 h0 => st h0 (bk b0) (.string s0) fun h1 => st h1 ((bk b0).add 1) (.int .i64 n0) (F b0) := by
  intro b0 e0
  have hs : Sat ([] ++ [Hw.was h, row b0 56 [.string (⟨⟨[]⟩⟩ : ByteArray), .int .i64 0]]) _ := Sat.start.new e0 _
  revert hs
  generalize upd h b0 _ = h1
  intro hs
  simp only [add_bk]
  refine hs.st 1 rfl (by simp) rfl ?_
  intro h2 hs
  refine hs.st 1 rfl (by simp) rfl ?_
  intro h3 hs
  exact hF b0 h3 (hs.was 0 rfl) (hs.blk 1 rfl)

def blkS : List UInt8 := [98, 108, 107, 115, 105, 122, 101]
def winS : List UInt8 := [119, 105, 110, 100, 111, 119, 115, 105, 122, 101]
def tsiS : List UInt8 := [116, 115, 105, 122, 101]
def known (s : ByteArray) : Bool := s.data.toList == blkS || (s.data.toList == winS || s.data.toList == tsiS)
theorem ba_list (a b : ByteArray) : (a.toList == b.toList) = (a.data.toList == b.data.toList) := by
  rw [Bool.eq_iff_iff, beq_iff_eq, beq_iff_eq]
  have e : ∀ a : ByteArray, a.toList = a.data.toList := ByteArray.toList_eq
  rw [e, e]
theorem c_known {s : ByteArray} {h : Hp} {K : Bool → Hp → Prop} (hK : K (known s) h) : C44 s h K := by
  apply S44; unfold N44
  simp only [ba_list]
  unfold known blkS winS tsiS at hK
  cases h1 : (s.data.toList == [98, 108, 107, 115, 105, 122, 101]) <;> cases h2 : (s.data.toList == [119, 105, 110, 100, 111, 119, 115, 105, 122, 101]) <;> simp only [h1, h2, Bool.true_or, Bool.false_or, cond_true, cond_false] at hK ⊢ <;> exact hK
theorem c_Known {s : ByteArray} {h : Hp} {K : Bool → Hp → Prop} (hK : K (known s) h) : C47 s h K := by
  apply S47; unfold N47
  simp only [ba_list]
  unfold known blkS winS tsiS at hK
  cases h1 : (s.data.toList == [98, 108, 107, 115, 105, 122, 101]) <;> cases h2 : (s.data.toList == [119, 105, 110, 100, 111, 119, 115, 105, 122, 101]) <;> simp only [h1, h2, Bool.true_or, Bool.false_or, cond_true, cond_false] at hK ⊢ <;> exact hK
def hasZero (s : ByteArray) : Bool := decide ((0 : UInt8) ∈ s.data.toList)
theorem c_HasZero {s : ByteArray} {h : Hp} {K : Bool → Hp → Prop} (hsz : s.size ≤ 9223372036854775806) (hK : K (hasZero s) h) : C53 s h K := by
  apply S53; unfold N53 N53_l0
  obtain ⟨⟨l⟩⟩ := s
  have sz : (⟨⟨l⟩⟩ : ByteArray).size = l.length := rfl
  rw [sz] at hsz
  refine loopP_inv (fun (x : Int) hc => hc = h ∧ ∃ i : Nat, x = i ∧ i ≤ l.length ∧ ∀ b ∈ l.take i, b ≠ 0) (fun x _ => l.length - x.toNat) ?_ ⟨rfl, 0, rfl, Nat.zero_le _, by simp⟩
  rintro x hc ⟨rfl, i, rfl, hi, hz⟩
  unfold N53_l0_B N53_l0_b
  dsimp only
  rw [sz]
  by_cases hlt : i < l.length
  · have : decide ((i : Int) < ((l.length : Nat) : Int)) = true := decide_eq_true (by omega)
    rw [this, cond_true]
    refine idx_of (by omega) (by omega) ?_
    rw [sbyte_at rfl hlt]
    by_cases h0 : l[i] = 0
    · have : ((((l[i]).toNat : Nat) : Int) == 0) = true := by rw [h0]; rfl
      rw [this, cond_true]
      have : hasZero ⟨⟨l⟩⟩ = true := decide_eq_true (by show 0 ∈ l; rw [← h0]; exact List.getElem_mem hlt)
      rw [this] at hK; exact hK
    · have : ((((l[i]).toNat : Nat) : Int) == 0) = false := by
        rw [beq_eq_false_iff_ne]; intro hq; exact h0 (UInt8.toNat_inj.1 (by simp; omega))
      rw [this, cond_false]
      rw [nat_succ64 (by omega)]
      refine ⟨⟨rfl, i + 1, rfl, hlt, ?_⟩, by simp only [Int.toNat_natCast]; omega⟩
      intro b hb
      rw [← List.take_append_getElem hlt] at hb
      rcases List.mem_append.1 hb with hb | hb
      · exact hz b hb
      · simp at hb; rw [hb]; exact h0
  · have : decide ((i : Int) < ((l.length : Nat) : Int)) = false := decide_eq_false (by omega)
    rw [this, cond_false]
    rw [List.take_of_length_le (by omega)] at hz
    have : hasZero ⟨⟨l⟩⟩ = false := decide_eq_false (fun hm => hz 0 hm rfl)
    rw [this] at hK; exact hK
end Go.Proofs.YtedklcmdjoojfaaDoor

set_option linter.unusedVariables false
set_option maxRecDepth 100000
namespace Go.Proofs.YtedklcmdjoojfaaDoor
open Go Go.Hw
/-! ### 48 slipway/tftp.isFile -/
noncomputable def B48 : Code := match Tryd.f48.body with | some c => c | none => .skip
def N48 (x0 : ByteArray) (h : Hp) (K : Bool → Hp → Prop) : Prop :=
  bif (decide ((x0.size : Int) ≥ 1)) then
    bif (decide ((x0.size : Int) ≤ 64)) then
      C50 x0 (⟨⟨[0]⟩⟩ : ByteArray) h fun b0 h0 =>
      K (!b0) h0
    else
      K false h
  else
    K false h
theorem S48 {x0 : ByteArray} {h : Hp} {K : Bool → Hp → Prop} (hn : N48 x0 h K) : C48 x0 h K := by
  refine calls_of_D Tryd.func48 (c := B48) rfl (by kernel_rfl) ?_
  refine den_sound hE hm _ .leaf _ _ _ (annOk_leaf) ?_
  refine cast ?_ hn
  kernel_rfl
end Go.Proofs.YtedklcmdjoojfaaDoor

/-
  Which choices are right; what a packet's texts may be.
-/
set_option linter.unusedSimpArgs false
set_option linter.unusedVariables false
namespace Go.Proofs.YtedklcmdjoojfaaDoor
open Go Go.Hw

theorem c_contains0 {s : ByteArray} {h : Hp} {K : Bool → Hp → Prop} (hK : K (hasZero s) h) : C50 s ⟨⟨[0]⟩⟩ h K := by
  intro w hw
  subst hw
  refine (Tryd.strings_Contains_one s 0 w).mono ?_
  rintro e w' ⟨rfl, rfl⟩
  have eq : decide (0 ≤ Lib.indexByte s.data.toList 0) = hasZero s := by
    unfold hasZero
    rw [decide_eq_decide]
    have hg := Lib.indexByte_ge s.data.toList 0
    constructor
    · intro h0
      obtain ⟨o, ho⟩ := Int.eq_ofNat_of_zero_le h0
      obtain ⟨h1, _⟩ := Lib.indexByte_some ho
      exact List.mem_of_getElem? h1
    · intro hm
      obtain ⟨i, hi, he⟩ := List.getElem_of_mem hm
      by_cases hn : Lib.indexByte s.data.toList 0 = -1
      · exact absurd (by rw [List.getElem?_eq_getElem hi, he]) (Lib.indexByte_none hn i)
      · omega
  rw [eq]
  exact ⟨_, rfl, hK, Kp.refl _⟩
def fileOk (s : ByteArray) : Bool := decide (1 ≤ s.size) && (decide (s.size ≤ 64) && !hasZero s)
theorem c_isFile {s : ByteArray} {h : Hp} {K : Bool → Hp → Prop} (hK : K (fileOk s) h) : C48 s h K := by
  apply S48; unfold N48
  unfold fileOk at hK
  by_cases h1 : 1 ≤ s.size
  · have e1 : decide ((s.size : Int) ≥ 1) = true := decide_eq_true (by omega)
    have e1' : decide (1 ≤ s.size) = true := decide_eq_true h1
    rw [e1, cond_true]
    rw [e1', Bool.true_and] at hK
    by_cases h2 : s.size ≤ 64
    · have e2 : decide ((s.size : Int) ≤ 64) = true := decide_eq_true (by omega)
      have e2' : decide (s.size ≤ 64) = true := decide_eq_true h2
      rw [e2, cond_true]
      rw [e2', Bool.true_and] at hK
      exact c_contains0 hK
    · have e2 : decide ((s.size : Int) ≤ 64) = false := decide_eq_false (by omega)
      have e2' : decide (s.size ≤ 64) = false := decide_eq_false h2
      rw [e2, cond_false]
      rw [e2', Bool.false_and] at hK
      exact hK
  · have e1 : decide ((s.size : Int) ≥ 1) = false := decide_eq_false (by omega)
    have e1' : decide (1 ≤ s.size) = false := decide_eq_false h1
    rw [e1, cond_false]
    rw [e1', Bool.false_and] at hK
    exact hK

/-- no name ahead is this one -/
def freshO (os : List Opt) (nm : ByteArray) : Bool := os.all fun o => !(o.1.data.toList == nm.data.toList)
theorem freshO_snoc (os : List Opt) (o : Opt) (nm : ByteArray) : freshO (os ++ [o]) nm = (freshO os nm && !(o.1.data.toList == nm.data.toList)) := by simp [freshO]
theorem freshO_bad {os : List Opt} {nm : ByteArray} {o : Opt} (ho : o ∈ os) (e : (o.1.data.toList == nm.data.toList) = true) : freshO os nm = false := by
  rw [Bool.eq_false_iff]
  intro h
  have := List.all_eq_true.1 h o ho
  rw [e] at this; cases this
theorem c_first {s : Sl} {os : List Opt} {i : Nat} {x : Int} {h : Hp} {K : Bool → Hp → Prop} (H : RdO h s os) (hl : os.length ≤ 4611686018427387904) (hx : x = i) (hi : i < os.length) (hK : ∀ h', Ext none' h h' → K (freshO (os.take i) (os[i]).1) h') : C43 s x h K := by
  apply S43; unfold N43 N43_l0
  subst hx
  have hn := H.n
  have hc := H.c
  refine bd_nat (by omega) ?_
  rw [sadr_zero]
  refine loopP_inv (fun (x : Int) hc => Ext none' h hc ∧ ∃ j : Nat, x = j ∧ j ≤ i ∧ freshO (os.take j) (os[i]).1 = true) (fun x _ => i - x.toNat) ?_ ⟨Ext.refl, 0, rfl, Nat.zero_le _, rfl⟩
  rintro x hc' ⟨he, j, rfl, hj, hf⟩
  unfold N43_l0_B N43_l0_b
  dsimp only
  have H1 := H.ext he
  by_cases hlt : j < i
  · have : decide ((j : Int) < ((i : Nat) : Int)) = true := decide_eq_true (by omega)
    rw [this, cond_true]
    obtain ⟨a, ha, hs, hi'⟩ := H1.cells (i := j) (by omega)
    refine idx_of (by omega) (by show (j : Int) < ((i : Nat) : Int); omega) ?_
    rw [ha]
    show xS (cell hc' (a.add (((j : Nat) : Int).toNat * 2))) _
    rw [hs, xS_some, hi', xI_some]
    refine rng_new ?_
    intro b h2 e2 hb
    have hb0 : cell h2 (bk b) = some (.string (os[j]).1) := by rw [show (bk b) = (⟨b, 0, none⟩ : Addr) from rfl, hb.cell]; rfl
    rw [hb0, xS_some]
    obtain ⟨a2, ha2, hs2, _⟩ := (H1.ext e2).cells hi
    refine idx_of (by omega) (by omega) ?_
    have ea : a = a2 := Option.some.inj (ha.symm.trans ha2)
    subst ea
    show xS (cell h2 (a.add (((i : Nat) : Int).toNat * 2))) _
    rw [hs2, xS_some, ba_list]
    cases hq : ((os[j]).1.data.toList == (os[i]).1.data.toList) with
    | true =>
      simp only [cond_true]
      have := hK h2 (he.trans e2)
      rw [freshO_bad (o := os[j]) ?_ hq] at this
      · exact this
      · rw [List.mem_iff_getElem]
        exact ⟨j, by simp; omega, by simp⟩
    | false =>
      simp only [cond_false]
      rw [nat_succ64 (by omega)]
      refine ⟨⟨he.trans e2, j + 1, rfl, hlt, ?_⟩, by simp only [Int.toNat_natCast]; omega⟩
      rw [← List.take_append_getElem (by omega : j < os.length), freshO_snoc, hf, hq]; rfl
  · have : decide ((j : Int) < ((i : Nat) : Int)) = false := decide_eq_false (by omega)
    rw [this, cond_false]
    have : j = i := by omega
    subst this
    have := hK hc' he
    rw [hf] at this
    exact this
theorem c_Twice {s : Sl} {os : List Opt} {i : Nat} {x : Int} {h : Hp} {K : Bool → Hp → Prop} (H : RdO h s os) (hl : os.length ≤ 4611686018427387904) (hx : x = i) (hi : i < os.length) (hK : K (!freshO (os.take i) (os[i]).1) h) : C45 s x h K := by
  apply S45; unfold N45 N45_l0
  subst hx
  have hn := H.n
  refine loopP_inv (fun (x : Int) hc => hc = h ∧ ∃ j : Nat, x = j ∧ j ≤ i ∧ freshO (os.take j) (os[i]).1 = true) (fun x _ => i - x.toNat) ?_ ⟨rfl, 0, rfl, Nat.zero_le _, rfl⟩
  rintro x hc' ⟨rfl, j, rfl, hj, hf⟩
  unfold N45_l0_B N45_l0_b
  dsimp only
  by_cases hlt : j < i
  · have : decide ((j : Int) < ((i : Nat) : Int)) = true := decide_eq_true (by omega)
    rw [this, cond_true]
    refine H.at rfl (by omega) ?_
    intro a _ hs _
    rw [hs, xS_some]
    refine H.at rfl hi ?_
    intro a2 _ hs2 _
    rw [hs2, xS_some, ba_list]
    cases hq : ((os[j]).1.data.toList == (os[i]).1.data.toList) with
    | true =>
      simp only [cond_true]
      rw [freshO_bad (o := os[j]) ?_ hq] at hK
      · exact hK
      · rw [List.mem_iff_getElem]
        exact ⟨j, by simp; omega, by simp⟩
    | false =>
      simp only [cond_false]
      rw [nat_succ64 (by omega)]
      refine ⟨⟨trivial, j + 1, rfl, hlt, ?_⟩, by simp only [Int.toNat_natCast]; omega⟩
      rw [← List.take_append_getElem (by omega : j < os.length), freshO_snoc, hf, hq]; rfl
  · have : decide ((j : Int) < ((i : Nat) : Int)) = false := decide_eq_false (by omega)
    rw [this, cond_false]
    have : j = i := by omega
    subst this
    rw [hf] at hK
    exact hK
end Go.Proofs.YtedklcmdjoojfaaDoor

/-
  Right choices, told by both.
-/
set_option linter.unusedSimpArgs false
set_option linter.unusedVariables false
namespace Go.Proofs.YtedklcmdjoojfaaDoor
open Go Go.Hw

/-- one choice that is right behind these -/
def right1 (pre : List Opt) (o : Opt) : Bool := known o.1 && (freshO pre o.1 && (decide (0 ≤ o.2) && decide (o.2 ≤ 2147483647)))
def rightL : List Opt → List Opt → Bool
  | _, [] => true
  | pre, o :: r => right1 pre o && rightL (pre ++ [o]) r
def rightO (os : List Opt) : Bool := rightL [] os
theorem rightL_step {os : List Opt} {i : Nat} (hi : i < os.length) : rightL (os.take i) (os.drop i) = (right1 (os.take i) os[i] && rightL (os.take (i + 1)) (os.drop (i + 1))) := by
  rw [List.drop_eq_getElem_cons hi, rightL, List.take_append_getElem hi]
theorem c_right {s : Sl} {os : List Opt} {h : Hp} {K : Bool → Hp → Prop} (H : RdO h s os) (hl : os.length ≤ 4611686018427387904) (hK : ∀ h', Ext none' h h' → K (rightO os) h') : C49 s h K := by
  apply S49; unfold N49 N49_l0
  have hn := H.n
  refine loopP_inv (fun (x : Int) hc => Ext none' h hc ∧ ∃ i : Nat, x = i ∧ i ≤ os.length ∧ rightO os = rightL (os.take i) (os.drop i)) (fun x _ => os.length - x.toNat) ?_ ⟨Ext.refl, 0, rfl, Nat.zero_le _, rfl⟩
  rintro x hc ⟨he, i, rfl, hi, hr⟩
  unfold N49_l0_B N49_l0_b
  dsimp only
  have H1 := H.ext he
  by_cases hlt : i < os.length
  · have : decide ((i : Int) < ((s.n : Nat) : Int)) = true := decide_eq_true (by omega)
    rw [this, cond_true]
    rw [rightL_step hlt] at hr
    unfold right1 at hr
    refine H1.at rfl hlt ?_
    intro a _ hs hv
    rw [hs, xS_some, hv, xI_some]
    refine rng_new ?_
    intro b h2 e2 hb
    have hb0 : cell h2 (bk b) = some (.string (os[i]).1) := by rw [show (bk b) = (⟨b, 0, none⟩ : Addr) from rfl, hb.cell]; rfl
    rw [hb0, xS_some]
    refine c_known ?_
    cases hk : known (os[i]).1 with
    | false =>
      rw [hk, Bool.false_and, Bool.false_and] at hr
      have := hK h2 (he.trans e2)
      rw [hr] at this
      exact this
    | true =>
    rw [hk, Bool.true_and] at hr
    simp only [Bool.not_true, cond_false]
    refine c_first (H1.ext e2) hl rfl hlt ?_
    intro h3 e3
    cases hf : freshO (os.take i) (os[i]).1 with
    | false =>
      rw [hf, Bool.false_and, Bool.false_and] at hr
      have := hK h3 ((he.trans e2).trans e3)
      rw [hr] at this
      exact this
    | true =>
    rw [hf, Bool.true_and] at hr
    simp only [Bool.not_true, cond_false]
    have hb3 := e3.blk hb (fun e => e)
    have hb1 : cell h3 ((bk b).add 1) = some (.int .i64 (os[i]).2) := by rw [add_bk, hb3.cell]; rfl
    rw [hb1, xI_some, xI_some]
    by_cases h0 : (os[i]).2 < 0
    · have e : decide ((os[i]).2 < 0) = true := decide_eq_true h0
      rw [e, cond_true]
      rw [show decide (0 ≤ (os[i]).2) = false from decide_eq_false (by omega), Bool.false_and, Bool.false_and] at hr
      have := hK h3 ((he.trans e2).trans e3)
      rw [hr] at this
      exact this
    have e : decide ((os[i]).2 < 0) = false := decide_eq_false h0
    rw [e, cond_false]
    rw [show decide (0 ≤ (os[i]).2) = true from decide_eq_true (by omega), Bool.true_and] at hr
    by_cases h9 : (os[i]).2 > 2147483647
    · have e : decide ((os[i]).2 > 2147483647) = true := decide_eq_true h9
      rw [e, cond_true]
      rw [show decide ((os[i]).2 ≤ 2147483647) = false from decide_eq_false (by omega), Bool.false_and] at hr
      have := hK h3 ((he.trans e2).trans e3)
      rw [hr] at this
      exact this
    have e : decide ((os[i]).2 > 2147483647) = false := decide_eq_false h9
    rw [e, cond_false]
    rw [show decide ((os[i]).2 ≤ 2147483647) = true from decide_eq_true (by omega), Bool.true_and] at hr
    rw [nat_succ64 (by omega)]
    exact ⟨⟨(he.trans e2).trans e3, i + 1, rfl, hlt, hr⟩, by simp only [Int.toNat_natCast]; omega⟩
  · have : decide ((i : Int) < ((s.n : Nat) : Int)) = false := decide_eq_false (by omega)
    rw [this, cond_false]
    rw [List.drop_of_length_le (by omega)] at hr
    have := hK hc he
    rw [hr] at this
    exact this
theorem c_Choices {s : Sl} {os : List Opt} {h : Hp} {K : Bool → Hp → Prop} (H : RdO h s os) (hl : os.length ≤ 4611686018427387904) (hK : K (rightO os) h) : C54 s h K := by
  apply S54; unfold N54 N54_l0
  have hn := H.n
  refine loopP_inv (fun (x : Int) hc => hc = h ∧ ∃ i : Nat, x = i ∧ i ≤ os.length ∧ rightO os = rightL (os.take i) (os.drop i)) (fun x _ => os.length - x.toNat) ?_ ⟨rfl, 0, rfl, Nat.zero_le _, rfl⟩
  rintro x hc ⟨rfl, i, rfl, hi, hr⟩
  unfold N54_l0_B N54_l0_b
  dsimp only
  by_cases hlt : i < os.length
  · have : decide ((i : Int) < ((s.n : Nat) : Int)) = true := decide_eq_true (by omega)
    rw [this, cond_true]
    rw [rightL_step hlt] at hr
    unfold right1 at hr
    refine H.at rfl hlt ?_
    intro a _ hs hv
    rw [hs, xS_some]
    refine c_Known ?_
    refine c_Twice H hl rfl hlt ?_
    cases hk : known (os[i]).1 with
    | false =>
      rw [hk, Bool.false_and, Bool.false_and] at hr
      rw [hr] at hK
      exact hK
    | true =>
    rw [hk, Bool.true_and] at hr
    simp only [Bool.not_true, cond_false]
    cases hf : freshO (os.take i) (os[i]).1 with
    | false =>
      rw [hf, Bool.false_and, Bool.false_and] at hr
      rw [hr] at hK
      exact hK
    | true =>
    rw [hf, Bool.true_and] at hr
    simp only [Bool.not_true, cond_false]
    refine H.at rfl hlt ?_
    intro a2 _ _ hv2
    rw [hv2, xI_some]
    by_cases h0 : (os[i]).2 < 0
    · have e : decide ((os[i]).2 < 0) = true := decide_eq_true h0
      rw [e, cond_true]
      rw [show decide (0 ≤ (os[i]).2) = false from decide_eq_false (by omega), Bool.false_and, Bool.false_and] at hr
      rw [hr] at hK
      exact hK
    have e : decide ((os[i]).2 < 0) = false := decide_eq_false h0
    rw [e, cond_false]
    rw [show decide (0 ≤ (os[i]).2) = true from decide_eq_true (by omega), Bool.true_and] at hr
    refine H.at rfl hlt ?_
    intro a3 _ _ hv3
    rw [hv3, xI_some]
    by_cases h9 : (os[i]).2 > 2147483647
    · have e : decide ((os[i]).2 > 2147483647) = true := decide_eq_true h9
      rw [e, cond_true]
      rw [show decide ((os[i]).2 ≤ 2147483647) = false from decide_eq_false (by omega), Bool.false_and] at hr
      rw [hr] at hK
      exact hK
    have e : decide ((os[i]).2 > 2147483647) = false := decide_eq_false h9
    rw [e, cond_false]
    rw [show decide ((os[i]).2 ≤ 2147483647) = true from decide_eq_true (by omega), Bool.true_and] at hr
    rw [nat_succ64 (by omega)]
    exact ⟨⟨trivial, i + 1, rfl, hlt, hr⟩, by simp only [Int.toNat_natCast]; omega⟩
  · have : decide ((i : Int) < ((s.n : Nat) : Int)) = false := decide_eq_false (by omega)
    rw [this, cond_false]
    rw [List.drop_of_length_le (by omega)] at hr
    rw [hr] at hK
    exact hK
end Go.Proofs.YtedklcmdjoojfaaDoor

set_option linter.unusedVariables false
set_option maxRecDepth 100000
namespace Go.Proofs.YtedklcmdjoojfaaDoor
open Go Go.Hw
/-! ### 28 slipway/tftp.check -/
noncomputable def B28 : Code := match Tryd.f28.body with | some c => c | none => .skip
def N28_j1 (x1_p : Option Addr) (x8 : Bool) (h : Hp) (K_normal : Hp → Prop) (K_ret : Int → Hp → Prop) : Prop :=
  bif x8 then
    K_ret 171 h
  else
    nn x1_p fun a0 =>
    xL (cell h (a0.add 3)) fun s0 =>
    C49 s0 h fun b0 h0 =>
    bif (!b0) then
      K_ret 172 h0
    else
      K_normal h0
noncomputable def N28_j1_t : Xf := pieceT [(1, .c (.ptr)), (8, .c (.bool))] (codeAt B28 [1, 0, 1, 0, 1, 0, 0, 1]) fun x h Q => N28_j1 x.1 x.2 h (fun h' => Q .normal (Sg.env [] ()) h') (fun o0 h' => Q .ret (Sg.env [(2, .c (.int .i64))] o0) h')
theorem N28_j1_ok : Sound Tryd.prog Tryd.f28.ntmps N28_j1_t (codeAt B28 [1, 0, 1, 0, 1, 0, 0, 1]) := by
  refine piece_sound (fun e => match e with | .normal => [] | .ret => [2] | _ => []) ?_
  intro x h Q hb
  refine den_sound hE hm _ .leaf _ _ _ (annOk_leaf) ?_
  refine cast ?_ hb
  kernel_rfl
def N28_j3 (x1_p : Option Addr) (x31 : Bool) (h : Hp) (K_normal : Hp → Prop) (K_ret : Int → Hp → Prop) : Prop :=
  bif x31 then
    K_ret 1 h
  else
    nn x1_p fun a0 =>
    xI .i64 (cell h a0) fun n0 =>
    bif (n0 == 3) then
      nn x1_p fun a1 =>
      xL (cell h (a1.add 5)) fun s0 =>
      bif (decide (((s0.n : Nat) : Int) > 65464)) then
        K_ret 2 h
      else
        K_normal h
    else
      K_normal h
noncomputable def N28_j3_t : Xf := pieceT [(1, .c (.ptr)), (31, .c (.bool))] (codeAt B28 [1, 0, 1, 0, 1, 1, 1, 0, 0, 1]) fun x h Q => N28_j3 x.1 x.2 h (fun h' => Q .normal (Sg.env [] ()) h') (fun o0 h' => Q .ret (Sg.env [(2, .c (.int .i64))] o0) h')
theorem N28_j3_ok : Sound Tryd.prog Tryd.f28.ntmps N28_j3_t (codeAt B28 [1, 0, 1, 0, 1, 1, 1, 0, 0, 1]) := by
  refine piece_sound (fun e => match e with | .normal => [] | .ret => [2] | _ => []) ?_
  intro x h Q hb
  refine den_sound hE hm _ .leaf _ _ _ (annOk_leaf) ?_
  refine cast ?_ hb
  kernel_rfl
def N28_j4 (x1_p : Option Addr) (x52 : Bool) (h : Hp) (K_normal : Hp → Prop) (K_ret : Int → Hp → Prop) : Prop :=
  bif x52 then
    K_ret 1 h
  else
    nn x1_p fun a0 =>
    xS (cell h (a0.add 7)) fun s0 =>
    C50 s0 (⟨⟨[0]⟩⟩ : ByteArray) h fun b0 h0 =>
    bif b0 then
      K_ret 171 h0
    else
      nn x1_p fun a1 =>
      xS (cell h0 (a1.add 7)) fun s1 =>
      bif (decide ((s1.size : Int) > 255)) then
        K_ret 2 h0
      else
        K_normal h0
noncomputable def N28_j4_t : Xf := pieceT [(1, .c (.ptr)), (52, .c (.bool))] (codeAt B28 [1, 0, 1, 0, 1, 1, 1, 1, 1, 0, 0, 1]) fun x h Q => N28_j4 x.1 x.2 h (fun h' => Q .normal (Sg.env [] ()) h') (fun o0 h' => Q .ret (Sg.env [(2, .c (.int .i64))] o0) h')
theorem N28_j4_ok : Sound Tryd.prog Tryd.f28.ntmps N28_j4_t (codeAt B28 [1, 0, 1, 0, 1, 1, 1, 1, 1, 0, 0, 1]) := by
  refine piece_sound (fun e => match e with | .normal => [] | .ret => [2] | _ => []) ?_
  intro x h Q hb
  refine den_sound hE hm _ .leaf _ _ _ (annOk_leaf) ?_
  refine cast ?_ hb
  kernel_rfl
def N28_j2 (x1_p : Option Addr) (x4 : Int) (x28 : Bool) (h : Hp) (K_normal : Hp → Prop) (K_ret : Int → Hp → Prop) : Prop :=
  bif x28 then
    nn x1_p fun a0 =>
    xI .i64 (cell h (a0.add 4)) fun n0 =>
    bif (decide (n0 < 0)) then
      N28_j3 x1_p true h
        (fun h0 =>
          K_normal h0)
        (fun n1 h1 =>
          K_ret n1 h1)
    else
      nn x1_p fun a1 =>
      xI .i64 (cell h (a1.add 4)) fun n2 =>
      N28_j3 x1_p (decide (n2 > 65535)) h
        (fun h2 =>
          K_normal h2)
        (fun n3 h3 =>
          K_ret n3 h3)
  else
    bif (x4 == 5) then
      nn x1_p fun a2 =>
      xI .i64 (cell h (a2.add 6)) fun n4 =>
      bif (decide (n4 < 0)) then
        N28_j4 x1_p true h
          (fun h4 =>
            K_normal h4)
          (fun n5 h5 =>
            K_ret n5 h5)
      else
        nn x1_p fun a3 =>
        xI .i64 (cell h (a3.add 6)) fun n6 =>
        N28_j4 x1_p (decide (n6 > 65535)) h
          (fun h6 =>
            K_normal h6)
          (fun n7 h7 =>
            K_ret n7 h7)
    else
      K_ret 170 h
noncomputable def N28_j2_t : Xf := pieceT [(1, .c (.ptr)), (4, .c (.int .i64)), (28, .c (.bool))] (codeAt B28 [1, 0, 1, 0, 1, 1, 1]) fun x h Q => N28_j2 x.1 x.2.1 x.2.2 h (fun h' => Q .normal (Sg.env [] ()) h') (fun o0 h' => Q .ret (Sg.env [(2, .c (.int .i64))] o0) h')
theorem N28_j2_ok : Sound Tryd.prog Tryd.f28.ntmps N28_j2_t (codeAt B28 [1, 0, 1, 0, 1, 1, 1]) := by
  refine piece_sound (fun e => match e with | .normal => [] | .ret => [2] | _ => []) ?_
  intro x h Q hb
  refine den_sound hE hm _ (.two (.one (.two .leaf (.xf N28_j3_t))) (.two .leaf (.two (.one (.two .leaf (.xf N28_j4_t))) .leaf))) _ _ _ (⟨⟨annOk_leaf, N28_j3_ok⟩, ⟨annOk_leaf, ⟨⟨annOk_leaf, N28_j4_ok⟩, annOk_leaf⟩⟩⟩) ?_
  refine cast ?_ hb
  kernel_rfl
def N28_j0 (x1_p : Option Addr) (x4 : Int) (x5 : Bool) (h : Hp) (K_normal : Hp → Prop) (K_ret : Int → Hp → Prop) : Prop :=
  bif x5 then
    nn x1_p fun a0 =>
    xI .i64 (cell h a0) fun n0 =>
    bif (n0 == 1) then
      nn x1_p fun a1 =>
      xS (cell h (a1.add 1)) fun s0 =>
      C48 s0 h fun b0 h0 =>
      bif (!b0) then
        N28_j1 x1_p true h0
          (fun h1 =>
            K_normal h1)
          (fun n1 h2 =>
            K_ret n1 h2)
      else
        nn x1_p fun a2 =>
        xS (cell h0 (a2.add 2)) fun s1 =>
        N28_j1 x1_p (!(s1.toList == (⟨⟨[111, 99, 116, 101, 116]⟩⟩ : ByteArray).toList)) h0
          (fun h3 =>
            K_normal h3)
          (fun n2 h4 =>
            K_ret n2 h4)
    else
      N28_j1 x1_p false h
        (fun h5 =>
          K_normal h5)
        (fun n3 h6 =>
          K_ret n3 h6)
  else
    bif (x4 == 3) then
      N28_j2 x1_p x4 true h
        (fun h7 =>
          K_normal h7)
        (fun n4 h8 =>
          K_ret n4 h8)
    else
      N28_j2 x1_p x4 (x4 == 4) h
        (fun h9 =>
          K_normal h9)
        (fun n5 h10 =>
          K_ret n5 h10)
noncomputable def N28_j0_t : Xf := pieceT [(1, .c (.ptr)), (4, .c (.int .i64)), (5, .c (.bool))] (codeAt B28 [1, 0, 1, 0, 1]) fun x h Q => N28_j0 x.1 x.2.1 x.2.2 h (fun h' => Q .normal (Sg.env [] ()) h') (fun o0 h' => Q .ret (Sg.env [(2, .c (.int .i64))] o0) h')
theorem N28_j0_ok : Sound Tryd.prog Tryd.f28.ntmps N28_j0_t (codeAt B28 [1, 0, 1, 0, 1]) := by
  refine piece_sound (fun e => match e with | .normal => [] | .ret => [2] | _ => []) ?_
  intro x h Q hb
  refine den_sound hE hm _ (.two (.one (.two .leaf (.xf N28_j1_t))) (.two .leaf (.xf N28_j2_t))) _ _ _ (⟨⟨annOk_leaf, N28_j1_ok⟩, ⟨annOk_leaf, N28_j2_ok⟩⟩) ?_
  refine cast ?_ hb
  kernel_rfl
def N28 (x0_0 : Int) (x0_1 : ByteArray) (x0_2 : ByteArray) (x0_3 : Sl) (x0_4 : Int) (x0_5 : Sl) (x0_6 : Int) (x0_7 : ByteArray) (h : Hp) (K : Int → Hp → Prop) : Prop :=
  nw h (.cells ⟨[.int .i64 x0_0, .string x0_1, .string x0_2, .slice x0_3.p x0_3.n x0_3.c, .int .i64 x0_4, .slice x0_5.p x0_5.n x0_5.c, .int .i64 x0_6, .string x0_7]⟩ 26) fun b0 h0 =>
  xI .i64 (cell h0 (bk b0)) fun n0 =>
  bif (n0 == 1) then
    N28_j0 (some (bk b0)) n0 true h0
      (fun h1 =>
        K 0 h1)
      (fun n1 h2 =>
        K n1 h2)
  else
    N28_j0 (some (bk b0)) n0 (n0 == 6) h0
      (fun h3 =>
        K 0 h3)
      (fun n2 h4 =>
        K n2 h4)
theorem S28 {x0_0 : Int} {x0_1 : ByteArray} {x0_2 : ByteArray} {x0_3 : Sl} {x0_4 : Int} {x0_5 : Sl} {x0_6 : Int} {x0_7 : ByteArray} {h : Hp} {K : Int → Hp → Prop} (hn : N28 x0_0 x0_1 x0_2 x0_3 x0_4 x0_5 x0_6 x0_7 h K) : C28 x0_0 x0_1 x0_2 x0_3 x0_4 x0_5 x0_6 x0_7 h K := by
  refine calls_of_D Tryd.func28 (c := B28) rfl (by kernel_rfl) ?_
  refine den_sound hE hm _ (.two .leaf (.two (.two .leaf (.one (.two .leaf (.xf N28_j0_t)))) .leaf)) _ _ _ (⟨annOk_leaf, ⟨⟨annOk_leaf, ⟨annOk_leaf, N28_j0_ok⟩⟩, annOk_leaf⟩⟩) ?_
  refine cast ?_ hn
  kernel_rfl
end Go.Proofs.YtedklcmdjoojfaaDoor

set_option linter.unusedVariables false
set_option maxRecDepth 100000
namespace Go.Proofs.YtedklcmdjoojfaaDoor
open Go Go.Hw
/-! ### 32 slipway/slipwayref17.may -/
noncomputable def B32 : Code := match Tryd.f32.body with | some c => c | none => .skip
def N32_j1 (x1_p : Option Addr) (x4_odd : Bool) (x65 : Bool) (h : Hp) (K_normal : Hp → Prop) (K_ret : Int → Hp → Prop) : Prop :=
  bif x65 then
    K_ret 1 h
  else
    bif x4_odd then
      K_ret 171 h
    else
      nn x1_p fun a0 =>
      xS (cell h (a0.add 7)) fun s0 =>
      bif (decide ((s0.size : Int) > 255)) then
        K_ret 2 h
      else
        K_normal h
noncomputable def N32_j1_t : Xf := pieceT [(1, .c (.ptr)), (4, .c (.bool)), (65, .c (.bool))] (codeAt B32 [1, 1, 1, 1, 0, 1, 0, 1, 1, 1, 1, 1, 1, 1, 0, 0, 1]) fun x h Q => N32_j1 x.1 x.2.1 x.2.2 h (fun h' => Q .normal (Sg.env [] ()) h') (fun o0 h' => Q .ret (Sg.env [(2, .c (.int .i64))] o0) h')
theorem N32_j1_ok : Sound Tryd.prog Tryd.f32.ntmps N32_j1_t (codeAt B32 [1, 1, 1, 1, 0, 1, 0, 1, 1, 1, 1, 1, 1, 1, 0, 0, 1]) := by
  refine piece_sound (fun e => match e with | .normal => [] | .ret => [2] | _ => []) ?_
  intro x h Q hb
  refine den_sound hE hm _ .leaf _ _ _ (annOk_leaf) ?_
  refine cast ?_ hb
  kernel_rfl
def N32_j0 (x1_p : Option Addr) (x4_odd : Bool) (x16 : Int) (x43 : Bool) (h : Hp) (K_normal : Hp → Prop) (K_ret : Int → Hp → Prop) : Prop :=
  bif x43 then
    nn x1_p fun a0 =>
    xI .i64 (cell h (a0.add 4)) fun n0 =>
    bif (decide (n0 < 0)) then
      K_ret 1 h
    else
      nn x1_p fun a1 =>
      xI .i64 (cell h (a1.add 4)) fun n1 =>
      bif (decide (n1 > 65535)) then
        K_ret 1 h
      else
        nn x1_p fun a2 =>
        xI .i64 (cell h a2) fun n2 =>
        bif (n2 == 3) then
          nn x1_p fun a3 =>
          xL (cell h (a3.add 5)) fun s0 =>
          bif (decide (((s0.n : Nat) : Int) > 65464)) then
            K_ret 2 h
          else
            K_normal h
        else
          K_normal h
  else
    bif (x16 == 5) then
      nn x1_p fun a4 =>
      xI .i64 (cell h (a4.add 6)) fun n3 =>
      bif (decide (n3 < 0)) then
        N32_j1 x1_p x4_odd true h
          (fun h0 =>
            K_normal h0)
          (fun n4 h1 =>
            K_ret n4 h1)
      else
        nn x1_p fun a5 =>
        xI .i64 (cell h (a5.add 6)) fun n5 =>
        N32_j1 x1_p x4_odd (decide (n5 > 65535)) h
          (fun h2 =>
            K_normal h2)
          (fun n6 h3 =>
            K_ret n6 h3)
    else
      K_ret 170 h
noncomputable def N32_j0_t : Xf := pieceT [(1, .c (.ptr)), (4, .c (.bool)), (16, .c (.int .i64)), (43, .c (.bool))] (codeAt B32 [1, 1, 1, 1, 0, 1, 0, 1, 1, 1, 1, 1]) fun x h Q => N32_j0 x.1 x.2.1 x.2.2.1 x.2.2.2 h (fun h' => Q .normal (Sg.env [] ()) h') (fun o0 h' => Q .ret (Sg.env [(2, .c (.int .i64))] o0) h')
theorem N32_j0_ok : Sound Tryd.prog Tryd.f32.ntmps N32_j0_t (codeAt B32 [1, 1, 1, 1, 0, 1, 0, 1, 1, 1, 1, 1]) := by
  refine piece_sound (fun e => match e with | .normal => [] | .ret => [2] | _ => []) ?_
  intro x h Q hb
  refine den_sound hE hm _ (.two .leaf (.two .leaf (.two (.one (.two .leaf (.xf N32_j1_t))) .leaf))) _ _ _ (⟨annOk_leaf, ⟨annOk_leaf, ⟨⟨annOk_leaf, N32_j1_ok⟩, annOk_leaf⟩⟩⟩) ?_
  refine cast ?_ hb
  kernel_rfl
def N32 (x0_0 : Int) (x0_1 : ByteArray) (x0_2 : ByteArray) (x0_3 : Sl) (x0_4 : Int) (x0_5 : Sl) (x0_6 : Int) (x0_7 : ByteArray) (h : Hp) (K : Int → Hp → Prop) : Prop :=
  nw h (.cells ⟨[.int .i64 x0_0, .string x0_1, .string x0_2, .slice x0_3.p x0_3.n x0_3.c, .int .i64 x0_4, .slice x0_5.p x0_5.n x0_5.c, .int .i64 x0_6, .string x0_7]⟩ 26) fun b0 h0 =>
  xS (cell h0 ((bk b0).add 1)) fun s0 =>
  C53 s0 h0 fun b1 h1 =>
  xS (cell h1 ((bk b0).add 7)) fun s1 =>
  C53 s1 h1 fun b2 h2 =>
  xL (cell h2 ((bk b0).add 3)) fun s2 =>
  C54 s2 h2 fun b3 h3 =>
  xI .i64 (cell h3 (bk b0)) fun n0 =>
  bif (n0 == 1) then
    xS (cell h3 ((bk b0).add 1)) fun s3 =>
    bif (decide ((s3.size : Int) < 1)) then
      K 171 h3
    else
      xS (cell h3 ((bk b0).add 1)) fun s4 =>
      bif (decide ((s4.size : Int) > 64)) then
        K 171 h3
      else
        bif b1 then
          K 171 h3
        else
          xS (cell h3 ((bk b0).add 2)) fun s5 =>
          bif (!(s5.toList == (⟨⟨[111, 99, 116, 101, 116]⟩⟩ : ByteArray).toList)) then
            K 171 h3
          else
            bif (!b3) then
              K 172 h3
            else
              K 0 h3
  else
    bif (n0 == 6) then
      bif (!b3) then
        K 172 h3
      else
        K 0 h3
    else
      bif (n0 == 3) then
        N32_j0 (some (bk b0)) b2 n0 true h3
          (fun h4 =>
            K 0 h4)
          (fun n1 h5 =>
            K n1 h5)
      else
        N32_j0 (some (bk b0)) b2 n0 (n0 == 4) h3
          (fun h6 =>
            K 0 h6)
          (fun n2 h7 =>
            K n2 h7)
theorem S32 {x0_0 : Int} {x0_1 : ByteArray} {x0_2 : ByteArray} {x0_3 : Sl} {x0_4 : Int} {x0_5 : Sl} {x0_6 : Int} {x0_7 : ByteArray} {h : Hp} {K : Int → Hp → Prop} (hn : N32 x0_0 x0_1 x0_2 x0_3 x0_4 x0_5 x0_6 x0_7 h K) : C32 x0_0 x0_1 x0_2 x0_3 x0_4 x0_5 x0_6 x0_7 h K := by
  refine calls_of_D Tryd.func32 (c := B32) rfl (by kernel_rfl) ?_
  refine den_sound hE hm _ (.two .leaf (.two .leaf (.two .leaf (.two .leaf (.two (.two .leaf (.one (.two .leaf (.two .leaf (.two .leaf (.two .leaf (.two .leaf (.xf N32_j0_t)))))))) .leaf))))) _ _ _ (⟨annOk_leaf, ⟨annOk_leaf, ⟨annOk_leaf, ⟨annOk_leaf, ⟨⟨annOk_leaf, ⟨annOk_leaf, ⟨annOk_leaf, ⟨annOk_leaf, ⟨annOk_leaf, ⟨annOk_leaf, N32_j0_ok⟩⟩⟩⟩⟩⟩, annOk_leaf⟩⟩⟩⟩⟩) ?_
  refine cast ?_ hn
  kernel_rfl
end Go.Proofs.YtedklcmdjoojfaaDoor

/-
  Which packets may be laid, told by both.
-/
set_option linter.unusedSimpArgs false
set_option linter.unusedVariables false
namespace Go.Proofs.YtedklcmdjoojfaaDoor
open Go Go.Hw

def octS : List UInt8 := [111, 99, 116, 101, 116]
/-- the fault of a packet, or none -/
def checkV (op : Int) (file mode : ByteArray) (os : List Opt) (block : Int) (dl : Nat) (code : Int) (text : ByteArray) : Int :=
  if op = 1 then (if fileOk file = false then 171 else if (mode.data.toList == octS) = false then 171 else if rightO os = false then 172 else 0)
  else if op = 6 then (if rightO os = false then 172 else 0)
  else if op = 3 then (if block < 0 then 1 else if block > 65535 then 1 else if dl > 65464 then 2 else 0)
  else if op = 4 then (if block < 0 then 1 else if block > 65535 then 1 else 0)
  else if op = 5 then (if code < 0 then 1 else if code > 65535 then 1 else if hasZero text = true then 171 else if text.size > 255 then 2 else 0)
  else 170
/-- a packet's row -/
def pkL (op : Int) (file mode : ByteArray) (x3 : Sl) (block : Int) (x5 : Sl) (code : Int) (text : ByteArray) : List Value :=
  [.int .i64 op, .string file, .string mode, x3.v, .int .i64 block, x5.v, .int .i64 code, .string text]
structure PkC (h : Hp) (a : Addr) (op : Int) (file mode : ByteArray) (x3 : Sl) (block : Int) (x5 : Sl) (code : Int) (text : ByteArray) : Prop where
  c0 : cell h a = some (.int .i64 op)
  c1 : cell h (a.add 1) = some (.string file)
  c2 : cell h (a.add 2) = some (.string mode)
  c3 : cell h (a.add 3) = some x3.v
  c4 : cell h (a.add 4) = some (.int .i64 block)
  c5 : cell h (a.add 5) = some x5.v
  c6 : cell h (a.add 6) = some (.int .i64 code)
  c7 : cell h (a.add 7) = some (.string text)
theorem pkC_of {h : Hp} {b : Nat} {T : TypeId} {op : Int} {file mode : ByteArray} {x3 : Sl} {block : Int} {x5 : Sl} {code : Int} {text : ByteArray} (hb : Blk h b T (pkL op file mode x3 block x5 code text)) : PkC h (bk b) op file mode x3 block x5 code text := by
  constructor <;> (first | rw [add_bk, hb.cell] | rw [show (bk b) = (⟨b, 0, none⟩ : Addr) from rfl, hb.cell]) <;> rfl
theorem PkC.ext {h h' : Hp} {a : Addr} {op : Int} {file mode : ByteArray} {x3 : Sl} {block : Int} {x5 : Sl} {code : Int} {text : ByteArray} (H : PkC h a op file mode x3 block x5 code text) (he : Ext none' h h') : PkC h' a op file mode x3 block x5 code text :=
  ⟨cellx he H.c0, cellx he H.c1, cellx he H.c2, cellx he H.c3, cellx he H.c4, cellx he H.c5, cellx he H.c6, cellx he H.c7⟩

theorem c_check {op : Int} {file mode : ByteArray} {x3 : Sl} {block : Int} {x5 : Sl} {code : Int} {text : ByteArray} {os : List Opt} {h : Hp} {K : Int → Hp → Prop} (H : RdO h x3 os) (hl : os.length ≤ 4611686018427387904)
    (hK : ∀ h', Ext none' h h' → K (checkV op file mode os block x5.n code text) h') : C28 op file mode x3 block x5 code text h K := by
  apply S28; unfold N28
  intro b0 e0
  have y0 : Ext none' h (upd h b0 (.cells ⟨pkL op file mode x3 block x5 code text⟩ 26 (0, 0))) := Ext.new e0
  have pc := pkC_of (h := upd h b0 (.cells ⟨pkL op file mode x3 block x5 code text⟩ 26 (0, 0))) (b := b0) (T := 26) Blk.upd_same
  have es : (upd h b0 (.cells ⟨[.int .i64 op, .string file, .string mode, .slice x3.p x3.n x3.c, .int .i64 block, .slice x5.p x5.n x5.c, .int .i64 code, .string text]⟩ 26)) = upd h b0 (.cells ⟨pkL op file mode x3 block x5 code text⟩ 26 (0, 0)) := rfl
  rw [es]
  revert y0 pc
  generalize upd h b0 _ = h0
  intro y0 pc
  obtain ⟨c0, c1, c2, c3, c4, c5, c6, c7⟩ := pc
  have H0 := H.ext y0
  have hK0 := hK h0 y0
  rw [c0, xI_some]
  by_cases h1 : op = 1
  · subst h1
    have hq : ∀ h', Ext none' h h' → K (if fileOk file = false then 171 else if (mode.data.toList == octS) = false then 171 else if rightO os = false then 172 else 0) h' := hK
    simp only [beq_self_eq_true, cond_true]
    unfold N28_j0
    simp only [cond_true, nn_some', c0, c1, xI_some, xS_some, beq_self_eq_true]
    refine c_isFile ?_
    cases hf : fileOk file with
    | false =>
      simp only [Bool.not_false, cond_true]
      unfold N28_j1
      simp only [cond_true]
      have := hq h0 y0
      rw [if_pos hf] at this; exact this
    | true =>
    rw [if_neg (by rw [hf]; simp)] at hq
    simp only [Bool.not_true, cond_false, c2, xS_some, ba_list]
    unfold N28_j1
    cases hm : (mode.data.toList == octS) with
    | false =>
      have hm' : (mode.data.toList == [111, 99, 116, 101, 116]) = false := hm
      simp only [hm', Bool.not_false, cond_true]
      have := hq h0 y0
      rw [if_pos hm] at this; exact this
    | true =>
    rw [if_neg (by rw [hm]; simp)] at hq
    have hm' : (mode.data.toList == [111, 99, 116, 101, 116]) = true := hm
    simp only [hm', Bool.not_true, cond_false, nn_some', c3, xL_v]
    refine c_right H0 hl ?_
    intro h2 e2
    have := hq h2 (y0.trans e2)
    cases hr : rightO os with
    | false => simp only [Bool.not_false, cond_true]; rw [if_pos hr] at this; exact this
    | true => simp only [Bool.not_true, cond_false]; rw [if_neg (by rw [hr]; simp)] at this; exact this
  have e1 : (op == 1) = false := by rw [beq_eq_false_iff_ne]; exact h1
  rw [e1, cond_false]
  unfold checkV at hK hK0
  rw [if_neg h1] at hK0
  by_cases h6 : op = 6
  · subst h6
    have hq : ∀ h', Ext none' h h' → K (if rightO os = false then 172 else 0) h' := hK
    unfold N28_j0
    simp only [beq_self_eq_true, cond_true, nn_some', c0, xI_some, show ((6 : Int) == 1) = false from rfl, cond_false]
    unfold N28_j1
    simp only [cond_false, nn_some', c3, xL_v]
    refine c_right H0 hl ?_
    intro h2 e2
    have := hq h2 (y0.trans e2)
    cases hr : rightO os with
    | false => simp only [Bool.not_false, cond_true]; rw [if_pos hr] at this; exact this
    | true => simp only [Bool.not_true, cond_false]; rw [if_neg (by rw [hr]; simp)] at this; exact this
  have e6 : (op == 6) = false := by rw [beq_eq_false_iff_ne]; exact h6
  rw [if_neg h6] at hK0
  rw [e6]
  unfold N28_j0
  simp only [cond_false]
  unfold N28_j2
  by_cases h3 : op = 3
  · subst h3
    rw [if_pos rfl] at hK0
    simp only [beq_self_eq_true, cond_true, nn_some', c4, xI_some]
    unfold N28_j3
    by_cases g0 : block < 0
    · rw [if_pos g0] at hK0
      simp only [g0, decide_true, cond_true]; exact hK0
    rw [if_neg g0] at hK0
    simp only [g0, decide_false, cond_false]
    by_cases g1 : block > 65535
    · rw [if_pos g1] at hK0
      simp only [g1, decide_true, cond_true]; exact hK0
    rw [if_neg g1] at hK0
    simp only [g1, decide_false, cond_false, nn_some', c0, xI_some, beq_self_eq_true, cond_true, c5, xL_v]
    by_cases g2 : x5.n > 65464
    · rw [if_pos g2] at hK0
      have : decide (((x5.n : Nat) : Int) > 65464) = true := decide_eq_true (by omega)
      rw [this, cond_true]; exact hK0
    · rw [if_neg g2] at hK0
      have : decide (((x5.n : Nat) : Int) > 65464) = false := decide_eq_false (by omega)
      rw [this, cond_false]; exact hK0
  have e3 : (op == 3) = false := by rw [beq_eq_false_iff_ne]; exact h3
  rw [if_neg h3] at hK0
  simp only [e3, cond_false]
  by_cases h4 : op = 4
  · subst h4
    rw [if_pos rfl] at hK0
    simp only [beq_self_eq_true, cond_true, nn_some', c4, xI_some]
    unfold N28_j3
    by_cases g0 : block < 0
    · rw [if_pos g0] at hK0
      simp only [g0, decide_true, cond_true]; exact hK0
    rw [if_neg g0] at hK0
    simp only [g0, decide_false, cond_false]
    by_cases g1 : block > 65535
    · rw [if_pos g1] at hK0
      simp only [g1, decide_true, cond_true]; exact hK0
    rw [if_neg g1] at hK0
    simp only [g1, decide_false, cond_false, nn_some', c0, xI_some, show ((4 : Int) == 3) = false from rfl]
    exact hK0
  have e4 : (op == 4) = false := by rw [beq_eq_false_iff_ne]; exact h4
  rw [if_neg h4] at hK0
  simp only [e4, cond_false]
  by_cases h5 : op = 5
  · subst h5
    rw [if_pos rfl] at hK0
    simp only [beq_self_eq_true, cond_true, nn_some', c6, xI_some]
    unfold N28_j4
    by_cases g0 : code < 0
    · rw [if_pos g0] at hK0
      simp only [g0, decide_true, cond_true]; exact hK0
    rw [if_neg g0] at hK0
    simp only [g0, decide_false, cond_false]
    by_cases g1 : code > 65535
    · rw [if_pos g1] at hK0
      simp only [g1, decide_true, cond_true]; exact hK0
    rw [if_neg g1] at hK0
    simp only [g1, decide_false, cond_false, nn_some', c7, xS_some]
    refine c_contains0 ?_
    cases hz : hasZero text with
    | true =>
      rw [if_pos hz] at hK0
      simp only [cond_true]; exact hK0
    | false =>
      rw [if_neg (by rw [hz]; simp)] at hK0
      simp only [cond_false, nn_some', c7, xS_some]
      by_cases g2 : text.size > 255
      · rw [if_pos g2] at hK0
        have : decide ((text.size : Int) > 255) = true := decide_eq_true (by omega)
        rw [this, cond_true]; exact hK0
      · rw [if_neg g2] at hK0
        have : decide ((text.size : Int) > 255) = false := decide_eq_false (by omega)
        rw [this, cond_false]; exact hK0
  have e5 : (op == 5) = false := by rw [beq_eq_false_iff_ne]; exact h5
  rw [if_neg h5] at hK0
  simp only [e5, cond_false]
  exact hK0

/-- the document's -/
theorem c_May {op : Int} {file mode : ByteArray} {x3 : Sl} {block : Int} {x5 : Sl} {code : Int} {text : ByteArray} {os : List Opt} {h : Hp} {K : Int → Hp → Prop} (H : RdO h x3 os) (hl : os.length ≤ 4611686018427387904) (hf : file.size ≤ 9223372036854775806) (ht : text.size ≤ 9223372036854775806)
    (hK : ∀ h', Ext none' h h' → K (checkV op file mode os block x5.n code text) h') : C32 op file mode x3 block x5 code text h K := by
  apply S32; unfold N32
  intro b0 e0
  have y0 : Ext none' h (upd h b0 (.cells ⟨pkL op file mode x3 block x5 code text⟩ 26 (0, 0))) := Ext.new e0
  have pc := pkC_of (h := upd h b0 (.cells ⟨pkL op file mode x3 block x5 code text⟩ 26 (0, 0))) (b := b0) (T := 26) Blk.upd_same
  have es : (upd h b0 (.cells ⟨[.int .i64 op, .string file, .string mode, .slice x3.p x3.n x3.c, .int .i64 block, .slice x5.p x5.n x5.c, .int .i64 code, .string text]⟩ 26)) = upd h b0 (.cells ⟨pkL op file mode x3 block x5 code text⟩ 26 (0, 0)) := rfl
  rw [es]
  revert y0 pc
  generalize upd h b0 _ = h0
  intro y0 pc
  obtain ⟨c0, c1, c2, c3, c4, c5, c6, c7⟩ := pc
  have H0 := H.ext y0
  have hK0 := hK h0 y0
  unfold checkV at hK0
  rw [c1, xS_some]
  refine c_HasZero hf ?_
  rw [c7, xS_some]
  refine c_HasZero ht ?_
  rw [c3, xL_v]
  refine c_Choices H0 hl ?_
  rw [c0, xI_some]
  by_cases h1 : op = 1
  · subst h1
    rw [if_pos rfl] at hK0
    simp only [beq_self_eq_true, cond_true, xS_some, c1, c2, ba_list]
    unfold fileOk at hK0
    by_cases g1 : file.size < 1
    · have e : decide ((file.size : Int) < 1) = true := decide_eq_true (by omega)
      rw [show decide (1 ≤ file.size) = false from decide_eq_false (by omega), Bool.false_and, if_pos rfl] at hK0
      rw [e, cond_true]; exact hK0
    have e : decide ((file.size : Int) < 1) = false := decide_eq_false (by omega)
    rw [show decide (1 ≤ file.size) = true from decide_eq_true (by omega), Bool.true_and] at hK0
    rw [e, cond_false]
    by_cases g2 : file.size > 64
    · have e : decide ((file.size : Int) > 64) = true := decide_eq_true (by omega)
      rw [show decide (file.size ≤ 64) = false from decide_eq_false (by omega), Bool.false_and, if_pos rfl] at hK0
      rw [e, cond_true]; exact hK0
    have e : decide ((file.size : Int) > 64) = false := decide_eq_false (by omega)
    rw [show decide (file.size ≤ 64) = true from decide_eq_true (by omega), Bool.true_and] at hK0
    rw [e, cond_false]
    cases hz : hasZero file with
    | true => rw [hz] at hK0; simp only [cond_true]; exact hK0
    | false =>
    rw [hz] at hK0
    simp only [cond_false]
    cases hm : (mode.data.toList == octS) with
    | false =>
      have hm' : (mode.data.toList == [111, 99, 116, 101, 116]) = false := hm
      rw [hm] at hK0
      simp only [hm', Bool.not_false, cond_true]; exact hK0
    | true =>
    have hm' : (mode.data.toList == [111, 99, 116, 101, 116]) = true := hm
    rw [hm] at hK0
    simp only [hm', Bool.not_true, cond_false]
    cases hr : rightO os with
    | false => rw [hr] at hK0; simp only [Bool.not_false, cond_true]; exact hK0
    | true => rw [hr] at hK0; simp only [Bool.not_true, cond_false]; exact hK0
  have e1 : (op == 1) = false := by rw [beq_eq_false_iff_ne]; exact h1
  rw [e1, cond_false]
  rw [if_neg h1] at hK0
  by_cases h6 : op = 6
  · subst h6
    rw [if_pos rfl] at hK0
    simp only [beq_self_eq_true, cond_true]
    cases hr : rightO os with
    | false => rw [hr] at hK0; simp only [Bool.not_false, cond_true]; exact hK0
    | true => rw [hr] at hK0; simp only [Bool.not_true, cond_false]; exact hK0
  have e6 : (op == 6) = false := by rw [beq_eq_false_iff_ne]; exact h6
  rw [if_neg h6] at hK0
  rw [e6, cond_false]
  unfold N32_j0
  by_cases h3 : op = 3
  · subst h3
    rw [if_pos rfl] at hK0
    simp only [beq_self_eq_true, cond_true, nn_some', c4, xI_some]
    by_cases g0 : block < 0
    · rw [if_pos g0] at hK0
      simp only [g0, decide_true, cond_true]; exact hK0
    rw [if_neg g0] at hK0
    simp only [g0, decide_false, cond_false]
    by_cases g1 : block > 65535
    · rw [if_pos g1] at hK0
      simp only [g1, decide_true, cond_true]; exact hK0
    rw [if_neg g1] at hK0
    simp only [g1, decide_false, cond_false, nn_some', c0, xI_some, beq_self_eq_true, cond_true, c5, xL_v]
    by_cases g2 : x5.n > 65464
    · rw [if_pos g2] at hK0
      have : decide (((x5.n : Nat) : Int) > 65464) = true := decide_eq_true (by omega)
      rw [this, cond_true]; exact hK0
    · rw [if_neg g2] at hK0
      have : decide (((x5.n : Nat) : Int) > 65464) = false := decide_eq_false (by omega)
      rw [this, cond_false]; exact hK0
  have e3 : (op == 3) = false := by rw [beq_eq_false_iff_ne]; exact h3
  rw [if_neg h3] at hK0
  simp only [e3, cond_false]
  by_cases h4 : op = 4
  · subst h4
    rw [if_pos rfl] at hK0
    simp only [beq_self_eq_true, cond_true, nn_some', c4, xI_some]
    by_cases g0 : block < 0
    · rw [if_pos g0] at hK0
      simp only [g0, decide_true, cond_true]; exact hK0
    rw [if_neg g0] at hK0
    simp only [g0, decide_false, cond_false]
    by_cases g1 : block > 65535
    · rw [if_pos g1] at hK0
      simp only [g1, decide_true, cond_true]; exact hK0
    rw [if_neg g1] at hK0
    simp only [g1, decide_false, cond_false, nn_some', c0, xI_some, show ((4 : Int) == 3) = false from rfl]
    exact hK0
  have e4 : (op == 4) = false := by rw [beq_eq_false_iff_ne]; exact h4
  rw [if_neg h4] at hK0
  simp only [e4, cond_false]
  by_cases h5 : op = 5
  · subst h5
    rw [if_pos rfl] at hK0
    simp only [beq_self_eq_true, cond_true, nn_some', c6, xI_some]
    unfold N32_j1
    by_cases g0 : code < 0
    · rw [if_pos g0] at hK0
      simp only [g0, decide_true, cond_true]; exact hK0
    rw [if_neg g0] at hK0
    simp only [g0, decide_false, cond_false]
    by_cases g1 : code > 65535
    · rw [if_pos g1] at hK0
      simp only [g1, decide_true, cond_true]; exact hK0
    rw [if_neg g1] at hK0
    simp only [g1, decide_false, cond_false]
    cases hz : hasZero text with
    | true => rw [hz] at hK0; simp only [cond_true]; exact hK0
    | false =>
      rw [hz] at hK0
      simp only [cond_false, nn_some', c7, xS_some]
      rw [if_neg (by simp)] at hK0
      by_cases g2 : text.size > 255
      · rw [if_pos g2] at hK0
        have : decide ((text.size : Int) > 255) = true := decide_eq_true (by omega)
        rw [this, cond_true]; exact hK0
      · rw [if_neg g2] at hK0
        have : decide ((text.size : Int) > 255) = false := decide_eq_false (by omega)
        rw [this, cond_false]; exact hK0
  have e5 : (op == 5) = false := by rw [beq_eq_false_iff_ne]; exact h5
  rw [if_neg h5] at hK0
  simp only [e5, cond_false]
  exact hK0
end Go.Proofs.YtedklcmdjoojfaaDoor

set_option linter.unusedVariables false
set_option maxRecDepth 100000
namespace Go.Proofs.YtedklcmdjoojfaaDoor
open Go Go.Hw
/-! ### 29 slipway/tftp.number -/
noncomputable def B29 : Code := match Tryd.f29.body with | some c => c | none => .skip
def N29 (x0 : Sl) (x1 : Int) (h : Hp) (K : Sl → Hp → Prop) : Prop :=
  C51 (IntKind.wrap .u64 x1) 2 h fun s0 h0 =>
  apK Tryd.prog 5 x0 (.slice s0.p s0.n s0.c) h0 fun s1 h1 =>
  K s1 h1
theorem S29 {x0 : Sl} {x1 : Int} {h : Hp} {K : Sl → Hp → Prop} (hn : N29 x0 x1 h K) : C29 x0 x1 h K := by
  refine calls_of_D Tryd.func29 (c := B29) rfl (by kernel_rfl) ?_
  refine den_sound hE hm _ .leaf _ _ _ (annOk_leaf) ?_
  refine cast ?_ hn
  kernel_rfl
end Go.Proofs.YtedklcmdjoojfaaDoor

set_option linter.unusedVariables false
set_option maxRecDepth 100000
namespace Go.Proofs.YtedklcmdjoojfaaDoor
open Go Go.Hw
/-! ### 30 slipway/tftp.text -/
noncomputable def B30 : Code := match Tryd.f30.body with | some c => c | none => .skip
def N30 (x0 : Sl) (x1 : ByteArray) (h : Hp) (K : Sl → Hp → Prop) : Prop :=
  apK Tryd.prog 5 x0 (.string x1) h fun s0 h0 =>
  nw h0 (.cells ⟨[.int .u8 0]⟩ 5) fun b0 h1 =>
  apK Tryd.prog 5 s0 (.slice (some (bk b0)) 1 1) h1 fun s1 h2 =>
  K s1 h2
theorem S30 {x0 : Sl} {x1 : ByteArray} {h : Hp} {K : Sl → Hp → Prop} (hn : N30 x0 x1 h K) : C30 x0 x1 h K := by
  refine calls_of_D Tryd.func30 (c := B30) rfl (by kernel_rfl) ?_
  refine den_sound hE hm _ .leaf _ _ _ (annOk_leaf) ?_
  refine cast ?_ hn
  kernel_rfl
end Go.Proofs.YtedklcmdjoojfaaDoor

set_option linter.unusedVariables false
set_option maxRecDepth 100000
namespace Go.Proofs.YtedklcmdjoojfaaDoor
open Go Go.Hw
/-! ### 33 slipway/slipwayref17.word -/
noncomputable def B33 : Code := match Tryd.f33.body with | some c => c | none => .skip
def N33 (x0 : Sl) (x1 : Int) (h : Hp) (K : Sl → Hp → Prop) : Prop :=
  C55 (IntKind.wrap .u64 x1) 2 h fun s0 h0 =>
  C35 x0 s0 h0 fun s1 h1 =>
  K s1 h1
theorem S33 {x0 : Sl} {x1 : Int} {h : Hp} {K : Sl → Hp → Prop} (hn : N33 x0 x1 h K) : C33 x0 x1 h K := by
  refine calls_of_D Tryd.func33 (c := B33) rfl (by kernel_rfl) ?_
  refine den_sound hE hm _ .leaf _ _ _ (annOk_leaf) ?_
  refine cast ?_ hn
  kernel_rfl
end Go.Proofs.YtedklcmdjoojfaaDoor

set_option linter.unusedVariables false
set_option maxRecDepth 100000
namespace Go.Proofs.YtedklcmdjoojfaaDoor
open Go Go.Hw
/-! ### 34 slipway/slipwayref17.text -/
noncomputable def B34 : Code := match Tryd.f34.body with | some c => c | none => .skip
def N34 (x0 : Sl) (x1 : ByteArray) (h : Hp) (K : Sl → Hp → Prop) : Prop :=
  s2b 5 x1 h fun s0 h0 =>
  C35 x0 s0 h0 fun s1 h1 =>
  nw h1 (.cells ⟨[.int .u8 0]⟩ 5) fun b0 h2 =>
  apK Tryd.prog 5 s1 (.slice (some (bk b0)) 1 1) h2 fun s2 h3 =>
  K s2 h3
theorem S34 {x0 : Sl} {x1 : ByteArray} {h : Hp} {K : Sl → Hp → Prop} (hn : N34 x0 x1 h K) : C34 x0 x1 h K := by
  refine calls_of_D Tryd.func34 (c := B34) rfl (by kernel_rfl) ?_
  refine den_sound hE hm _ .leaf _ _ _ (annOk_leaf) ?_
  refine cast ?_ hn
  kernel_rfl
end Go.Proofs.YtedklcmdjoojfaaDoor

set_option linter.unusedVariables false
set_option maxRecDepth 100000
namespace Go.Proofs.YtedklcmdjoojfaaDoor
open Go Go.Hw
/-! ### 35 slipway/slipwayref17.add -/
noncomputable def B35 : Code := match Tryd.f35.body with | some c => c | none => .skip
def N35_l0_b (x1_b : Sl) (Φ : Sl → Int → Hp → Prop) (x0_out : Sl) (x5_i : Int) (h : Hp) (K_e0 : Sl → Hp → Prop) : Prop :=
  bif (decide (x5_i < ((x1_b.n : Nat) : Int))) then
    idx x5_i x1_b.n <|
    nn x1_b.p fun a0 =>
    xI .u8 (cell h (a0.add (x5_i.toNat * 1))) fun n0 =>
    nw h (.cells ⟨[.int .u8 n0]⟩ 5) fun b0 h0 =>
    apK Tryd.prog 5 x0_out (.slice (some (bk b0)) 1 1) h0 fun s0 h1 =>
    Φ s0 (IntKind.wrap .i64 (x5_i + 1)) h1
  else
    K_e0 x0_out h
def N35_l0_B (x1_b : Sl) (K_e0 : Sl → Hp → Prop) (s : Sg.T [(0, .c (.slice)), (5, .c (.int .i64))]) (h : Hp) (Φ : Sg.T [(0, .c (.slice)), (5, .c (.int .i64))] → Hp → Prop) : Prop :=
  N35_l0_b x1_b (fun x0_out x5_i h => Φ (x0_out, x5_i) h) s.1 s.2 h K_e0
def N35_l0 (x1_b : Sl) (x0_out : Sl) (x5_i : Int) (h : Hp) (K_e0 : Sl → Hp → Prop) : Prop :=
  loopP (N35_l0_B x1_b K_e0) (x0_out, x5_i) h
noncomputable def N35_l0_t : Xf := loopT [(1, .c (.slice))] [(0, .c (.slice)), (5, .c (.int .i64))] (codeAt B35 [1, 0, 1, 0, 0]) fun F Q => N35_l0_B F (fun o0 h' => Q (.exit 0) (Sg.env [(0, .c (.slice))] o0) h')
theorem N35_l0_ok : Sound Tryd.prog Tryd.f35.ntmps N35_l0_t (codeAt B35 [1, 0, 1, 0]) := by
  refine loop_sound (fun e => match e with | .exit 0 => [0] | _ => []) (by kernel_rfl) ?_
  intro F Q s h Φ hb
  refine den_sound hE hm _ .leaf _ _ _ (annOk_leaf) ?_
  refine cast ?_ hb
  kernel_rfl
def N35 (x0 : Sl) (x1 : Sl) (h : Hp) (K : Sl → Hp → Prop) : Prop :=
  N35_l0 x1 x0 0 h
    (fun s0 h0 =>
      K s0 h0)
theorem S35 {x0 : Sl} {x1 : Sl} {h : Hp} {K : Sl → Hp → Prop} (hn : N35 x0 x1 h K) : C35 x0 x1 h K := by
  refine calls_of_D Tryd.func35 (c := B35) rfl (by kernel_rfl) ?_
  refine den_sound hE hm _ (.two .leaf (.two (.two .leaf (.one (.xf N35_l0_t))) .leaf)) _ _ _ (⟨annOk_leaf, ⟨⟨annOk_leaf, N35_l0_ok⟩, annOk_leaf⟩⟩) ?_
  refine cast ?_ hn
  kernel_rfl
end Go.Proofs.YtedklcmdjoojfaaDoor

/-
  Bytes that grow: numbers, texts.
-/
set_option linter.unusedSimpArgs false
set_option linter.unusedVariables false
namespace Go.Proofs.YtedklcmdjoojfaaDoor
open Go Go.Hw

theorem set_snoc {α : Type} {M : List α} {j : Nat} {A B : α} (hj : j < M.length) : (M ++ [A]).set j B = M.set j B ++ [A] := by rw [List.set_append_left _ _ hj]
/-- the last of the list is let go -/
theorem sat_letgo {L M : List Asn} {A : Asn} {h : Hp} (hs : Sat (L ++ (M ++ [A])) h) : Sat (L ++ M) h := by
  rw [← List.append_assoc] at hs; exact hs.left
/-- a row of bytes grows by what a slice reads -/
theorem grow_sl {L M : List Asn} {s t : Sl} {l m : List UInt8} {h : Hp} {F : Sl → Hp → Prop} (hs : Sat (L ++ M) h) (j : Nat) (hj : M[j]? = some (Hw.own 5 1 s (bc l))) (T : RdB h t m) (hl : l.length + m.length ≤ 1099511627776)
    (hF : ∀ s' h', Sat (L ++ M.set j (Hw.own 5 1 s' (bc (l ++ m)))) h' → F s' h') : apK Tryd.prog 5 s (.slice t.p t.n t.c) h F := by
  have tn := T.n
  have sn : s.n = l.length := by have := (hs.own j hj).1; simp at this; omega
  refine hs.ap j hj (n := m.length) (ns := bc m) y_a y_zl (fun G => by show G t.n = _; rw [tn]) (fun G hG => T.srcK (s := t) (n := m.length) (Nat.le_refl _) (by rw [List.take_length]; exact hG)) (by simp) bc_plain (by rw [y_b]; omega) ?_
  intro s' h' hs' _
  rw [← bc_app] at hs'
  exact hF s' h' hs'
/-- by one byte -/
theorem grow_one {L M : List Asn} {s : Sl} {l : List UInt8} {b : UInt8} {n : Int} {h : Hp} {F : Sl → Hp → Prop} (hs : Sat (L ++ M) h) (j : Nat) (hj : M[j]? = some (Hw.own 5 1 s (bc l))) (hn : n = b.toNat) (hl : l.length ≤ 1099511627776)
    (hF : ∀ s' h', Sat (L ++ M.set j (Hw.own 5 1 s' (bc (l ++ [b])))) h' → F s' h') : nw h (.cells ⟨[.int .u8 n]⟩ 5) fun b0 h0 => apK Tryd.prog 5 s (.slice (some (bk b0)) 1 1) h0 F := by
  subst hn
  have sn : s.n = l.length := by have := (hs.own j hj).1; simp at this; omega
  refine hs.push j hj (k := 1) (ns := bc [b]) y_a y_zl rfl bc_plain (by rw [y_b]; omega) ?_
  intro s' h' hs' _
  rw [← bc_app] at hs'
  exact hF s' h' hs'
/-- by a text -/
theorem grow_str {L M : List Asn} {s : Sl} {l m : List UInt8} {h : Hp} {F : Sl → Hp → Prop} (hs : Sat (L ++ M) h) (j : Nat) (hj : M[j]? = some (Hw.own 5 1 s (bc l))) (hl : l.length + m.length ≤ 1099511627776)
    (hF : ∀ s' h', Sat (L ++ M.set j (Hw.own 5 1 s' (bc (l ++ m)))) h' → F s' h') : apK Tryd.prog 5 s (.string ⟨⟨m⟩⟩) h F := by
  have sn : s.n = l.length := by have := (hs.own j hj).1; simp at this; omega
  refine hs.ap j hj (n := m.length) (ns := bc m) y_a y_zl (fun G => rfl) (fun G hG => ?_) (by simp) bc_plain (by rw [y_b]; omega) ?_
  · unfold srcK
    simp only [bcells_bc]
    rw [List.take_of_length_le (by simp)]
    exact hG
  · intro s' h' hs' _
    rw [← bc_app] at hs'
    exact hF s' h' hs'
theorem c_number {L M : List Asn} {s : Sl} {l : List UInt8} {n : Int} {h : Hp} {K : Sl → Hp → Prop} (hs : Sat (L ++ M) h) (j : Nat) (hj : M[j]? = some (Hw.own 5 1 s (bc l))) (hl : l.length ≤ 1073741824) (n0 : 0 ≤ n) (n1 : n ≤ 65535)
    (hK : ∀ s' h', Sat (L ++ M.set j (Hw.own 5 1 s' (bc (l ++ be n.toNat 2)))) h' → K s' h') : C29 s n h K := by
  apply S29; unfold N29
  rw [wu64i n0 (by omega)]
  refine c_put n0 (by omega) ?_
  intro h2 c no
  have hjl := lt_of_get hj
  have hs2 := hs.addNew no
  have ep : putL n.toNat 2 = be n.toNat 2 := rfl
  rw [ep] at hs2
  have hr : RdB h2 c (be n.toNat 2) := by have := no.2.1.rdb; rwa [ep] at this
  refine grow_sl hs2 j (by rw [List.getElem?_append_left hjl]; exact hj) hr (by rw [be_len]; omega) ?_
  intro s' h' hs3
  rw [set_snoc hjl] at hs3
  exact hK s' h' (sat_letgo hs3)
theorem c_text {L M : List Asn} {s : Sl} {l : List UInt8} {t : ByteArray} {h : Hp} {K : Sl → Hp → Prop} (hs : Sat (L ++ M) h) (j : Nat) (hj : M[j]? = some (Hw.own 5 1 s (bc l))) (hl : l.length + t.size ≤ 1073741824)
    (hK : ∀ s' h', Sat (L ++ M.set j (Hw.own 5 1 s' (bc (l ++ (t.data.toList ++ [0]))))) h' → K s' h') : C30 s t h K := by
  apply S30; unfold N30
  obtain ⟨⟨m⟩⟩ := t
  have sz : (⟨⟨m⟩⟩ : ByteArray).size = m.length := rfl
  rw [sz] at hl
  have hjl := lt_of_get hj
  refine grow_str hs j hj (by omega) ?_
  intro s' h' hs'
  refine grow_one (b := 0) hs' j (by rw [List.getElem?_set_self hjl]) rfl (by simp; omega) ?_
  intro s2 h2 hs2
  rw [List.set_set, List.append_assoc] at hs2
  exact hK s2 h2 hs2
/-- the document's -/
theorem c_Add {L M : List Asn} {s t : Sl} {l m : List UInt8} {h : Hp} {K : Sl → Hp → Prop} (hs : Sat (L ++ M) h) (j : Nat) (hj : M[j]? = some (Hw.own 5 1 s (bc l))) (hl : l.length + m.length ≤ 1073741824)
    (T : ∀ (s' : Sl) (l' : List UInt8) h', Sat (L ++ M.set j (Hw.own 5 1 s' (bc l'))) h' → RdB h' t m)
    (hK : ∀ s' h', Sat (L ++ M.set j (Hw.own 5 1 s' (bc (l ++ m)))) h' → K s' h') : C35 s t h K := by
  apply S35; unfold N35 N35_l0
  have hjl := lt_of_get hj
  have hs0 : Sat (L ++ M.set j (Hw.own 5 1 s (bc l))) h := hs.imp j hj (A' := Hw.own 5 1 s (bc l)) (fun F hF => hF)
  have tn := (T s l h hs0).n
  refine loopP_inv (fun (x : Sl × Int) hc => ∃ i : Nat, x.2 = i ∧ i ≤ m.length ∧ Sat (L ++ M.set j (Hw.own 5 1 x.1 (bc (l ++ m.take i)))) hc) (fun x _ => m.length - x.2.toNat) ?_ ⟨0, rfl, Nat.zero_le _, by simpa using hs0⟩
  rintro ⟨q, x⟩ hc ⟨i, hx, hi, hs⟩
  simp only at hx
  subst hx
  unfold N35_l0_B N35_l0_b
  dsimp only
  by_cases hlt : i < m.length
  · have : decide ((i : Int) < ((t.n : Nat) : Int)) = true := decide_eq_true (by omega)
    rw [this, cond_true]
    refine (T _ _ _ hs).at (i := i) rfl hlt ?_
    refine grow_one (b := m[i]) hs j (by rw [List.getElem?_set_self hjl]) rfl (by simp; omega) ?_
    intro s2 h2 hs2
    rw [List.set_set, List.append_assoc, List.take_append_getElem hlt] at hs2
    rw [nat_succ64 (by omega)]
    exact ⟨⟨i + 1, rfl, hlt, hs2⟩, by simp only [Int.toNat_natCast]; omega⟩
  · have : decide ((i : Int) < ((t.n : Nat) : Int)) = false := decide_eq_false (by omega)
    rw [this, cond_false]
    rw [List.take_of_length_le (by omega)] at hs
    exact hK q hc hs
theorem c_Word {L M : List Asn} {s : Sl} {l : List UInt8} {n : Int} {h : Hp} {K : Sl → Hp → Prop} (hs : Sat (L ++ M) h) (j : Nat) (hj : M[j]? = some (Hw.own 5 1 s (bc l))) (hl : l.length ≤ 1073741820) (n0 : 0 ≤ n) (n1 : n ≤ 65535)
    (hK : ∀ s' h', Sat (L ++ M.set j (Hw.own 5 1 s' (bc (l ++ be n.toNat 2)))) h' → K s' h') : C33 s n h K := by
  apply S33; unfold N33
  rw [wu64i n0 (by omega)]
  refine c_Put n0 (by omega) ?_
  intro h2 c no
  have hjl := lt_of_get hj
  have hs2 := hs.addNew no
  have ep : putL n.toNat 2 = be n.toNat 2 := rfl
  rw [ep] at hs2
  refine c_Add hs2 j (by rw [List.getElem?_append_left hjl]; exact hj) (by rw [be_len]; omega) (m := be n.toNat 2) ?_ ?_
  · intro s' l' h' hs'
    rw [set_snoc hjl] at hs'
    have g : (M.set j (Hw.own 5 1 s' (bc l')) ++ [Hw.own 5 1 c (bc (be n.toNat 2))])[M.length]? = some (Hw.own 5 1 c (bc (be n.toNat 2))) := by rw [List.getElem?_append_right (by simp)]; simp
    exact (hs'.own M.length g).rdb
  · intro s' h' hs3
    rw [set_snoc hjl] at hs3
    exact hK s' h' (sat_letgo hs3)
theorem c_Text {L M : List Asn} {s : Sl} {l : List UInt8} {t : ByteArray} {h : Hp} {K : Sl → Hp → Prop} (hs : Sat (L ++ M) h) (j : Nat) (hj : M[j]? = some (Hw.own 5 1 s (bc l))) (hl : l.length + t.size ≤ 1073741820)
    (hK : ∀ s' h', Sat (L ++ M.set j (Hw.own 5 1 s' (bc (l ++ (t.data.toList ++ [0]))))) h' → K s' h') : C34 s t h K := by
  apply S34; unfold N34
  obtain ⟨⟨m⟩⟩ := t
  have sz : (⟨⟨m⟩⟩ : ByteArray).size = m.length := rfl
  rw [sz] at hl
  have hjl := lt_of_get hj
  refine hs.s2b ?_
  intro c h2 hs2
  refine c_Add hs2 j (by rw [List.getElem?_append_left hjl]; exact hj) (by omega) (m := m) ?_ ?_
  · intro s' l' h' hs'
    rw [set_snoc hjl] at hs'
    have g : (M.set j (Hw.own 5 1 s' (bc l')) ++ [Hw.byt 5 c m])[M.length]? = some (Hw.byt 5 c m) := by rw [List.getElem?_append_right (by simp)]; simp
    exact (hs'.byt M.length g).rdb
  · intro s' h' hs3
    rw [set_snoc hjl] at hs3
    refine grow_one (b := 0) (sat_letgo hs3) j (by rw [List.getElem?_set_self hjl]) rfl (by simp; omega) ?_
    intro s2 h3 hs4
    rw [List.set_set, List.append_assoc] at hs4
    exact hK s2 h3 hs4
end Go.Proofs.YtedklcmdjoojfaaDoor

set_option linter.unusedVariables false
set_option maxRecDepth 100000
namespace Go.Proofs.YtedklcmdjoojfaaDoor
open Go Go.Hw
/-! ### 11 slipway/tftp.Encode -/
noncomputable def B11 : Code := match Tryd.f11.body with | some c => c | none => .skip
def N11_l1_b (x52 : Sl) (x53 : Int) (Φ : Sl → Int → Hp → Prop) (x5_b : Sl) (x54 : Int) (h : Hp) (K_e1 : Sl → Hp → Prop) : Prop :=
  bif (decide (x54 < x53)) then
    idx x54 x52.n <|
    nn x52.p fun a0 =>
    xS (cell h (a0.add (x54.toNat * 2))) fun s0 =>
    xI .i64 (cell h ((a0.add (x54.toNat * 2)).add 1)) fun n0 =>
    nw h (.cells ⟨[.string (⟨⟨[]⟩⟩ : ByteArray), .int .i64 0]⟩ 56) fun b0 h0 =>
    st h0 (bk b0) (.string s0) fun h1 =>
    st h1 ((bk b0).add 1) (.int .i64 n0) fun h2 =>
    xS (cell h2 (bk b0)) fun s1 =>
    xI .i64 (cell h2 ((bk b0).add 1)) fun n1 =>
    C30 x5_b s1 h2 fun s2 h3 =>
    both (xI .i64 (cell h3 ((bk b0).add 1)) fun n2 => Only (.int .i64 n1) h3 (.int .i64 n2) h3) <|
    C31 n1 h3 fun s3 h4 =>
    C30 s2 s3 h4 fun s4 h5 =>
    Φ s4 (IntKind.wrap .i64 (x54 + 1)) h5
  else
    K_e1 x5_b h
def N11_l1_B (x52 : Sl) (x53 : Int) (K_e1 : Sl → Hp → Prop) (s : Sg.T [(5, .c (.slice)), (54, .c (.int .i64))]) (h : Hp) (Φ : Sg.T [(5, .c (.slice)), (54, .c (.int .i64))] → Hp → Prop) : Prop :=
  N11_l1_b x52 x53 (fun x5_b x54 h => Φ (x5_b, x54) h) s.1 s.2 h K_e1
def N11_l1 (x52 : Sl) (x53 : Int) (x5_b : Sl) (x54 : Int) (h : Hp) (K_e1 : Sl → Hp → Prop) : Prop :=
  loopP (N11_l1_B x52 x53 K_e1) (x5_b, x54) h
noncomputable def N11_l1_t : Xf := loopT [(52, .c (.slice)), (53, .c (.int .i64))] [(5, .c (.slice)), (54, .c (.int .i64))] (codeAt B11 [1, 1, 1, 1, 0, 1, 0, 0]) fun F Q => N11_l1_B F.1 F.2 (fun o0 h' => Q (.exit 1) (Sg.env [(5, .c (.slice))] o0) h')
theorem N11_l1_ok : Sound Tryd.prog Tryd.f11.ntmps N11_l1_t (codeAt B11 [1, 1, 1, 1, 0, 1, 0]) := by
  refine loop_sound (fun e => match e with | .exit 1 => [5] | _ => []) (by kernel_rfl) ?_
  intro F Q s h Φ hb
  refine den_sound hE hm _ (.two .leaf (.two .leaf (.two (.one (.two .leaf (.ord [0, 1, 2, 4, 5, 3, 6, 7, 8]))) .leaf))) _ _ _ (⟨annOk_leaf, ⟨annOk_leaf, ⟨⟨annOk_leaf, trivial⟩, annOk_leaf⟩⟩⟩) ?_
  refine cast ?_ hb
  kernel_rfl
def N11_j0 (x1_p : Option Addr) (x5_b : Sl) (h : Hp) (K_ret : Sl → Int → Hp → Prop) : Prop :=
  nn x1_p fun a0 =>
  xL (cell h (a0.add 3)) fun s0 =>
  N11_l1 s0 ((s0.n : Nat) : Int) x5_b 0 h
    (fun s1 h0 =>
      K_ret s1 0 h0)
noncomputable def N11_j0_t : Xf := pieceT [(1, .c (.ptr)), (5, .c (.slice))] (codeAt B11 [1, 1, 1, 1]) fun x h Q => N11_j0 x.1 x.2 h (fun o0 o1 h' => Q .ret (Sg.env [(2, .c (.slice)), (3, .c (.int .i64))] (o0, o1)) h')
theorem N11_j0_ok : Sound Tryd.prog Tryd.f11.ntmps N11_j0_t (codeAt B11 [1, 1, 1, 1]) := by
  refine piece_sound (fun e => match e with | .ret => [2, 3] | _ => []) ?_
  intro x h Q hb
  refine den_sound hE hm _ (.two (.two .leaf (.one (.xf N11_l1_t))) .leaf) _ _ _ (⟨⟨annOk_leaf, N11_l1_ok⟩, annOk_leaf⟩) ?_
  refine cast ?_ hb
  kernel_rfl
def N11 (x0_0 : Int) (x0_1 : ByteArray) (x0_2 : ByteArray) (x0_3 : Sl) (x0_4 : Int) (x0_5 : Sl) (x0_6 : Int) (x0_7 : ByteArray) (h : Hp) (K : Sl → Int → Hp → Prop) : Prop :=
  nw h (.cells ⟨[.int .i64 x0_0, .string x0_1, .string x0_2, .slice x0_3.p x0_3.n x0_3.c, .int .i64 x0_4, .slice x0_5.p x0_5.n x0_5.c, .int .i64 x0_6, .string x0_7]⟩ 26) fun b0 h0 =>
  xI .i64 (cell h0 (bk b0)) fun n0 =>
  xS (cell h0 ((bk b0).add 1)) fun s0 =>
  xS (cell h0 ((bk b0).add 2)) fun s1 =>
  xL (cell h0 ((bk b0).add 3)) fun s2 =>
  xI .i64 (cell h0 ((bk b0).add 4)) fun n1 =>
  xL (cell h0 ((bk b0).add 5)) fun s3 =>
  xI .i64 (cell h0 ((bk b0).add 6)) fun n2 =>
  xS (cell h0 ((bk b0).add 7)) fun s4 =>
  C28 n0 s0 s1 s2 n1 s3 n2 s4 h0 fun n3 h1 =>
  bif (n3 != 0) then
    K ⟨none, 0, 0⟩ n3 h1
  else
    xI .i64 (cell h1 (bk b0)) fun n4 =>
    C29 ⟨none, 0, 0⟩ n4 h1 fun s5 h2 =>
    xI .i64 (cell h2 (bk b0)) fun n5 =>
    bif (n5 == 3) then
      xI .i64 (cell h2 ((bk b0).add 4)) fun n6 =>
      xL (cell h2 ((bk b0).add 5)) fun s6 =>
      C29 s5 n6 h2 fun s7 h3 =>
      both (xL (cell h3 ((bk b0).add 5)) fun s8 => Only (.slice s6.p s6.n s6.c) h3 (.slice s8.p s8.n s8.c) h3) <|
      apK Tryd.prog 5 s7 (.slice s6.p s6.n s6.c) h3 fun s9 h4 =>
      K s9 0 h4
    else
      bif (n5 == 4) then
        xI .i64 (cell h2 ((bk b0).add 4)) fun n7 =>
        C29 s5 n7 h2 fun s10 h5 =>
        K s10 0 h5
      else
        bif (n5 == 5) then
          xI .i64 (cell h2 ((bk b0).add 6)) fun n8 =>
          xS (cell h2 ((bk b0).add 7)) fun s11 =>
          C29 s5 n8 h2 fun s12 h6 =>
          both (xS (cell h6 ((bk b0).add 7)) fun s13 => Only (.string s11) h6 (.string s13) h6) <|
          C30 s12 s11 h6 fun s14 h7 =>
          K s14 0 h7
        else
          bif (n5 == 1) then
            xS (cell h2 ((bk b0).add 1)) fun s15 =>
            xS (cell h2 ((bk b0).add 2)) fun s16 =>
            C30 s5 s15 h2 fun s17 h8 =>
            both (xS (cell h8 ((bk b0).add 2)) fun s18 => Only (.string s16) h8 (.string s18) h8) <|
            C30 s17 s16 h8 fun s19 h9 =>
            N11_j0 (some (bk b0)) s19 h9
              (fun s20 n9 h10 =>
                K s20 n9 h10)
          else
            N11_j0 (some (bk b0)) s5 h2
              (fun s21 n10 h11 =>
                K s21 n10 h11)
theorem S11 {x0_0 : Int} {x0_1 : ByteArray} {x0_2 : ByteArray} {x0_3 : Sl} {x0_4 : Int} {x0_5 : Sl} {x0_6 : Int} {x0_7 : ByteArray} {h : Hp} {K : Sl → Int → Hp → Prop} (hn : N11 x0_0 x0_1 x0_2 x0_3 x0_4 x0_5 x0_6 x0_7 h K) : C11 x0_0 x0_1 x0_2 x0_3 x0_4 x0_5 x0_6 x0_7 h K := by
  refine calls_of_D Tryd.func11 (c := B11) rfl (by kernel_rfl) ?_
  refine den_sound hE hm _ (.two .leaf (.two .leaf (.two .leaf (.two (.two .leaf (.one (.two .leaf (.two (.two (.ord [0, 1, 2, 4, 5, 3, 6, 7, 8]) .leaf) (.two .leaf (.two .leaf (.two .leaf (.two (.two (.ord [0, 1, 2, 4, 5, 3, 6, 7, 8]) .leaf) (.two .leaf (.two (.ord [0, 1, 2, 4, 5, 3, 6, 7]) .leaf)))))))))) (.xf N11_j0_t))))) _ _ _ (⟨annOk_leaf, ⟨annOk_leaf, ⟨annOk_leaf, ⟨⟨annOk_leaf, ⟨annOk_leaf, ⟨⟨trivial, annOk_leaf⟩, ⟨annOk_leaf, ⟨annOk_leaf, ⟨annOk_leaf, ⟨⟨trivial, annOk_leaf⟩, ⟨annOk_leaf, ⟨trivial, annOk_leaf⟩⟩⟩⟩⟩⟩⟩⟩⟩, N11_j0_ok⟩⟩⟩⟩) ?_
  refine cast ?_ hn
  kernel_rfl
end Go.Proofs.YtedklcmdjoojfaaDoor

set_option linter.unusedVariables false
set_option maxRecDepth 100000
namespace Go.Proofs.YtedklcmdjoojfaaDoor
open Go Go.Hw
/-! ### 14 slipway/slipwayref17.Encode -/
noncomputable def B14 : Code := match Tryd.f14.body with | some c => c | none => .skip
def N14_l1_b (x1_p : Option Addr) (Φ : Sl → Int → Hp → Prop) (x5_out : Sl) (x6_i : Int) (h : Hp) (K_e1 : Sl → Hp → Prop) : Prop :=
  nn x1_p fun a0 =>
  xL (cell h (a0.add 3)) fun s0 =>
  bif (decide (x6_i < ((s0.n : Nat) : Int))) then
    nn x1_p fun a1 =>
    xL (cell h (a1.add 3)) fun s1 =>
    idx x6_i s1.n <|
    nn s1.p fun a2 =>
    xS (cell h (a2.add (x6_i.toNat * 2))) fun s2 =>
    C34 x5_out s2 h fun s3 h0 =>
    nn x1_p fun a3 =>
    xL (cell h0 (a3.add 3)) fun s4 =>
    idx x6_i s4.n <|
    nn s4.p fun a4 =>
    xI .i64 (cell h0 ((a4.add (x6_i.toNat * 2)).add 1)) fun n0 =>
    C36 n0 h0 fun s5 h1 =>
    C34 s3 s5 h1 fun s6 h2 =>
    Φ s6 (IntKind.wrap .i64 (x6_i + 1)) h2
  else
    K_e1 x5_out h
def N14_l1_B (x1_p : Option Addr) (K_e1 : Sl → Hp → Prop) (s : Sg.T [(5, .c (.slice)), (6, .c (.int .i64))]) (h : Hp) (Φ : Sg.T [(5, .c (.slice)), (6, .c (.int .i64))] → Hp → Prop) : Prop :=
  N14_l1_b x1_p (fun x5_out x6_i h => Φ (x5_out, x6_i) h) s.1 s.2 h K_e1
def N14_l1 (x1_p : Option Addr) (x5_out : Sl) (x6_i : Int) (h : Hp) (K_e1 : Sl → Hp → Prop) : Prop :=
  loopP (N14_l1_B x1_p K_e1) (x5_out, x6_i) h
noncomputable def N14_l1_t : Xf := loopT [(1, .c (.ptr))] [(5, .c (.slice)), (6, .c (.int .i64))] (codeAt B14 [1, 1, 1, 1, 1, 0, 1, 0, 0]) fun F Q => N14_l1_B F (fun o0 h' => Q (.exit 1) (Sg.env [(5, .c (.slice))] o0) h')
theorem N14_l1_ok : Sound Tryd.prog Tryd.f14.ntmps N14_l1_t (codeAt B14 [1, 1, 1, 1, 1, 0, 1, 0]) := by
  refine loop_sound (fun e => match e with | .exit 1 => [5] | _ => []) (by kernel_rfl) ?_
  intro F Q s h Φ hb
  refine den_sound hE hm _ .leaf _ _ _ (annOk_leaf) ?_
  refine cast ?_ hb
  kernel_rfl
def N14_j0 (x1_p : Option Addr) (x5_out : Sl) (h : Hp) (K_ret : Sl → Int → Hp → Prop) : Prop :=
  N14_l1 x1_p x5_out 0 h
    (fun s0 h0 =>
      K_ret s0 0 h0)
noncomputable def N14_j0_t : Xf := pieceT [(1, .c (.ptr)), (5, .c (.slice))] (codeAt B14 [1, 1, 1, 1, 1]) fun x h Q => N14_j0 x.1 x.2 h (fun o0 o1 h' => Q .ret (Sg.env [(2, .c (.slice)), (3, .c (.int .i64))] (o0, o1)) h')
theorem N14_j0_ok : Sound Tryd.prog Tryd.f14.ntmps N14_j0_t (codeAt B14 [1, 1, 1, 1, 1]) := by
  refine piece_sound (fun e => match e with | .ret => [2, 3] | _ => []) ?_
  intro x h Q hb
  refine den_sound hE hm _ (.two (.two .leaf (.one (.xf N14_l1_t))) .leaf) _ _ _ (⟨⟨annOk_leaf, N14_l1_ok⟩, annOk_leaf⟩) ?_
  refine cast ?_ hb
  kernel_rfl
def N14 (x0_0 : Int) (x0_1 : ByteArray) (x0_2 : ByteArray) (x0_3 : Sl) (x0_4 : Int) (x0_5 : Sl) (x0_6 : Int) (x0_7 : ByteArray) (h : Hp) (K : Sl → Int → Hp → Prop) : Prop :=
  nw h (.cells ⟨[.int .i64 x0_0, .string x0_1, .string x0_2, .slice x0_3.p x0_3.n x0_3.c, .int .i64 x0_4, .slice x0_5.p x0_5.n x0_5.c, .int .i64 x0_6, .string x0_7]⟩ 26) fun b0 h0 =>
  xI .i64 (cell h0 (bk b0)) fun n0 =>
  xS (cell h0 ((bk b0).add 1)) fun s0 =>
  xS (cell h0 ((bk b0).add 2)) fun s1 =>
  xL (cell h0 ((bk b0).add 3)) fun s2 =>
  xI .i64 (cell h0 ((bk b0).add 4)) fun n1 =>
  xL (cell h0 ((bk b0).add 5)) fun s3 =>
  xI .i64 (cell h0 ((bk b0).add 6)) fun n2 =>
  xS (cell h0 ((bk b0).add 7)) fun s4 =>
  C32 n0 s0 s1 s2 n1 s3 n2 s4 h0 fun n3 h1 =>
  bif (n3 != 0) then
    K ⟨none, 0, 0⟩ n3 h1
  else
    xI .i64 (cell h1 (bk b0)) fun n4 =>
    C33 ⟨none, 0, 0⟩ n4 h1 fun s5 h2 =>
    xI .i64 (cell h2 (bk b0)) fun n5 =>
    bif (n5 == 1) then
      xS (cell h2 ((bk b0).add 1)) fun s6 =>
      C34 s5 s6 h2 fun s7 h3 =>
      xS (cell h3 ((bk b0).add 2)) fun s8 =>
      C34 s7 s8 h3 fun s9 h4 =>
      N14_j0 (some (bk b0)) s9 h4
        (fun s10 n6 h5 =>
          K s10 n6 h5)
    else
      bif (n5 == 3) then
        xI .i64 (cell h2 ((bk b0).add 4)) fun n7 =>
        C33 s5 n7 h2 fun s11 h6 =>
        xL (cell h6 ((bk b0).add 5)) fun s12 =>
        C35 s11 s12 h6 fun s13 h7 =>
        K s13 0 h7
      else
        bif (n5 == 4) then
          xI .i64 (cell h2 ((bk b0).add 4)) fun n8 =>
          C33 s5 n8 h2 fun s14 h8 =>
          K s14 0 h8
        else
          bif (n5 == 5) then
            xI .i64 (cell h2 ((bk b0).add 6)) fun n9 =>
            C33 s5 n9 h2 fun s15 h9 =>
            xS (cell h9 ((bk b0).add 7)) fun s16 =>
            C34 s15 s16 h9 fun s17 h10 =>
            K s17 0 h10
          else
            N14_j0 (some (bk b0)) s5 h2
              (fun s18 n10 h11 =>
                K s18 n10 h11)
theorem S14 {x0_0 : Int} {x0_1 : ByteArray} {x0_2 : ByteArray} {x0_3 : Sl} {x0_4 : Int} {x0_5 : Sl} {x0_6 : Int} {x0_7 : ByteArray} {h : Hp} {K : Sl → Int → Hp → Prop} (hn : N14 x0_0 x0_1 x0_2 x0_3 x0_4 x0_5 x0_6 x0_7 h K) : C14 x0_0 x0_1 x0_2 x0_3 x0_4 x0_5 x0_6 x0_7 h K := by
  refine calls_of_D Tryd.func14 (c := B14) rfl (by kernel_rfl) ?_
  refine den_sound hE hm _ (.two .leaf (.two .leaf (.two .leaf (.two .leaf (.two .leaf (.xf N14_j0_t)))))) _ _ _ (⟨annOk_leaf, ⟨annOk_leaf, ⟨annOk_leaf, ⟨annOk_leaf, ⟨annOk_leaf, N14_j0_ok⟩⟩⟩⟩⟩) ?_
  refine cast ?_ hn
  kernel_rfl
end Go.Proofs.YtedklcmdjoojfaaDoor

/-
  A packet's choices laid as bytes, by both.
-/
set_option linter.unusedSimpArgs false
set_option linter.unusedVariables false
namespace Go.Proofs.YtedklcmdjoojfaaDoor
open Go Go.Hw

def optB (o : Opt) : List UInt8 := (o.1.data.toList ++ [0]) ++ (Lib.decDigits o.2.toNat ++ [0])
def optsB (os : List Opt) : List UInt8 := os.flatMap optB
theorem optsB_step {os : List Opt} {i : Nat} (hi : i < os.length) : optsB (os.take (i + 1)) = optsB (os.take i) ++ optB os[i] := by
  unfold optsB
  rw [← List.take_append_getElem hi, List.flatMap_append, List.flatMap_cons, List.flatMap_nil, List.append_nil]
theorem optsB_le (os : List Opt) (i : Nat) : (optsB (os.take i)).length ≤ (optsB os).length := by
  have : optsB os = optsB (os.take i) ++ optsB (os.drop i) := by unfold optsB; rw [← List.flatMap_append, List.take_append_drop]
  rw [this]; simp
/-- one choice, copied into a row of its own -/
theorem rng_sat {L M : List Asn} {h : Hp} {s0 : ByteArray} {n0 : Int} {F : Nat → Hp → Prop} (hs : Sat (L ++ M) h) (hF : ∀ b h', Sat (L ++ (M ++ [row b 56 [.string s0, .int .i64 n0]])) h' → F b h') :
    nw h (.cells ⟨[.string (⟨⟨[]⟩⟩ : ByteArray), .int .i64 0]⟩ 56) fun b0 h0 => st h0 (bk b0) (.string s0) fun h1 => st h1 ((bk b0).add 1) (.int .i64 n0) (F b0) := by
  intro b0 e0
  have hs : Sat (L ++ (M ++ [row b0 56 [.string (⟨⟨[]⟩⟩ : ByteArray), .int .i64 0]])) _ := hs.new e0 _
  have get : ∀ A : Asn, (M ++ [A])[M.length]? = some A := fun A => by simp
  have set : ∀ A B : Asn, (M ++ [A]).set M.length B = M ++ [B] := fun A B => by simp
  revert hs
  generalize upd h b0 _ = h1
  intro hs
  simp only [add_bk]
  refine hs.st M.length (get _) (by simp) rfl ?_
  intro h2 hs; rw [set] at hs
  refine hs.st M.length (get _) (by simp) rfl ?_
  intro h3 hs; rw [set] at hs
  exact hF b0 h3 hs

theorem opts_impl {L M : List Asn} {j : Nat} {x3 q : Sl} {os : List Opt} {l : List UInt8} {h : Hp} {F : Sl → Hp → Prop} (hjl : j < M.length) (hs : Sat (L ++ M.set j (Hw.own 5 1 q (bc l))) h)
    (hT : ∀ q l' h', Sat (L ++ M.set j (Hw.own 5 1 q (bc l'))) h' → Glob h' ∧ RdO h' x3 os) (hlen : l.length + (optsB os).length ≤ 1073741000) (hos : os.length ≤ 4611686018427387904) (hv : ∀ o ∈ os, 0 ≤ o.2 ∧ o.2 ≤ 2147483647)
    (hF : ∀ q' h', Sat (L ++ M.set j (Hw.own 5 1 q' (bc (l ++ optsB os)))) h' → F q' h') : N11_l1 x3 ((x3.n : Nat) : Int) q 0 h F := by
  unfold N11_l1
  have hn := (hT _ _ _ hs).2.n
  refine loopP_inv (fun (x : Sl × Int) hc => ∃ i : Nat, x.2 = i ∧ i ≤ os.length ∧ Sat (L ++ M.set j (Hw.own 5 1 x.1 (bc (l ++ optsB (os.take i))))) hc) (fun x _ => os.length - x.2.toNat) ?_ ⟨0, rfl, Nat.zero_le _, by simpa [optsB] using hs⟩
  rintro ⟨q, x⟩ hc ⟨i, hx, hi, hs⟩
  simp only at hx
  subst hx
  unfold N11_l1_B N11_l1_b
  dsimp only
  by_cases hlt : i < os.length
  · have : decide ((i : Int) < ((x3.n : Nat) : Int)) = true := decide_eq_true (by omega)
    rw [this, cond_true]
    obtain ⟨g, H⟩ := hT _ _ _ hs
    have hstep := optsB_step hlt
    have hle := optsB_le os (i + 1)
    rw [hstep, List.length_append] at hle
    have hob : (optB os[i]).length = (os[i]).1.data.toList.length + 1 + ((Lib.decDigits (os[i]).2.toNat).length + 1) := by simp [optB]; omega
    obtain ⟨v0, v1⟩ := hv _ (List.getElem_mem hlt)
    refine H.at rfl hlt ?_
    intro a _ hs0 hv0
    rw [hs0, xS_some, hv0, xI_some]
    refine rng_sat hs ?_
    intro b h2 hs2
    have hb := hs2.blk (M.set j (Hw.own 5 1 q (bc (l ++ optsB (os.take i))))).length (by simp; rfl)
    rw [show cell h2 (bk b) = some (.string (os[i]).1) from by rw [show (bk b) = (⟨b, 0, none⟩ : Addr) from rfl, hb.cell]; rfl, xS_some]
    rw [show cell h2 ((bk b).add 1) = some (.int .i64 (os[i]).2) from by rw [add_bk, hb.cell]; rfl, xI_some]
    have hsz : (os[i]).1.size = (os[i]).1.data.toList.length := by show (os[i]).1.data.size = _; simp
    refine c_text hs2 j (by rw [List.getElem?_append_left (by simpa using hjl), List.getElem?_set_self hjl]) (by rw [List.length_append]; omega) ?_
    intro q2 h3 hs3
    rw [set_snoc (by simpa using hjl), List.set_set] at hs3
    have hb3 := hs3.blk M.length (by rw [List.getElem?_append_right (by simp)]; simp; rfl)
    refine ⟨by rw [show cell h3 ((bk b).add 1) = some (.int .i64 (os[i]).2) from by rw [add_bk, hb3.cell]; rfl]; exact ⟨rfl, rfl⟩, ?_⟩
    obtain ⟨g3, _⟩ := hT _ _ _ (sat_letgo hs3)
    refine c_itoa g3 (by omega) (by omega) ?_
    intro h4 e4
    have hs4 := (sat_letgo hs3).ext e4
    have eit : Lib.itoa (os[i]).2 = Lib.decDigits (os[i]).2.toNat := by
      obtain ⟨n, hn⟩ := Int.eq_ofNat_of_zero_le v0
      rw [hn]; rfl
    rw [eit]
    refine c_text (t := ⟨⟨Lib.decDigits (os[i]).2.toNat⟩⟩) hs4 j (by rw [List.getElem?_set_self hjl]) (by show _ + (Lib.decDigits (os[i]).2.toNat).length ≤ _; simp only [List.length_append, List.length_cons, List.length_nil]; omega) ?_
    intro q3 h5 hs5
    rw [List.set_set] at hs5
    rw [nat_succ64 (by omega)]
    refine ⟨⟨i + 1, rfl, hlt, ?_⟩, by simp only [Int.toNat_natCast]; omega⟩
    rw [hstep]
    have e : (l ++ optsB (os.take i) ++ ((os[i]).1.data.toList ++ [0])) ++ (Lib.decDigits (os[i]).2.toNat ++ [0]) = l ++ (optsB (os.take i) ++ optB os[i]) := by simp [optB]
    rw [← e]; exact hs5
  · have : decide ((i : Int) < ((x3.n : Nat) : Int)) = false := decide_eq_false (by omega)
    rw [this, cond_false]
    rw [List.take_of_length_le (by omega)] at hs
    exact hF q hc hs
/-- the document's -/
theorem opts_ref {L M : List Asn} {j : Nat} {p x3 q : Sl} {a : Addr} {os : List Opt} {l : List UInt8} {h : Hp} {F : Sl → Hp → Prop} (hjl : j < M.length) (hs : Sat (L ++ M.set j (Hw.own 5 1 q (bc l))) h)
    (hT : ∀ q l' h', Sat (L ++ M.set j (Hw.own 5 1 q (bc l'))) h' → RdO h' x3 os ∧ cell h' (a.add 3) = some x3.v) (hlen : l.length + (optsB os).length ≤ 1073741000) (hos : os.length ≤ 4611686018427387904) (hv : ∀ o ∈ os, 0 ≤ o.2 ∧ o.2 ≤ 2147483647)
    (hF : ∀ q' h', Sat (L ++ M.set j (Hw.own 5 1 q' (bc (l ++ optsB os)))) h' → F q' h') : N14_l1 (some a) q 0 h F := by
  unfold N14_l1
  have hn := (hT _ _ _ hs).1.n
  refine loopP_inv (fun (x : Sl × Int) hc => ∃ i : Nat, x.2 = i ∧ i ≤ os.length ∧ Sat (L ++ M.set j (Hw.own 5 1 x.1 (bc (l ++ optsB (os.take i))))) hc) (fun x _ => os.length - x.2.toNat) ?_ ⟨0, rfl, Nat.zero_le _, by simpa [optsB] using hs⟩
  rintro ⟨q, x⟩ hc ⟨i, hx, hi, hs⟩
  simp only at hx
  subst hx
  unfold N14_l1_B N14_l1_b
  dsimp only
  obtain ⟨H, ha⟩ := hT _ _ _ hs
  simp only [nn_some', ha, xL_v]
  by_cases hlt : i < os.length
  · have : decide ((i : Int) < ((x3.n : Nat) : Int)) = true := decide_eq_true (by omega)
    rw [this, cond_true]
    have hstep := optsB_step hlt
    have hle := optsB_le os (i + 1)
    rw [hstep, List.length_append] at hle
    have hob : (optB os[i]).length = (os[i]).1.data.toList.length + 1 + ((Lib.decDigits (os[i]).2.toNat).length + 1) := by simp [optB]; omega
    obtain ⟨v0, v1⟩ := hv _ (List.getElem_mem hlt)
    have hsz : (os[i]).1.size = (os[i]).1.data.toList.length := by show (os[i]).1.data.size = _; simp
    refine H.at rfl hlt ?_
    intro a0 _ hs0 _
    rw [hs0, xS_some]
    refine c_Text hs j (by rw [List.getElem?_set_self hjl]) (by rw [List.length_append]; omega) ?_
    intro q2 h3 hs3
    rw [List.set_set] at hs3
    obtain ⟨H3, ha3⟩ := hT _ _ _ hs3
    rw [ha3, xL_v]
    refine H3.at rfl hlt ?_
    intro a1 _ _ hv1
    rw [hv1, xI_some]
    obtain ⟨n, hn0⟩ := Int.eq_ofNat_of_zero_le v0
    rw [hn0]
    rw [hn0] at hob v1
    refine c_Decimal (by omega) ?_
    intro h4 e4
    have hs4 := hs3.ext e4
    simp only [Int.toNat_natCast] at hob
    refine c_Text (t := ⟨⟨Lib.decDigits n⟩⟩) hs4 j (by rw [List.getElem?_set_self hjl]) (by show _ + (Lib.decDigits n).length ≤ _; simp only [List.length_append, List.length_cons, List.length_nil]; omega) ?_
    intro q3 h5 hs5
    rw [List.set_set] at hs5
    rw [nat_succ64 (by omega)]
    refine ⟨⟨i + 1, rfl, hlt, ?_⟩, by simp only [Int.toNat_natCast]; omega⟩
    rw [hstep]
    have e : (l ++ optsB (os.take i) ++ ((os[i]).1.data.toList ++ [0])) ++ (Lib.decDigits n ++ [0]) = l ++ (optsB (os.take i) ++ optB os[i]) := by simp [optB, hn0]
    rw [← e]; exact hs5
  · have : decide ((i : Int) < ((x3.n : Nat) : Int)) = false := decide_eq_false (by omega)
    rw [this, cond_false]
    rw [List.take_of_length_le (by omega)] at hs
    exact hF q hc hs
end Go.Proofs.YtedklcmdjoojfaaDoor

/-
  A packet as bytes, by both.
-/
set_option linter.unusedSimpArgs false
set_option linter.unusedVariables false
namespace Go.Proofs.YtedklcmdjoojfaaDoor
open Go Go.Hw

/-- a packet's bytes -/
def encB (op : Int) (file mode : ByteArray) (os : List Opt) (block : Int) (data : List UInt8) (code : Int) (text : ByteArray) : List UInt8 :=
  if checkV op file mode os block data.length code text ≠ 0 then []
  else be op.toNat 2 ++ (if op = 3 then be block.toNat 2 ++ data else if op = 4 then be block.toNat 2 else if op = 5 then be code.toNat 2 ++ (text.data.toList ++ [0])
    else if op = 1 then (file.data.toList ++ [0]) ++ ((mode.data.toList ++ [0]) ++ optsB os) else optsB os)
theorem right_vals : ∀ (os pre : List Opt), rightL pre os = true → ∀ o ∈ os, 0 ≤ o.2 ∧ o.2 ≤ 2147483647
  | [], _, _, o, ho => by cases ho
  | x :: os, pre, h, o, ho => by
    simp only [rightL, right1, Bool.and_eq_true, decide_eq_true_eq] at h
    rcases List.mem_cons.1 ho with rfl | ho
    · exact ⟨h.1.2.2.1, h.1.2.2.2⟩
    · exact right_vals os _ h.2 o ho
theorem dec_lt : ∀ (k u : Nat), u < 10 ^ (k + 1) → (Lib.decDigits u).length ≤ k + 1
  | 0, u, h => by rw [dec_small (by simpa using h)]; simp
  | k + 1, u, h => by
    by_cases h1 : u < 10
    · rw [dec_small h1]; simp
    · rw [dec_big h1]
      have := dec_lt k (u / 10) (Nat.div_lt_of_lt_mul (by rw [Nat.mul_comm, ← Nat.pow_succ]; exact h))
      simp; omega
/-- how many names are left -/
def freshB (os : List Opt) (l : List UInt8) : Nat := if (os.all fun o => !(o.1.data.toList == l)) then 1 else 0
def leftB (os : List Opt) : Nat := freshB os blkS + freshB os winS + freshB os tsiS
theorem freshB_more (os : List Opt) (o : Opt) (l : List UInt8) : freshB (os ++ [o]) l ≤ freshB os l := by
  unfold freshB
  simp only [List.all_append]
  cases (os.all fun o => !(o.1.data.toList == l)) <;> simp <;> split <;> omega
theorem freshB_gone {os : List Opt} {o : Opt} {l : List UInt8} (e : o.1.data.toList = l) (hf : freshO os o.1 = true) : freshB (os ++ [o]) l + 1 ≤ freshB os l := by
  unfold freshB
  unfold freshO at hf
  rw [e] at hf
  rw [hf]
  simp [List.all_append, e]
theorem right_len : ∀ (os pre : List Opt), rightL pre os = true → (optsB os).length ≤ 22 * leftB pre ∧ os.length ≤ leftB pre
  | [], _, _ => by simp [optsB]
  | o :: os, pre, h => by
    simp only [rightL, right1, Bool.and_eq_true, decide_eq_true_eq] at h
    obtain ⟨⟨hk, hf, h0, h1⟩, hr⟩ := h
    obtain ⟨i1, i2⟩ := right_len os _ hr
    have hd := dec_lt 9 o.2.toNat (by omega)
    have a1 := freshB_more pre o blkS
    have a2 := freshB_more pre o winS
    have a3 := freshB_more pre o tsiS
    have e : (optsB (o :: os)).length = o.1.data.toList.length + 1 + ((Lib.decDigits o.2.toNat).length + 1) + (optsB os).length := by simp [optsB, optB]; omega
    have hs : o.1.data.toList.length ≤ 10 ∧ leftB (pre ++ [o]) + 1 ≤ leftB pre := by
      unfold known at hk
      simp only [Bool.or_eq_true, beq_iff_eq] at hk
      unfold leftB
      rcases hk with hk | hk | hk
      · have := freshB_gone hk hf; rw [hk]; exact ⟨by decide, by omega⟩
      · have := freshB_gone hk hf; rw [hk]; exact ⟨by decide, by omega⟩
      · have := freshB_gone hk hf; rw [hk]; exact ⟨by decide, by omega⟩
    rw [e]
    simp only [List.length_cons]
    omega
theorem right_small {os : List Opt} (h : rightO os = true) : (optsB os).length ≤ 66 := by
  have := (right_len os [] h).1
  have e : leftB [] = 3 := rfl
  omega
theorem file_small {s : ByteArray} (h : ¬ fileOk s = false) : s.size ≤ 64 := by
  rw [Bool.not_eq_false] at h
  simp only [fileOk, Bool.and_eq_true, decide_eq_true_eq] at h
  exact h.2.1
theorem mode_small {s : ByteArray} (h : ¬ (s.data.toList == octS) = false) : s.size ≤ 5 := by
  rw [Bool.not_eq_false, beq_iff_eq] at h
  have : s.size = s.data.toList.length := by show s.data.size = _; simp
  rw [this, h]; decide
/-- what a packet that may be laid is -/
theorem check0 {op : Int} {file mode : ByteArray} {os : List Opt} {block : Int} {dl : Nat} {code : Int} {text : ByteArray} (h : checkV op file mode os block dl code text = 0) :
    (op = 1 ∧ rightO os = true ∧ file.size ≤ 64 ∧ mode.size ≤ 5) ∨ (op = 6 ∧ rightO os = true) ∨ (op = 3 ∧ 0 ≤ block ∧ block ≤ 65535 ∧ dl ≤ 65464) ∨ (op = 4 ∧ 0 ≤ block ∧ block ≤ 65535) ∨ (op = 5 ∧ 0 ≤ code ∧ code ≤ 65535 ∧ text.size ≤ 255) := by
  unfold checkV at h
  split at h
  · rename_i e
    split at h
    · omega
    rename_i hf
    split at h
    · omega
    rename_i hm
    split at h
    · omega
    · rename_i hr; left; exact ⟨e, by simpa using hr, file_small hf, mode_small hm⟩
  split at h
  · rename_i e
    split at h
    · omega
    · rename_i hr; right; left; exact ⟨e, by simpa using hr⟩
  split at h
  · rename_i e
    split at h
    · omega
    split at h
    · omega
    split at h
    · omega
    · right; right; left; exact ⟨e, by omega, by omega, by omega⟩
  split at h
  · rename_i e
    split at h
    · omega
    split at h
    · omega
    · right; right; right; left; exact ⟨e, by omega, by omega⟩
  split at h
  · rename_i e
    split at h
    · omega
    split at h
    · omega
    split at h
    · omega
    split at h
    · omega
    · right; right; right; right; exact ⟨e, by omega, by omega, by omega⟩
  · omega
theorem encB_len (op : Int) (file mode : ByteArray) (os : List Opt) (block : Int) (data : List UInt8) (code : Int) (text : ByteArray) : (encB op file mode os block data code text).length ≤ 70000 := by
  have hf : file.size = file.data.toList.length := by show file.data.size = _; simp
  have hm : mode.size = mode.data.toList.length := by show mode.data.size = _; simp
  have ht : text.size = text.data.toList.length := by show text.data.size = _; simp
  unfold encB
  by_cases hv : checkV op file mode os block data.length code text = 0
  · rw [if_neg (by rw [hv]; simp)]
    rcases check0 hv with ⟨rfl, hr, k1, k2⟩ | ⟨rfl, hr⟩ | ⟨rfl, k0, k1, k2⟩ | ⟨rfl, k0, k1⟩ | ⟨rfl, k0, k1, k2⟩
    · have := right_small hr
      simp only [List.length_append, be_len, show ¬ ((1 : Int) = 3) from by omega, show ¬ ((1 : Int) = 4) from by omega, show ¬ ((1 : Int) = 5) from by omega, if_false, if_true, List.length_cons, List.length_nil]
      omega
    · have := right_small hr
      simp only [List.length_append, be_len, show ¬ ((6 : Int) = 3) from by omega, show ¬ ((6 : Int) = 4) from by omega, show ¬ ((6 : Int) = 5) from by omega, show ¬ ((6 : Int) = 1) from by omega, if_false]
      omega
    · simp only [List.length_append, be_len, if_true]
      omega
    · simp only [List.length_append, be_len, show ¬ ((4 : Int) = 3) from by omega, if_true, if_false]
      omega
    · simp only [List.length_append, be_len, show ¬ ((5 : Int) = 3) from by omega, show ¬ ((5 : Int) = 4) from by omega, if_true, if_false, List.length_cons, List.length_nil]
      omega
  · rw [if_pos hv]; simp

theorem c_Encode {op : Int} {file mode : ByteArray} {x3 : Sl} {block : Int} {x5 : Sl} {code : Int} {text : ByteArray} {os : List Opt} {data : List UInt8} {h : Hp} {K : Sl → Int → Hp → Prop} (H : RdO h x3 os) (D : RdB h x5 data)
    (hl : os.length ≤ 4611686018427387904) (hfs : file.size ≤ 9223372036854775806) (hts : text.size ≤ 9223372036854775806)
    (hK : ∀ h' s, NewO h h' 5 1 s (bc (encB op file mode os block data code text)) → K s (checkV op file mode os block data.length code text) h') : C14 op file mode x3 block x5 code text h K := by
  apply S14; unfold N14
  have dn := D.n
  intro b0 e0
  have hs : Sat ([] ++ [Hw.was h, row b0 26 (pkL op file mode x3 block x5 code text)]) (upd h b0 (.cells ⟨pkL op file mode x3 block x5 code text⟩ 26 (0, 0))) := Sat.start.new e0 _
  have es : (upd h b0 (.cells ⟨[.int .i64 op, .string file, .string mode, .slice x3.p x3.n x3.c, .int .i64 block, .slice x5.p x5.n x5.c, .int .i64 code, .string text]⟩ 26)) = upd h b0 (.cells ⟨pkL op file mode x3 block x5 code text⟩ 26 (0, 0)) := rfl
  rw [es]
  revert hs
  generalize upd h b0 _ = h0
  intro hs
  obtain ⟨c0, c1, c2, c3, c4, c5, c6, c7⟩ := pkC_of (hs.blk 1 rfl)
  simp only [c0, c1, c2, c3, c4, c5, c6, c7, xI_some, xS_some, xL_v]
  refine c_May (H.ext (hs.was 0 rfl)) (by omega) (by omega) (by omega) ?_
  intro h1 e1
  have hs := hs.ext e1
  rw [dn]
  by_cases hv : checkV op file mode os block data.length code text = 0
  · have e0 : (checkV op file mode os block data.length code text != 0) = false := by rw [hv]; rfl
    rw [e0, cond_false]
    have hop := check0 hv
    have hB : encB op file mode os block data code text = be op.toNat 2 ++ (if op = 3 then be block.toNat 2 ++ data else if op = 4 then be block.toNat 2 else if op = 5 then be code.toNat 2 ++ (text.data.toList ++ [0])
        else if op = 1 then (file.data.toList ++ [0]) ++ ((mode.data.toList ++ [0]) ++ optsB os) else optsB os) := by unfold encB; rw [if_neg (by rw [hv]; simp)]
    rw [hB, hv] at hK
    obtain ⟨c0, c1, c2, c3, c4, c5, c6, c7⟩ := pkC_of (hs.blk 1 rfl)
    rw [c0, xI_some]
    have hs : Sat ([] ++ [Hw.was h, row b0 26 (pkL op file mode x3 block x5 code text), Hw.own 5 1 ⟨none, 0, 0⟩ (bc [])]) h1 := hs.addNil 5 1
    refine c_Word hs 2 rfl (by simp) (by omega) (by omega) ?_
    intro s5 h2 hs
    have hs : Sat ([] ++ [Hw.was h, row b0 26 (pkL op file mode x3 block x5 code text), Hw.own 5 1 s5 (bc (be op.toNat 2))]) h2 := hs
    obtain ⟨c0, c1, c2, c3, c4, c5, c6, c7⟩ := pkC_of (hs.blk 1 rfl)
    have opts : ∀ (q : Sl) (l : List UInt8) (h3 : Hp), l.length ≤ 1073740000 → rightO os = true → Sat ([] ++ [Hw.was h, row b0 26 (pkL op file mode x3 block x5 code text), Hw.own 5 1 q (bc l)]) h3 →
        (∀ q' h', Sat ([] ++ [Hw.was h, row b0 26 (pkL op file mode x3 block x5 code text), Hw.own 5 1 q' (bc (l ++ optsB os))]) h' → K q' 0 h') → N14_j0 (some (bk b0)) q h3 K := by
      intro q l h3 hlen hr hs hF
      have hlen : l.length + (optsB os).length ≤ 1073741000 := by have := right_small hr; omega
      unfold N14_j0
      refine opts_ref (M := [Hw.was h, row b0 26 (pkL op file mode x3 block x5 code text), Hw.own 5 1 q (bc l)]) (j := 2) (p := q) (x3 := x3) (os := os) (l := l) (by simp) hs ?_ hlen hl (right_vals os [] hr) (fun q' h' hs' => hF q' h' hs')
      intro q' l' h' hs'
      have hs' : Sat ([] ++ [Hw.was h, row b0 26 (pkL op file mode x3 block x5 code text), Hw.own 5 1 q' (bc l')]) h' := hs'
      exact ⟨H.ext (hs'.was 0 rfl), (pkC_of (hs'.blk 1 rfl)).c3⟩
    rw [c0, xI_some]
    rcases hop with ⟨rfl, hr, hfs1, hms1⟩ | ⟨rfl, hr⟩ | ⟨rfl, g0, g1, hds1⟩ | ⟨rfl, g0, g1⟩ | ⟨rfl, g0, g1, hts1⟩
    · simp only [beq_self_eq_true, cond_true, c1, xS_some]
      refine c_Text hs 2 rfl (by rw [be_len]; omega) ?_
      intro s6 h3 hs
      have hs : Sat ([] ++ [Hw.was h, row b0 26 (pkL 1 file mode x3 block x5 code text), Hw.own 5 1 s6 (bc (be (1 : Int).toNat 2 ++ (file.data.toList ++ [0])))]) h3 := hs
      obtain ⟨c0, c1, c2, c3, c4, c5, c6, c7⟩ := pkC_of (hs.blk 1 rfl)
      rw [c2, xS_some]
      have hf : file.size = file.data.toList.length := by show file.data.size = _; simp
      have hm : mode.size = mode.data.toList.length := by show mode.data.size = _; simp
      refine c_Text hs 2 rfl (by simp only [List.length_append, be_len, List.length_cons, List.length_nil]; omega) ?_
      intro s7 h4 hs
      refine opts s7 ((be (1 : Int).toNat 2 ++ (file.data.toList ++ [0])) ++ (mode.data.toList ++ [0])) h4 (by simp only [List.length_append, be_len, List.length_cons, List.length_nil]; omega) hr hs ?_
      intro q' h' hs'
      refine hK h' q' ?_
      have := hs'.newO 0 2 rfl rfl (by omega)
      simpa [List.append_assoc] using this
    · simp only [show ((6 : Int) == 1) = false from rfl, show ((6 : Int) == 3) = false from rfl, show ((6 : Int) == 4) = false from rfl, show ((6 : Int) == 5) = false from rfl, cond_false]
      refine opts s5 _ h2 (by rw [be_len]; omega) hr hs ?_
      intro q' h' hs'
      refine hK h' q' ?_
      have := hs'.newO 0 2 rfl rfl (by omega)
      simpa [List.append_assoc] using this
    · simp only [show ((3 : Int) == 1) = false from rfl, beq_self_eq_true, cond_true, cond_false, c4, xI_some]
      refine c_Word hs 2 rfl (by rw [be_len]; omega) g0 g1 ?_
      intro s6 h3 hs
      have hs : Sat ([] ++ [Hw.was h, row b0 26 (pkL 3 file mode x3 block x5 code text), Hw.own 5 1 s6 (bc (be (3 : Int).toNat 2 ++ be block.toNat 2))]) h3 := hs
      obtain ⟨c0, c1, c2, c3, c4, c5, c6, c7⟩ := pkC_of (hs.blk 1 rfl)
      rw [c5, xL_v]
      refine c_Add hs 2 rfl (by simp only [List.length_append, be_len]; omega) (m := data) ?_ ?_
      · intro s' l' h' hs'
        have hs' : Sat ([] ++ [Hw.was h, row b0 26 (pkL 3 file mode x3 block x5 code text), Hw.own 5 1 s' (bc l')]) h' := hs'
        exact D.ext (hs'.was 0 rfl)
      · intro q' h' hs'
        refine hK h' q' ?_
        have := hs'.newO 0 2 rfl rfl (by omega)
        simpa [List.append_assoc] using this
    · simp only [show ((4 : Int) == 1) = false from rfl, show ((4 : Int) == 3) = false from rfl, beq_self_eq_true, cond_true, cond_false, c4, xI_some]
      refine c_Word hs 2 rfl (by rw [be_len]; omega) g0 g1 ?_
      intro q' h' hs'
      refine hK h' q' ?_
      have := hs'.newO 0 2 rfl rfl (by omega)
      simpa [List.append_assoc] using this
    · simp only [show ((5 : Int) == 1) = false from rfl, show ((5 : Int) == 3) = false from rfl, show ((5 : Int) == 4) = false from rfl, beq_self_eq_true, cond_true, cond_false, c6, xI_some]
      refine c_Word hs 2 rfl (by rw [be_len]; omega) g0 g1 ?_
      intro s6 h3 hs
      have hs : Sat ([] ++ [Hw.was h, row b0 26 (pkL 5 file mode x3 block x5 code text), Hw.own 5 1 s6 (bc (be (5 : Int).toNat 2 ++ be code.toNat 2))]) h3 := hs
      obtain ⟨c0, c1, c2, c3, c4, c5, c6, c7⟩ := pkC_of (hs.blk 1 rfl)
      rw [c7, xS_some]
      refine c_Text hs 2 rfl (by simp only [List.length_append, be_len]; omega) ?_
      intro q' h' hs'
      refine hK h' q' ?_
      have := hs'.newO 0 2 rfl rfl (by omega)
      simpa [List.append_assoc] using this
  · have e0 : (checkV op file mode os block data.length code text != 0) = true := by rw [bne_iff_ne]; exact hv
    rw [e0, cond_true]
    refine hK h1 _ ⟨hs.was 0 rfl, ?_, by intro b hb; cases hb⟩
    unfold encB
    rw [if_pos hv]
    exact Own.nil
/-- the program's -/
theorem c_encode {op : Int} {file mode : ByteArray} {x3 : Sl} {block : Int} {x5 : Sl} {code : Int} {text : ByteArray} {os : List Opt} {data : List UInt8} {h : Hp} {K : Sl → Int → Hp → Prop} (G : Glob h) (H : RdO h x3 os) (D : RdB h x5 data)
    (hl : os.length ≤ 4611686018427387904) (hfs : file.size ≤ 9223372036854775806) (hts : text.size ≤ 9223372036854775806)
    (hK : ∀ h' s, NewO h h' 5 1 s (bc (encB op file mode os block data code text)) → K s (checkV op file mode os block data.length code text) h') : C11 op file mode x3 block x5 code text h K := by
  apply S11; unfold N11
  have dn := D.n
  intro b0 e0
  have hs : Sat ([] ++ [Hw.was h, row b0 26 (pkL op file mode x3 block x5 code text)]) (upd h b0 (.cells ⟨pkL op file mode x3 block x5 code text⟩ 26 (0, 0))) := Sat.start.new e0 _
  have es : (upd h b0 (.cells ⟨[.int .i64 op, .string file, .string mode, .slice x3.p x3.n x3.c, .int .i64 block, .slice x5.p x5.n x5.c, .int .i64 code, .string text]⟩ 26)) = upd h b0 (.cells ⟨pkL op file mode x3 block x5 code text⟩ 26 (0, 0)) := rfl
  rw [es]
  revert hs
  generalize upd h b0 _ = h0
  intro hs
  obtain ⟨c0, c1, c2, c3, c4, c5, c6, c7⟩ := pkC_of (hs.blk 1 rfl)
  simp only [c0, c1, c2, c3, c4, c5, c6, c7, xI_some, xS_some, xL_v]
  refine c_check (H.ext (hs.was 0 rfl)) (by omega) ?_
  intro h1 e1
  have hs := hs.ext e1
  rw [dn]
  by_cases hv : checkV op file mode os block data.length code text = 0
  · have e0 : (checkV op file mode os block data.length code text != 0) = false := by rw [hv]; rfl
    rw [e0, cond_false]
    have hop := check0 hv
    have hB : encB op file mode os block data code text = be op.toNat 2 ++ (if op = 3 then be block.toNat 2 ++ data else if op = 4 then be block.toNat 2 else if op = 5 then be code.toNat 2 ++ (text.data.toList ++ [0])
        else if op = 1 then (file.data.toList ++ [0]) ++ ((mode.data.toList ++ [0]) ++ optsB os) else optsB os) := by unfold encB; rw [if_neg (by rw [hv]; simp)]
    rw [hB, hv] at hK
    obtain ⟨c0, c1, c2, c3, c4, c5, c6, c7⟩ := pkC_of (hs.blk 1 rfl)
    rw [c0, xI_some]
    have hs : Sat ([] ++ [Hw.was h, row b0 26 (pkL op file mode x3 block x5 code text), Hw.own 5 1 ⟨none, 0, 0⟩ (bc [])]) h1 := hs.addNil 5 1
    refine c_number hs 2 rfl (by simp) (by omega) (by omega) ?_
    intro s5 h2 hs
    have hs : Sat ([] ++ [Hw.was h, row b0 26 (pkL op file mode x3 block x5 code text), Hw.own 5 1 s5 (bc (be op.toNat 2))]) h2 := hs
    obtain ⟨c0, c1, c2, c3, c4, c5, c6, c7⟩ := pkC_of (hs.blk 1 rfl)
    have opts : ∀ (q : Sl) (l : List UInt8) (h3 : Hp), l.length ≤ 1073740000 → rightO os = true → Sat ([] ++ [Hw.was h, row b0 26 (pkL op file mode x3 block x5 code text), Hw.own 5 1 q (bc l)]) h3 →
        (∀ q' h', Sat ([] ++ [Hw.was h, row b0 26 (pkL op file mode x3 block x5 code text), Hw.own 5 1 q' (bc (l ++ optsB os))]) h' → K q' 0 h') → N11_j0 (some (bk b0)) q h3 K := by
      intro q l h3 hlen hr hs hF
      have hlen : l.length + (optsB os).length ≤ 1073741000 := by have := right_small hr; omega
      unfold N11_j0
      simp only [nn_some', (pkC_of (hs.blk 1 rfl)).c3, xL_v]
      refine opts_impl (M := [Hw.was h, row b0 26 (pkL op file mode x3 block x5 code text), Hw.own 5 1 q (bc l)]) (j := 2) (x3 := x3) (os := os) (l := l) (by simp) hs ?_ hlen hl (right_vals os [] hr) (fun q' h' hs' => hF q' h' hs')
      intro q' l' h' hs'
      have hs' : Sat ([] ++ [Hw.was h, row b0 26 (pkL op file mode x3 block x5 code text), Hw.own 5 1 q' (bc l')]) h' := hs'
      exact ⟨G.ext (hs'.was 0 rfl), H.ext (hs'.was 0 rfl)⟩
    rw [c0, xI_some]
    rcases hop with ⟨rfl, hr, hfs1, hms1⟩ | ⟨rfl, hr⟩ | ⟨rfl, g0, g1, hds1⟩ | ⟨rfl, g0, g1⟩ | ⟨rfl, g0, g1, hts1⟩
    · simp only [show ((1 : Int) == 3) = false from rfl, show ((1 : Int) == 4) = false from rfl, show ((1 : Int) == 5) = false from rfl, cond_false, beq_self_eq_true, cond_true, c1, c2, xS_some]
      refine c_text hs 2 rfl (by rw [be_len]; omega) ?_
      intro s6 h3 hs
      have hs : Sat ([] ++ [Hw.was h, row b0 26 (pkL 1 file mode x3 block x5 code text), Hw.own 5 1 s6 (bc (be (1 : Int).toNat 2 ++ (file.data.toList ++ [0])))]) h3 := hs
      obtain ⟨c0, c1, c2, c3, c4, c5, c6, c7⟩ := pkC_of (hs.blk 1 rfl)
      refine ⟨by rw [c2]; exact ⟨rfl, rfl⟩, ?_⟩
      have hf : file.size = file.data.toList.length := by show file.data.size = _; simp
      have hm : mode.size = mode.data.toList.length := by show mode.data.size = _; simp
      refine c_text hs 2 rfl (by simp only [List.length_append, be_len, List.length_cons, List.length_nil]; omega) ?_
      intro s7 h4 hs
      refine opts s7 ((be (1 : Int).toNat 2 ++ (file.data.toList ++ [0])) ++ (mode.data.toList ++ [0])) h4 (by simp only [List.length_append, be_len, List.length_cons, List.length_nil]; omega) hr hs ?_
      intro q' h' hs'
      refine hK h' q' ?_
      have := hs'.newO 0 2 rfl rfl (by omega)
      simpa [List.append_assoc] using this
    · simp only [show ((6 : Int) == 1) = false from rfl, show ((6 : Int) == 3) = false from rfl, show ((6 : Int) == 4) = false from rfl, show ((6 : Int) == 5) = false from rfl, cond_false]
      refine opts s5 _ h2 (by rw [be_len]; omega) hr hs ?_
      intro q' h' hs'
      refine hK h' q' ?_
      have := hs'.newO 0 2 rfl rfl (by omega)
      simpa [List.append_assoc] using this
    · simp only [beq_self_eq_true, cond_true, cond_false, c4, c5, xI_some, xL_v]
      refine c_number hs 2 rfl (by rw [be_len]; omega) g0 g1 ?_
      intro s6 h3 hs
      have hs : Sat ([] ++ [Hw.was h, row b0 26 (pkL 3 file mode x3 block x5 code text), Hw.own 5 1 s6 (bc (be (3 : Int).toNat 2 ++ be block.toNat 2))]) h3 := hs
      obtain ⟨c0, c1, c2, c3, c4, c5, c6, c7⟩ := pkC_of (hs.blk 1 rfl)
      refine ⟨by rw [c5]; exact ⟨rfl, rfl⟩, ?_⟩
      refine grow_sl hs 2 rfl (D.ext (hs.was 0 rfl)) (by simp only [List.length_append, be_len]; omega) ?_
      · intro q' h' hs'
        refine hK h' q' ?_
        have := hs'.newO 0 2 rfl rfl (by omega)
        simpa [List.append_assoc] using this
    · simp only [show ((4 : Int) == 3) = false from rfl, beq_self_eq_true, cond_true, cond_false, c4, xI_some]
      refine c_number hs 2 rfl (by rw [be_len]; omega) g0 g1 ?_
      intro q' h' hs'
      refine hK h' q' ?_
      have := hs'.newO 0 2 rfl rfl (by omega)
      simpa [List.append_assoc] using this
    · simp only [show ((5 : Int) == 3) = false from rfl, show ((5 : Int) == 4) = false from rfl, beq_self_eq_true, cond_true, cond_false, c6, c7, xI_some, xS_some]
      refine c_number hs 2 rfl (by rw [be_len]; omega) g0 g1 ?_
      intro s6 h3 hs
      have hs : Sat ([] ++ [Hw.was h, row b0 26 (pkL 5 file mode x3 block x5 code text), Hw.own 5 1 s6 (bc (be (5 : Int).toNat 2 ++ be code.toNat 2))]) h3 := hs
      obtain ⟨c0, c1, c2, c3, c4, c5, c6, c7⟩ := pkC_of (hs.blk 1 rfl)
      refine ⟨by rw [c7]; exact ⟨rfl, rfl⟩, ?_⟩
      refine c_text hs 2 rfl (by simp only [List.length_append, be_len]; omega) ?_
      intro q' h' hs'
      refine hK h' q' ?_
      have := hs'.newO 0 2 rfl rfl (by omega)
      simpa [List.append_assoc] using this
  · have e0 : (checkV op file mode os block data.length code text != 0) = true := by rw [bne_iff_ne]; exact hv
    rw [e0, cond_true]
    refine hK h1 _ ⟨hs.was 0 rfl, ?_, by intro b hb; cases hb⟩
    unfold encB
    rw [if_pos hv]
    exact Own.nil
end Go.Proofs.YtedklcmdjoojfaaDoor

set_option linter.unusedVariables false
set_option maxRecDepth 100000
namespace Go.Proofs.YtedklcmdjoojfaaDoor
open Go Go.Hw
/-! ### 58 (*slipway/tftp.reader).choices -/
noncomputable def B58 : Code := match Tryd.f58.body with | some c => c | none => .skip
def N58_l0_b (x0_r : Option Addr) (Φ : Sl → Int → Hp → Prop) (x4_out : Sl) (x5_bad : Int) (h : Hp) (K_e0 : Sl → Int → Hp → Prop) : Prop :=
  nn x0_r fun a0 =>
  xL (cell h a0) fun s0 =>
  bif (decide (((s0.n : Nat) : Int) > 0)) then
    C60 x0_r h fun s1 n0 h0 =>
    bif (n0 != 0) then
      K_e0 x4_out n0 h0
    else
      C60 x0_r h0 fun s2 n1 h1 =>
      bif (n1 != 0) then
        K_e0 x4_out n1 h1
      else
        C65 s1 h1 fun s3 h2 =>
        C44 s3 h2 fun b0 h3 =>
        bif (!b0) then
          Φ x4_out x5_bad h3
        else
          C66 s2 h3 fun n2 b1 h4 =>
          nw h4 (.cells ⟨[.string s3, .int .i64 n2]⟩ 56) fun b2 h5 =>
          apK Tryd.prog 56 x4_out (.slice (some (bk b2)) 1 1) h5 fun s4 h6 =>
          bif (!b1) then
            K_e0 s4 172 h6
          else
            C43 s4 (IntKind.wrap .i64 (((s4.n : Nat) : Int) - 1)) h6 fun b3 h7 =>
            bif (!b3) then
              K_e0 s4 172 h7
            else
              Φ s4 x5_bad h7
  else
    K_e0 x4_out x5_bad h
def N58_l0_B (x0_r : Option Addr) (K_e0 : Sl → Int → Hp → Prop) (s : Sg.T [(4, .c (.slice)), (5, .c (.int .i64))]) (h : Hp) (Φ : Sg.T [(4, .c (.slice)), (5, .c (.int .i64))] → Hp → Prop) : Prop :=
  N58_l0_b x0_r (fun x4_out x5_bad h => Φ (x4_out, x5_bad) h) s.1 s.2 h K_e0
def N58_l0 (x0_r : Option Addr) (x4_out : Sl) (x5_bad : Int) (h : Hp) (K_e0 : Sl → Int → Hp → Prop) : Prop :=
  loopP (N58_l0_B x0_r K_e0) (x4_out, x5_bad) h
noncomputable def N58_l0_t : Xf := loopT [(0, .c (.ptr))] [(4, .c (.slice)), (5, .c (.int .i64))] (codeAt B58 [1, 0, 1, 1, 1, 0, 0, 0]) fun F Q => N58_l0_B F (fun o0 o1 h' => Q (.exit 0) (Sg.env [(4, .c (.slice)), (5, .c (.int .i64))] (o0, o1)) h')
theorem N58_l0_ok : Sound Tryd.prog Tryd.f58.ntmps N58_l0_t (codeAt B58 [1, 0, 1, 1, 1, 0, 0]) := by
  refine loop_sound (fun e => match e with | .exit 0 => [4, 5] | _ => []) (by kernel_rfl) ?_
  intro F Q s h Φ hb
  refine den_sound hE hm _ .leaf _ _ _ (annOk_leaf) ?_
  refine cast ?_ hb
  kernel_rfl
def N58 (x0 : Option Addr) (h : Hp) (K : Sl → Int → Hp → Prop) : Prop :=
  N58_l0 x0 ⟨none, 0, 0⟩ 0 h
    (fun s0 n0 h0 =>
      bif (n0 != 0) then
        K ⟨none, 0, 0⟩ n0 h0
      else
        K s0 0 h0)
theorem S58 {x0 : Option Addr} {h : Hp} {K : Sl → Int → Hp → Prop} (hn : N58 x0 h K) : C58 x0 h K := by
  refine calls_of_D Tryd.func58 (c := B58) rfl (by kernel_rfl) ?_
  refine den_sound hE hm _ (.two .leaf (.one (.two .leaf (.two .leaf (.two .leaf (.two (.one (.xf N58_l0_t)) .leaf)))))) _ _ _ (⟨annOk_leaf, ⟨annOk_leaf, ⟨annOk_leaf, ⟨annOk_leaf, ⟨N58_l0_ok, annOk_leaf⟩⟩⟩⟩⟩) ?_
  refine cast ?_ hn
  kernel_rfl
end Go.Proofs.YtedklcmdjoojfaaDoor

set_option linter.unusedVariables false
set_option maxRecDepth 100000
namespace Go.Proofs.YtedklcmdjoojfaaDoor
open Go Go.Hw
/-! ### 41 slipway/slipwayref17.read -/
noncomputable def B41 : Code := match Tryd.f41.body with | some c => c | none => .skip
def N41_l0_b  (Φ : Sl → Sl → Hp → Prop) (x0_b : Sl) (x4_out : Sl) (h : Hp) (K_e0 : Sl → Hp → Prop) (K_ret : Sl → Int → Hp → Prop) : Prop :=
  bif (decide (((x0_b.n : Nat) : Int) > 0)) then
    C42 x0_b h fun s0 s1 b0 h0 =>
    C42 s1 h0 fun s2 s3 b1 h1 =>
    bif (!b0) then
      K_ret ⟨none, 0, 0⟩ 5 h1
    else
      bif (!b1) then
        K_ret ⟨none, 0, 0⟩ 5 h1
      else
        C61 s0 h1 fun s4 h2 =>
        C47 s4 h2 fun b2 h3 =>
        bif (!b2) then
          Φ s3 x4_out h3
        else
          C62 s2 h3 fun n0 b3 h4 =>
          nw h4 (.cells ⟨[.string s4, .int .i64 n0]⟩ 56) fun b4 h5 =>
          apK Tryd.prog 56 x4_out (.slice (some (bk b4)) 1 1) h5 fun s5 h6 =>
          C45 s5 (IntKind.wrap .i64 (((s5.n : Nat) : Int) - 1)) h6 fun b5 h7 =>
          bif (!b3) then
            K_ret ⟨none, 0, 0⟩ 172 h7
          else
            bif b5 then
              K_ret ⟨none, 0, 0⟩ 172 h7
            else
              Φ s3 s5 h7
  else
    K_e0 x4_out h
def N41_l0_B  (K_e0 : Sl → Hp → Prop) (K_ret : Sl → Int → Hp → Prop) (s : Sg.T [(0, .c (.slice)), (4, .c (.slice))]) (h : Hp) (Φ : Sg.T [(0, .c (.slice)), (4, .c (.slice))] → Hp → Prop) : Prop :=
  N41_l0_b  (fun x0_b x4_out h => Φ (x0_b, x4_out) h) s.1 s.2 h K_e0 K_ret
def N41_l0  (x0_b : Sl) (x4_out : Sl) (h : Hp) (K_e0 : Sl → Hp → Prop) (K_ret : Sl → Int → Hp → Prop) : Prop :=
  loopP (N41_l0_B  K_e0 K_ret) (x0_b, x4_out) h
noncomputable def N41_l0_t : Xf := loopT [] [(0, .c (.slice)), (4, .c (.slice))] (codeAt B41 [1, 1, 0, 0, 0]) fun F Q => N41_l0_B  (fun o0 h' => Q (.exit 0) (Sg.env [(4, .c (.slice))] o0) h') (fun o0 o1 h' => Q .ret (Sg.env [(2, .c (.slice)), (3, .c (.int .i64))] (o0, o1)) h')
theorem N41_l0_ok : Sound Tryd.prog Tryd.f41.ntmps N41_l0_t (codeAt B41 [1, 1, 0, 0]) := by
  refine loop_sound (fun e => match e with | .exit 0 => [4] | .ret => [2, 3] | _ => []) (by kernel_rfl) ?_
  intro F Q s h Φ hb
  refine den_sound hE hm _ .leaf _ _ _ (annOk_leaf) ?_
  refine cast ?_ hb
  kernel_rfl
def N41 (x0 : Sl) (h : Hp) (K : Sl → Int → Hp → Prop) : Prop :=
  N41_l0 x0 ⟨none, 0, 0⟩ h
    (fun s0 h0 =>
      K s0 0 h0)
    (fun s1 n0 h1 =>
      K s1 n0 h1)
theorem S41 {x0 : Sl} {h : Hp} {K : Sl → Int → Hp → Prop} (hn : N41 x0 h K) : C41 x0 h K := by
  refine calls_of_D Tryd.func41 (c := B41) rfl (by kernel_rfl) ?_
  refine den_sound hE hm _ (.two .leaf (.two .leaf (.two (.one (.xf N41_l0_t)) .leaf))) _ _ _ (⟨annOk_leaf, ⟨annOk_leaf, ⟨N41_l0_ok, annOk_leaf⟩⟩⟩) ?_
  refine cast ?_ hn
  kernel_rfl
end Go.Proofs.YtedklcmdjoojfaaDoor

/-
  Choices that are read: what bytes say (readL), and that both read it so.
-/
set_option linter.unusedSimpArgs false
set_option linter.unusedVariables false
namespace Go.Proofs.YtedklcmdjoojfaaDoor
open Go Go.Hw

def smallS (l : List UInt8) : ByteArray := ⟨⟨l.map smallB⟩⟩
/-- the choices that bytes say: an error's number, they -/
def readL (acc : List Opt) (l : List UInt8) : Int × List Opt :=
  if l = [] then (0, acc) else
  match h1 : cutL l with
  | none => (5, [])
  | some p => match h2 : cutL p.2 with
    | none => (5, [])
    | some q => if known (smallS p.1) = true then (match valL q.1 with
        | none => (172, [])
        | some n => if freshO acc (smallS p.1) = true then readL (acc ++ [(smallS p.1, (n : Int))]) q.2 else (172, []))
      else readL acc q.2
termination_by l.length
decreasing_by
  all_goals
    have a1 := cutL_len h1
    have a2 := cutL_len h2
    omega
theorem readL_nil (acc : List Opt) : readL acc [] = (0, acc) := by rw [readL, if_pos rfl]
theorem readL_cut1 {acc : List Opt} {l : List UInt8} (hl : l ≠ []) (h1 : cutL l = none) : readL acc l = (5, []) := by
  rw [readL, if_neg hl]
  split
  · rfl
  · rename_i p h; rw [h1] at h; cases h
theorem readL_cut2 {acc : List Opt} {l x y : List UInt8} (hl : l ≠ []) (h1 : cutL l = some (x, y)) (h2 : cutL y = none) : readL acc l = (5, []) := by
  rw [readL, if_neg hl]
  split
  · rfl
  · rename_i p h
    rw [h1] at h; cases h
    split
    · rfl
    · rename_i q h; rw [h2] at h; cases h
theorem readL_cut {acc : List Opt} {l x y u v : List UInt8} (hl : l ≠ []) (h1 : cutL l = some (x, y)) (h2 : cutL y = some (u, v)) :
    readL acc l = if known (smallS x) = true then (match valL u with
        | none => (172, [])
        | some n => if freshO acc (smallS x) = true then readL (acc ++ [(smallS x, (n : Int))]) v else (172, []))
      else readL acc v := by
  rw [readL, if_neg hl]
  split
  · rename_i h; rw [h1] at h; cases h
  · rename_i p h
    rw [h1] at h; cases h
    split
    · rename_i h; rw [h2] at h; cases h
    · rename_i q h
      rw [h2] at h; cases h
      rfl
theorem rdo_own {h : Hp} {T : TypeId} {s : Sl} {os : List Opt} (H : Own h T 2 s (os.flatMap oc)) : RdO h s os := by
  have hl : (os.flatMap oc).length = os.length * 2 := by
    induction os with
    | nil => rfl
    | cons o os ih => rw [List.flatMap_cons, List.length_append]; have e : (oc o).length = 2 := rfl; rw [e, List.length_cons]; have : (os.flatMap oc).length = os.length * 2 := by clear ih H; induction os with
        | nil => rfl
        | cons o os ih => rw [List.flatMap_cons, List.length_append]; have e : (oc o).length = 2 := rfl; rw [e, List.length_cons]; omega
                      omega
  refine ⟨?_, H.2.1, H.rdc⟩
  have := H.1
  omega
theorem oc_plainR {os : List Opt} : ∀ v ∈ os.flatMap oc, plain v = true := by
  intro v hv
  obtain ⟨o, _, ho⟩ := List.mem_flatMap.1 hv
  simp only [oc, List.mem_cons, List.not_mem_nil, or_false] at ho
  rcases ho with rfl | rfl <;> rfl
theorem oc_snoc (os : List Opt) (o : Opt) : os.flatMap oc ++ [.string o.1, .int .i64 o.2] = (os ++ [o]).flatMap oc := by rw [List.flatMap_append]; simp [oc]

theorem left_step {acc : List Opt} {x : ByteArray} {n : Int} (hk : known x = true) (hf : freshO acc x = true) : leftB (acc ++ [(x, n)]) + 1 ≤ leftB acc := by
  have a1 := freshB_more acc (x, n) blkS
  have a2 := freshB_more acc (x, n) winS
  have a3 := freshB_more acc (x, n) tsiS
  unfold known at hk
  simp only [Bool.or_eq_true, beq_iff_eq] at hk
  unfold leftB
  rcases hk with hk | hk
  · have := freshB_gone (os := acc) (o := (x, n)) hk hf; omega
  · rcases hk with hk | hk
    · have := freshB_gone (os := acc) (o := (x, n)) hk hf; omega
    · have := freshB_gone (os := acc) (o := (x, n)) hk hf; omega
theorem left_nil : leftB [] = 3 := by rfl
/-- how many bytes a reader has yet -/
def rdLeft (br : Nat) (h : Hp) : Nat := match cell h ⟨br, 0, none⟩ with
  | some (.slice _ n _) => n
  | _ => 0

theorem c_choices {L : List Asn} {br : Nat} {s : Sl} {l : List UInt8} {h : Hp} {K : Sl → Int → Hp → Prop} (hs : Sat (L ++ [row br 65 [s.v]]) h) (H : ∀ h', Sat L h' → RdS h' s l) (G : ∀ h', Sat L h' → Glob h') (hl : l.length ≤ 140737488355000)
    (hK : ∀ so sv h', Sat (L ++ [row br 65 [sv], Hw.own 56 2 so ((readL [] l).2.flatMap oc)]) h' → K so (readL [] l).1 h') : C58 (some (bk br)) h K := by
  apply S58; unfold N58 N58_l0
  have hs0 : Sat (L ++ [row br 65 [s.v], Hw.own 56 2 ⟨none, 0, 0⟩ (([] : List Opt).flatMap oc)]) h := hs.addNil 56 2
  refine loopP_inv (fun (x : Sl × Int) hc => x.2 = 0 ∧ ∃ (s' : Sl) (l' : List UInt8) (acc : List Opt), Sat (L ++ [row br 65 [s'.v], Hw.own 56 2 x.1 (acc.flatMap oc)]) hc ∧ (∀ h', Sat L h' → RdS h' s' l') ∧ readL acc l' = readL [] l ∧ acc.length + leftB acc ≤ 3 ∧ l'.length ≤ l.length) (fun _ hc => rdLeft br hc) ?_
    ⟨rfl, s, l, [], hs0, H, rfl, by rw [left_nil]; exact Nat.le_refl _, Nat.le_refl _⟩
  clear hs0
  rintro ⟨out, bad⟩ hc ⟨hb, s', l', acc, hs, H', hr, hlen, hlen2⟩
  have hb : bad = 0 := hb
  subst hb
  have hs : Sat (L ++ [row br 65 [s'.v], Hw.own 56 2 out (acc.flatMap oc)]) hc := hs
  have hleft : ∀ {h' : Hp} {t : Sl} {A : Asn}, Sat (L ++ [row br 65 [t.v], A]) h' → rdLeft br h' = t.n := by
    intro h' t A hs'
    unfold rdLeft
    rw [(hs'.blk 0 rfl).cell]; rfl
  have hm := hleft hs
  have sn : s'.n = l'.length := (H' hc hs.left).r.n
  have bad : ∀ (e : Int) (sv : Value) (A : Asn) (h' : Hp), e ≠ 0 → readL acc l' = (e, []) → Sat (L ++ [row br 65 [sv], A]) h' → ∀ o : Sl, bif (e != 0) then K ⟨none, 0, 0⟩ e h' else K o 0 h' := by
    intro e sv A h' he hrd hs' o
    rw [show (e != 0) = true by simpa using he, cond_true]
    have h1 : readL [] l = (e, []) := by rw [← hr]; exact hrd
    rw [h1] at hK
    have hs2 : Sat (L ++ [row br 65 [sv]]) h' := hs'.sel [0] (by decide) rfl
    exact hK ⟨none, 0, 0⟩ sv h' (hs2.addNil 56 2)
  unfold N58_l0_B N58_l0_b
  simp only [nn_some']
  refine hs.lL 0 rfl rfl ?_
  by_cases hl0 : l' = []
  · have : s'.n = 0 := by rw [sn, hl0]; rfl
    simp only [this]
    rw [show decide (((0 : Nat) : Int) > 0) = false from rfl, cond_false]
    rw [show ((0 : Int) != 0) = false from rfl, cond_false]
    rw [hl0, readL_nil] at hr
    rw [← hr] at hK
    exact hK out _ hc hs
  · have hpos : 0 < l'.length := by cases l' with
      | nil => exact absurd rfl hl0
      | cons => simp
    rw [show decide (((s'.n : Nat) : Int) > 0) = true from decide_eq_true (by omega), cond_true]
    have hs1 : Sat ((L ++ [Hw.own 56 2 out (acc.flatMap oc)]) ++ [row br 65 [s'.v]]) hc := Sat.csa (hs.sel [1, 0] (by decide) rfl)
    refine c_rtext (Q := Sat L) hs1 (fun h' g => g.left) H' (by omega) ?_ ?_
    · intro hcut h1 g1
      rw [show ((5 : Int) != 0) = true from rfl, cond_true]
      exact bad 5 _ _ h1 (by decide) (readL_cut1 hl0 hcut) ((Sat.asc g1).sel [1, 0] (by decide) rfl) out
    · intro x y s1 hcut H1 h1 g1
      rw [show ((0 : Int) != 0) = false from rfl, cond_false]
      have l1 := cutL_len hcut
      refine c_rtext (Q := Sat L) g1 (fun h' g => g.left) H1 (by omega) ?_ ?_
      · intro hcut2 h2 g2
        rw [show ((5 : Int) != 0) = true from rfl, cond_true]
        exact bad 5 _ _ h2 (by decide) (readL_cut2 hl0 hcut hcut2) ((Sat.asc g2).sel [1, 0] (by decide) rfl) out
      · intro u v s2 hcut2 H2 h2 g2
        rw [show ((0 : Int) != 0) = false from rfl, cond_false]
        have l2 := cutL_len hcut2
        have e0 := readL_cut (acc := acc) hl0 hcut hcut2
        have H2' : ∀ h', Sat L h' → RdS h' s2 v := H2
        have g2 : Sat (L ++ [row br 65 [s2.v], Hw.own 56 2 out (acc.flatMap oc)]) h2 := (Sat.asc g2).sel [1, 0] (by decide) rfl
        refine c_lower ?_
        intro h3 he3
        have g3 := g2.ext he3
        refine c_known ?_
        show bif (!known (smallS x)) then _ else _
        cases hk : known (smallS x) with
        | false =>
          rw [hk] at e0
          simp only [Bool.false_eq_true, if_false] at e0
          simp only [Bool.not_false, cond_true]
          exact ⟨⟨trivial, s2, v, acc, g3, H2', by rw [← e0]; exact hr, hlen, by omega⟩, by rw [hleft g3, hm]; have := (H2' h3 g3.left).r.n; omega⟩
        | true =>
          rw [hk] at e0
          simp only [if_true] at e0
          simp only [Bool.not_true, cond_false]
          have on : out.n = acc.length := (rdo_own (g3.own 1 rfl)).n
          refine c_value (G h3 g3.left) ?_ ?_
          · intro hv n h4 he4
            have g4 := g3.ext he4
            rw [hv] at e0
            refine g4.push (k := 1) (sz := 2) 1 rfl (by kernel_rfl) (by kernel_rfl) rfl (by simp [plain]) (by rw [show Tryd.prog.bytesOf 56 = 24 by kernel_rfl]; omega) ?_
            intro s4 h5 g5 _
            simp only [Bool.not_false, cond_true]
            exact bad 172 _ _ h5 (by decide) e0 g5 s4
          · intro n hv h4 he4
            have g4 := g3.ext he4
            rw [hv] at e0
            refine g4.push (k := 1) (sz := 2) 1 rfl (by kernel_rfl) (by kernel_rfl) rfl (by simp [plain]) (by rw [show Tryd.prog.bytesOf 56 = 24 by kernel_rfl]; omega) ?_
            intro s4 h5 g5 hn4
            simp only [Bool.not_true, cond_false]
            have g5 : Sat (L ++ [row br 65 [s2.v], Hw.own 56 2 s4 (acc.flatMap oc ++ [.string (smallS x), .int .i64 (n : Int)])]) h5 := g5
            rw [oc_snoc acc (smallS x, (n : Int))] at g5
            have ho := rdo_own (g5.own 1 rfl)
            have hn5 : s4.n = acc.length + 1 := by rw [ho.n]; simp
            rw [show IntKind.wrap .i64 (((s4.n : Nat) : Int) - 1) = (acc.length : Int) by rw [wrap64 (by omega) (by omega)]; omega]
            refine c_first ho (by simp; omega) rfl (by simp) ?_
            intro h6 he6
            have g6 := g5.ext he6
            have ef : freshO ((acc ++ [(smallS x, (n : Int))]).take acc.length) ((acc ++ [(smallS x, (n : Int))])[acc.length]'(by simp)).1 = freshO acc (smallS x) := by simp
            rw [ef]
            cases hf : freshO acc (smallS x) with
            | true =>
              rw [hf] at e0
              simp only [if_true] at e0
              simp only [Bool.not_true, cond_false]
              exact ⟨⟨trivial, s2, v, acc ++ [(smallS x, (n : Int))], g6, H2', by rw [← e0]; exact hr, by have := left_step (n := (n : Int)) hk hf; simp only [List.length_append, List.length_singleton]; omega, by omega⟩, by rw [hleft g6, hm]; have := (H2' h6 g6.left).r.n; omega⟩
            | false =>
              rw [hf] at e0
              simp only [Bool.false_eq_true, if_false] at e0
              simp only [Bool.not_false, cond_true]
              exact bad 172 _ _ h6 (by decide) e0 g6 s4

theorem c_read {L : List Asn} {s : Sl} {l : List UInt8} {h : Hp} {K : Sl → Int → Hp → Prop} (hs : Sat (L ++ []) h) (H : ∀ h', Sat L h' → RdS h' s l) (hl : l.length ≤ 140737488355000)
    (hK : ∀ so h', Sat (L ++ [Hw.own 56 2 so ((readL [] l).2.flatMap oc)]) h' → K so (readL [] l).1 h') : C41 s h K := by
  apply S41; unfold N41 N41_l0
  have hs0 : Sat (L ++ [Hw.own 56 2 ⟨none, 0, 0⟩ (([] : List Opt).flatMap oc)]) h := hs.addNil 56 2
  refine loopP_inv (fun (x : Sl × Sl) hc => ∃ (l' : List UInt8) (acc : List Opt), Sat (L ++ [Hw.own 56 2 x.2 (acc.flatMap oc)]) hc ∧ (∀ h', Sat L h' → RdS h' x.1 l') ∧ readL acc l' = readL [] l ∧ acc.length + leftB acc ≤ 3 ∧ l'.length ≤ l.length) (fun x _ => x.1.n) ?_
    ⟨l, [], hs0, H, rfl, by rw [left_nil]; exact Nat.le_refl _, Nat.le_refl _⟩
  clear hs0
  rintro ⟨s', out⟩ hc ⟨l', acc, hs, H', hr, hlen, hlen2⟩
  have hs : Sat (L ++ [Hw.own 56 2 out (acc.flatMap oc)]) hc := hs
  have H' : ∀ h', Sat L h' → RdS h' s' l' := H'
  have sn : s'.n = l'.length := (H' hc hs.left).r.n
  have bad : ∀ (e : Int) (A : Asn) (h' : Hp), readL acc l' = (e, []) → Sat (L ++ [A]) h' → K ⟨none, 0, 0⟩ e h' := by
    intro e A h' hrd hs'
    have h1 : readL [] l = (e, []) := by rw [← hr]; exact hrd
    rw [h1] at hK
    have hs2 : Sat (L ++ []) h' := hs'.sel [] (by decide) rfl
    exact hK ⟨none, 0, 0⟩ h' (hs2.addNil 56 2)
  unfold N41_l0_B N41_l0_b
  by_cases hl0 : l' = []
  · have : s'.n = 0 := by rw [sn, hl0]; rfl
    simp only [this]
    rw [show decide (((0 : Nat) : Int) > 0) = false from rfl, cond_false]
    rw [hl0, readL_nil] at hr
    rw [← hr] at hK
    exact hK out hc hs
  · have hpos : 0 < l'.length := by cases l' with
      | nil => exact absurd rfl hl0
      | cons => simp
    rw [show decide (((s'.n : Nat) : Int) > 0) = true from decide_eq_true (by omega), cond_true]
    refine c_Cut (H' hc hs.left).r (by omega) ?_ ?_
    · intro hcut
      have hnil : RdB hc ⟨none, 0, 0⟩ [] := RdB.nil
      refine c_Cut hnil (by simp) ?_ ?_
      · intro _
        simp only [Bool.not_false, cond_true]
        exact bad 5 _ hc (readL_cut1 hl0 hcut) hs
      · intro o ho; simp at ho
    · intro o ho hcut
      have l1 := cutL_len hcut
      have H1 : ∀ h', Sat L h' → RdS h' ⟨sadr s'.p s'.c (o + 1) 1, s'.n - (o + 1), s'.c - (o + 1)⟩ (l'.drop (o + 1)) := fun h' g => rds_tail (H' h' g) ho
      generalize l'.take o = x at hcut l1
      generalize l'.drop (o + 1) = y at hcut l1 H1
      generalize (⟨sadr s'.p s'.c (o + 1) 1, s'.n - (o + 1), s'.c - (o + 1)⟩ : Sl) = s1 at H1
      refine c_Cut (H1 hc hs.left).r (by omega) ?_ ?_
      · intro hcut2
        simp only [Bool.not_true, Bool.not_false, cond_true, cond_false]
        exact bad 5 _ hc (readL_cut2 hl0 hcut hcut2) hs
      · intro o2 ho2 hcut2
        have l2 := cutL_len hcut2
        have H2 : ∀ h', Sat L h' → RdS h' ⟨sadr s1.p s1.c (o2 + 1) 1, s1.n - (o2 + 1), s1.c - (o2 + 1)⟩ (y.drop (o2 + 1)) := fun h' g => rds_tail (H1 h' g) ho2
        generalize y.take o2 = u at hcut2 l2
        generalize y.drop (o2 + 1) = v at hcut2 l2 H2
        generalize (⟨sadr s1.p s1.c (o2 + 1) 1, s1.n - (o2 + 1), s1.c - (o2 + 1)⟩ : Sl) = s2 at H2
        simp only [Bool.not_true, cond_false]
        have e0 := readL_cut (acc := acc) hl0 hcut hcut2
        refine c_Small (by omega) ?_
        intro h3 he3
        have g3 := hs.ext he3
        refine c_Known ?_
        show bif (!known (smallS x)) then _ else _
        have step : ∀ {h' : Hp}, Sat L h' → s2.n < s'.n := fun g => by have := (H2 _ g).r.n; omega
        cases hk : known (smallS x) with
        | false =>
          rw [hk] at e0
          simp only [Bool.false_eq_true, if_false] at e0
          simp only [Bool.not_false, cond_true]
          exact ⟨⟨v, acc, g3, H2, by rw [← e0]; exact hr, hlen, by omega⟩, step g3.left⟩
        | true =>
          rw [hk] at e0
          simp only [if_true] at e0
          simp only [Bool.not_true, cond_false]
          have on : out.n = acc.length := (rdo_own (g3.own 0 rfl)).n
          have two : ∀ (n : Int) (good : Bool) (h4 : Hp), Ext none' h3 h4 → (∀ s4 h5, Sat (L ++ [Hw.own 56 2 s4 ((acc ++ [(smallS x, n)]).flatMap oc)]) h5 → bif !good then K ⟨none, 0, 0⟩ 172 h5 else bif !freshO acc (smallS x) then K ⟨none, 0, 0⟩ 172 h5 else (∃ (l' : List UInt8) (acc : List Opt), Sat (L ++ [Hw.own 56 2 s4 (acc.flatMap oc)]) h5 ∧ (∀ h', Sat L h' → RdS h' s2 l') ∧ readL acc l' = readL [] l ∧ acc.length + leftB acc ≤ 3 ∧ l'.length ≤ l.length) ∧ s2.n < s'.n) →
              nw h4 (.cells ⟨[.string (smallS x), .int .i64 n]⟩ 56) fun b4 h5 => apK Tryd.prog 56 out (.slice (some (bk b4)) 1 1) h5 fun s5 h6 => C45 s5 (IntKind.wrap .i64 (((s5.n : Nat) : Int) - 1)) h6 fun b5 h7 => bif !good then K ⟨none, 0, 0⟩ 172 h7 else bif b5 then K ⟨none, 0, 0⟩ 172 h7 else (∃ (l' : List UInt8) (acc : List Opt), Sat (L ++ [Hw.own 56 2 s5 (acc.flatMap oc)]) h7 ∧ (∀ h', Sat L h' → RdS h' s2 l') ∧ readL acc l' = readL [] l ∧ acc.length + leftB acc ≤ 3 ∧ l'.length ≤ l.length) ∧ s2.n < s'.n := by
            intro n good h4 he4 fin
            have g4 := g3.ext he4
            refine g4.push (k := 1) (sz := 2) 0 rfl (by kernel_rfl) (by kernel_rfl) rfl (by simp [plain]) (by rw [show Tryd.prog.bytesOf 56 = 24 by kernel_rfl]; omega) ?_
            intro s4 h5 g5 hn4
            have g5 : Sat (L ++ [Hw.own 56 2 s4 (acc.flatMap oc ++ [.string (smallS x), .int .i64 n])]) h5 := g5
            rw [oc_snoc acc (smallS x, n)] at g5
            have ho := rdo_own (g5.own 0 rfl)
            have hn5 : s4.n = acc.length + 1 := by rw [ho.n]; simp
            rw [show IntKind.wrap .i64 (((s4.n : Nat) : Int) - 1) = (acc.length : Int) by rw [wrap64 (by omega) (by omega)]; omega]
            refine c_Twice ho (by simp; omega) rfl (by simp) ?_
            have ef : freshO ((acc ++ [(smallS x, n)]).take acc.length) ((acc ++ [(smallS x, n)])[acc.length]'(by simp)).1 = freshO acc (smallS x) := by simp
            rw [ef]
            exact fin s4 h5 g5
          refine c_Value ?_ ?_
          · intro hv n h4 he4
            rw [hv] at e0
            refine two n false h4 he4 ?_
            intro s4 h5 g5
            simp only [Bool.not_false, cond_true]
            exact bad 172 _ h5 e0 g5
          · intro n hv h4 he4
            rw [hv] at e0
            refine two n true h4 he4 ?_
            intro s4 h5 g5
            simp only [Bool.not_true, cond_false]
            cases hf : freshO acc (smallS x) with
            | true =>
              rw [hf] at e0
              simp only [if_true] at e0
              simp only [Bool.not_true, cond_false]
              exact ⟨⟨v, acc ++ [(smallS x, (n : Int))], g5, H2, by rw [← e0]; exact hr, by have := left_step (n := (n : Int)) hk hf; simp only [List.length_append, List.length_singleton]; omega, by omega⟩, step g5.left⟩
            | false =>
              rw [hf] at e0
              simp only [Bool.false_eq_true, if_false] at e0
              simp only [Bool.not_false, cond_true]
              exact bad 172 _ h5 e0 g5
end Go.Proofs.YtedklcmdjoojfaaDoor

set_option linter.unusedVariables false
set_option maxRecDepth 100000
namespace Go.Proofs.YtedklcmdjoojfaaDoor
open Go Go.Hw
/-! ### 38 (*slipway/tftp.reader).number -/
noncomputable def B38 : Code := match Tryd.f38.body with | some c => c | none => .skip
def N38 (x0 : Option Addr) (h : Hp) (K : Int → Int → Hp → Prop) : Prop :=
  nn x0 fun a0 =>
  xL (cell h a0) fun s0 =>
  C56 s0 0 2 h fun n0 n1 h0 =>
  bif (n1 != 0) then
    K 0 5 h0
  else
    nn x0 fun a1 =>
    xL (cell h0 a1) fun s1 =>
    bd 2 s1.n fun k0 =>
    nn x0 fun a2 =>
    st h0 a2 (.slice (sadr s1.p s1.c k0 1) (s1.n - k0) (s1.c - k0)) fun h1 =>
    K (IntKind.wrap .i64 n0) 0 h1
theorem S38 {x0 : Option Addr} {h : Hp} {K : Int → Int → Hp → Prop} (hn : N38 x0 h K) : C38 x0 h K := by
  refine calls_of_D Tryd.func38 (c := B38) rfl (by kernel_rfl) ?_
  refine den_sound hE hm _ .leaf _ _ _ (annOk_leaf) ?_
  refine cast ?_ hn
  kernel_rfl
end Go.Proofs.YtedklcmdjoojfaaDoor

set_option linter.unusedVariables false
set_option maxRecDepth 100000
namespace Go.Proofs.YtedklcmdjoojfaaDoor
open Go Go.Hw
/-! ### 57 (*slipway/tftp.reader).file -/
noncomputable def B57 : Code := match Tryd.f57.body with | some c => c | none => .skip
def N57 (x0 : Option Addr) (h : Hp) (K : ByteArray → Int → Hp → Prop) : Prop :=
  C60 x0 h fun s0 n0 h0 =>
  bif (n0 != 0) then
    K (⟨⟨[]⟩⟩ : ByteArray) n0 h0
  else
    C48 s0 h0 fun b0 h1 =>
    bif (!b0) then
      K (⟨⟨[]⟩⟩ : ByteArray) 171 h1
    else
      C60 x0 h1 fun s1 n1 h2 =>
      bif (n1 != 0) then
        K (⟨⟨[]⟩⟩ : ByteArray) n1 h2
      else
        C65 s1 h2 fun s2 h3 =>
        bif (!(s2.toList == (⟨⟨[111, 99, 116, 101, 116]⟩⟩ : ByteArray).toList)) then
          K (⟨⟨[]⟩⟩ : ByteArray) 171 h3
        else
          K s0 0 h3
theorem S57 {x0 : Option Addr} {h : Hp} {K : ByteArray → Int → Hp → Prop} (hn : N57 x0 h K) : C57 x0 h K := by
  refine calls_of_D Tryd.func57 (c := B57) rfl (by kernel_rfl) ?_
  refine den_sound hE hm _ .leaf _ _ _ (annOk_leaf) ?_
  refine cast ?_ hn
  kernel_rfl
end Go.Proofs.YtedklcmdjoojfaaDoor

set_option linter.unusedVariables false
set_option maxRecDepth 100000
namespace Go.Proofs.YtedklcmdjoojfaaDoor
open Go Go.Hw
/-! ### 39 (*slipway/tftp.reader).fields -/
noncomputable def B39 : Code := match Tryd.f39.body with | some c => c | none => .skip
def N39_j0 (x0_r : Option Addr) (x1_p : Option Addr) (x5_e : Int) (h : Hp) (K_normal : Hp → Prop) : Prop :=
  bif (x5_e == 0) then
    nn x0_r fun a0 =>
    xL (cell h a0) fun s0 =>
    C59 s0 h fun s1 h0 =>
    nn x1_p fun a1 =>
    st h0 (a1.add 5) (.slice s1.p s1.n s1.c) fun h1 =>
    K_normal h1
  else
    K_normal h
noncomputable def N39_j0_t : Xf := pieceT [(0, .c (.ptr)), (1, .c (.ptr)), (5, .c (.int .i64))] (codeAt B39 [1, 1, 0, 1, 0, 1, 1, 1, 1, 1, 1, 1, 0, 1, 1]) fun x h Q => N39_j0 x.1 x.2.1 x.2.2 h (fun h' => Q .normal (Sg.env [] ()) h')
theorem N39_j0_ok : Sound Tryd.prog Tryd.f39.ntmps N39_j0_t (codeAt B39 [1, 1, 0, 1, 0, 1, 1, 1, 1, 1, 1, 1, 0, 1, 1]) := by
  refine piece_sound (fun e => match e with | .normal => [] | _ => []) ?_
  intro x h Q hb
  refine den_sound hE hm _ .leaf _ _ _ (annOk_leaf) ?_
  refine cast ?_ hb
  kernel_rfl
def N39_j1 (x1_p : Option Addr) (x5_e : Int) (h : Hp) (K_normal : Int → Hp → Prop) : Prop :=
  bif (x5_e == 0) then
    nn x1_p fun a0 =>
    xS (cell h (a0.add 7)) fun s0 =>
    bif (decide ((s0.size : Int) > 255)) then
      K_normal 2 h
    else
      K_normal x5_e h
  else
    K_normal x5_e h
noncomputable def N39_j1_t : Xf := pieceT [(1, .c (.ptr)), (5, .c (.int .i64))] (codeAt B39 [1, 1, 0, 1, 0, 1, 1, 1, 1, 1, 1, 1, 1, 1, 0, 1]) fun x h Q => N39_j1 x.1 x.2 h (fun o0 h' => Q .normal (Sg.env [(5, .c (.int .i64))] o0) h')
theorem N39_j1_ok : Sound Tryd.prog Tryd.f39.ntmps N39_j1_t (codeAt B39 [1, 1, 0, 1, 0, 1, 1, 1, 1, 1, 1, 1, 1, 1, 0, 1]) := by
  refine piece_sound (fun e => match e with | .normal => [5] | _ => []) ?_
  intro x h Q hb
  refine den_sound hE hm _ .leaf _ _ _ (annOk_leaf) ?_
  refine cast ?_ hb
  kernel_rfl
def N39 (x0 : Option Addr) (x1 : Option Addr) (h : Hp) (K : Int → Hp → Prop) : Prop :=
  nn x1 fun a0 =>
  xI .i64 (cell h a0) fun n0 =>
  bif (n0 == 1) then
    nn x1 fun a1 =>
    st h (a1.add 2) (.string (⟨⟨[111, 99, 116, 101, 116]⟩⟩ : ByteArray)) fun h0 =>
    C57 x0 h0 fun s0 n1 h1 =>
    nn x1 fun a2 =>
    st h1 (a2.add 1) (.string s0) fun h2 =>
    bif (n1 == 0) then
      C58 x0 h2 fun s1 n2 h3 =>
      nn x1 fun a3 =>
      st h3 (a3.add 3) (.slice s1.p s1.n s1.c) fun h4 =>
      K n2 h4
    else
      K n1 h2
  else
    bif (n0 == 6) then
      C58 x0 h fun s2 n3 h5 =>
      nn x1 fun a4 =>
      st h5 (a4.add 3) (.slice s2.p s2.n s2.c) fun h6 =>
      K n3 h6
    else
      bif (n0 == 4) then
        C38 x0 h fun n4 n5 h7 =>
        nn x1 fun a5 =>
        st h7 (a5.add 4) (.int .i64 n4) fun h8 =>
        K n5 h8
      else
        bif (n0 == 3) then
          C38 x0 h fun n6 n7 h9 =>
          nn x1 fun a6 =>
          st h9 (a6.add 4) (.int .i64 n6) fun h10 =>
          bif (n7 == 0) then
            nn x0 fun a7 =>
            xL (cell h10 a7) fun s3 =>
            bif (decide (((s3.n : Nat) : Int) > 65464)) then
              N39_j0 x0 x1 2 h10
                (fun h11 =>
                  K 2 h11)
            else
              N39_j0 x0 x1 n7 h10
                (fun h12 =>
                  K n7 h12)
          else
            N39_j0 x0 x1 n7 h10
              (fun h13 =>
                K n7 h13)
        else
          bif (n0 == 5) then
            C38 x0 h fun n8 n9 h14 =>
            nn x1 fun a8 =>
            st h14 (a8.add 6) (.int .i64 n8) fun h15 =>
            bif (n9 == 0) then
              C60 x0 h15 fun s4 n10 h16 =>
              nn x1 fun a9 =>
              st h16 (a9.add 7) (.string s4) fun h17 =>
              N39_j1 x1 n10 h17
                (fun n11 h18 =>
                  K n11 h18)
            else
              N39_j1 x1 n9 h15
                (fun n12 h19 =>
                  K n12 h19)
          else
            K 170 h
theorem S39 {x0 : Option Addr} {x1 : Option Addr} {h : Hp} {K : Int → Hp → Prop} (hn : N39 x0 x1 h K) : C39 x0 x1 h K := by
  refine calls_of_D Tryd.func39 (c := B39) rfl (by kernel_rfl) ?_
  refine den_sound hE hm _ (.two .leaf (.two .leaf (.two (.two .leaf (.one (.two .leaf (.two .leaf (.two .leaf (.two .leaf (.two .leaf (.two .leaf (.two .leaf (.two (.two .leaf (.two .leaf (.xf N39_j0_t))) (.two .leaf (.two (.two .leaf (.xf N39_j1_t)) .leaf)))))))))))) .leaf))) _ _ _ (⟨annOk_leaf, ⟨annOk_leaf, ⟨⟨annOk_leaf, ⟨annOk_leaf, ⟨annOk_leaf, ⟨annOk_leaf, ⟨annOk_leaf, ⟨annOk_leaf, ⟨annOk_leaf, ⟨annOk_leaf, ⟨⟨annOk_leaf, ⟨annOk_leaf, N39_j0_ok⟩⟩, ⟨annOk_leaf, ⟨⟨annOk_leaf, N39_j1_ok⟩, annOk_leaf⟩⟩⟩⟩⟩⟩⟩⟩⟩⟩⟩, annOk_leaf⟩⟩⟩) ?_
  refine cast ?_ hn
  kernel_rfl
end Go.Proofs.YtedklcmdjoojfaaDoor

set_option linter.unusedVariables false
set_option maxRecDepth 100000
namespace Go.Proofs.YtedklcmdjoojfaaDoor
open Go Go.Hw
/-! ### 17 slipway/tftp.Decode -/
noncomputable def B17 : Code := match Tryd.f17.body with | some c => c | none => .skip
def N17_j0 (x2 : Option Addr) (x6_e : Int) (x7_p : Option Addr) (h : Hp) (K_ret : Int → Hp → Prop) : Prop :=
  bif (x6_e != 0) then
    nn x2 fun a0 =>
    st h a0 (.int .i64 0) fun h0 =>
    st h0 (a0.add 1) (.string (⟨⟨[]⟩⟩ : ByteArray)) fun h1 =>
    st h1 (a0.add 2) (.string (⟨⟨[]⟩⟩ : ByteArray)) fun h2 =>
    st h2 (a0.add 3) (.slice none 0 0) fun h3 =>
    st h3 (a0.add 4) (.int .i64 0) fun h4 =>
    st h4 (a0.add 5) (.slice none 0 0) fun h5 =>
    st h5 (a0.add 6) (.int .i64 0) fun h6 =>
    st h6 (a0.add 7) (.string (⟨⟨[]⟩⟩ : ByteArray)) fun h7 =>
    K_ret x6_e h7
  else
    nn x7_p fun a1 =>
    xI .i64 (cell h a1) fun n0 =>
    xS (cell h (a1.add 1)) fun s0 =>
    xS (cell h (a1.add 2)) fun s1 =>
    xL (cell h (a1.add 3)) fun s2 =>
    xI .i64 (cell h (a1.add 4)) fun n1 =>
    xL (cell h (a1.add 5)) fun s3 =>
    xI .i64 (cell h (a1.add 6)) fun n2 =>
    xS (cell h (a1.add 7)) fun s4 =>
    nn x2 fun a2 =>
    st h a2 (.int .i64 n0) fun h8 =>
    st h8 (a2.add 1) (.string s0) fun h9 =>
    st h9 (a2.add 2) (.string s1) fun h10 =>
    st h10 (a2.add 3) (.slice s2.p s2.n s2.c) fun h11 =>
    st h11 (a2.add 4) (.int .i64 n1) fun h12 =>
    st h12 (a2.add 5) (.slice s3.p s3.n s3.c) fun h13 =>
    st h13 (a2.add 6) (.int .i64 n2) fun h14 =>
    st h14 (a2.add 7) (.string s4) fun h15 =>
    K_ret 0 h15
noncomputable def N17_j0_t : Xf := pieceT [(2, .c (.ptr)), (6, .c (.int .i64)), (7, .c (.ptr))] (codeAt B17 [1, 1, 1, 1, 1]) fun x h Q => N17_j0 x.1 x.2.1 x.2.2 h (fun o0 h' => Q .ret (Sg.env [(3, .c (.int .i64))] o0) h')
theorem N17_j0_ok : Sound Tryd.prog Tryd.f17.ntmps N17_j0_t (codeAt B17 [1, 1, 1, 1, 1]) := by
  refine piece_sound (fun e => match e with | .ret => [3] | _ => []) ?_
  intro x h Q hb
  refine den_sound hE hm _ .leaf _ _ _ (annOk_leaf) ?_
  refine cast ?_ hb
  kernel_rfl
def N17 (x0 : Sl) (h : Hp) (K : Int → ByteArray → ByteArray → Sl → Int → Sl → Int → ByteArray → Int → Hp → Prop) : Prop :=
  nw h (.cells ⟨[.int .i64 0, .string (⟨⟨[]⟩⟩ : ByteArray), .string (⟨⟨[]⟩⟩ : ByteArray), .slice none 0 0, .int .i64 0, .slice none 0 0, .int .i64 0, .string (⟨⟨[]⟩⟩ : ByteArray)]⟩ 26) fun b0 h0 =>
  nw h0 (.cells ⟨[.slice x0.p x0.n x0.c]⟩ 65) fun b1 h1 =>
  C38 (some (bk b1)) h1 fun n0 n1 h2 =>
  nw h2 (.cells ⟨[.int .i64 0, .string (⟨⟨[]⟩⟩ : ByteArray), .string (⟨⟨[]⟩⟩ : ByteArray), .slice none 0 0, .int .i64 0, .slice none 0 0, .int .i64 0, .string (⟨⟨[]⟩⟩ : ByteArray)]⟩ 26) fun b2 h3 =>
  st h3 (bk b2) (.int .i64 n0) fun h4 =>
  st h4 ((bk b2).add 1) (.string (⟨⟨[]⟩⟩ : ByteArray)) fun h5 =>
  st h5 ((bk b2).add 2) (.string (⟨⟨[]⟩⟩ : ByteArray)) fun h6 =>
  st h6 ((bk b2).add 3) (.slice none 0 0) fun h7 =>
  st h7 ((bk b2).add 4) (.int .i64 0) fun h8 =>
  st h8 ((bk b2).add 5) (.slice none 0 0) fun h9 =>
  st h9 ((bk b2).add 6) (.int .i64 0) fun h10 =>
  st h10 ((bk b2).add 7) (.string (⟨⟨[]⟩⟩ : ByteArray)) fun h11 =>
  bif (n1 == 0) then
    C39 (some (bk b1)) (some (bk b2)) h11 fun n2 h12 =>
    N17_j0 (some (bk b0)) n2 (some (bk b2)) h12
      (fun n3 h13 =>
        xI .i64 (cell h13 (bk b0)) fun n4 =>
        xS (cell h13 ((bk b0).add 1)) fun s0 =>
        xS (cell h13 ((bk b0).add 2)) fun s1 =>
        xL (cell h13 ((bk b0).add 3)) fun s2 =>
        xI .i64 (cell h13 ((bk b0).add 4)) fun n5 =>
        xL (cell h13 ((bk b0).add 5)) fun s3 =>
        xI .i64 (cell h13 ((bk b0).add 6)) fun n6 =>
        xS (cell h13 ((bk b0).add 7)) fun s4 =>
        K n4 s0 s1 s2 n5 s3 n6 s4 n3 h13)
  else
    N17_j0 (some (bk b0)) n1 (some (bk b2)) h11
      (fun n7 h14 =>
        xI .i64 (cell h14 (bk b0)) fun n8 =>
        xS (cell h14 ((bk b0).add 1)) fun s5 =>
        xS (cell h14 ((bk b0).add 2)) fun s6 =>
        xL (cell h14 ((bk b0).add 3)) fun s7 =>
        xI .i64 (cell h14 ((bk b0).add 4)) fun n9 =>
        xL (cell h14 ((bk b0).add 5)) fun s8 =>
        xI .i64 (cell h14 ((bk b0).add 6)) fun n10 =>
        xS (cell h14 ((bk b0).add 7)) fun s9 =>
        K n8 s5 s6 s7 n9 s8 n10 s9 n7 h14)
theorem S17 {x0 : Sl} {h : Hp} {K : Int → ByteArray → ByteArray → Sl → Int → Sl → Int → ByteArray → Int → Hp → Prop} (hn : N17 x0 h K) : C17 x0 h K := by
  refine calls_of_M Tryd.func17 (c := B17) rfl (by kernel_rfl) ?_
  refine den_sound hE hm _ (.two .leaf (.two .leaf (.two .leaf (.two .leaf (.two .leaf (.xf N17_j0_t)))))) _ _ _ (⟨annOk_leaf, ⟨annOk_leaf, ⟨annOk_leaf, ⟨annOk_leaf, ⟨annOk_leaf, N17_j0_ok⟩⟩⟩⟩⟩) ?_
  refine cast ?_ hn
  kernel_rfl
end Go.Proofs.YtedklcmdjoojfaaDoor

set_option linter.unusedVariables false
set_option maxRecDepth 100000
namespace Go.Proofs.YtedklcmdjoojfaaDoor
open Go Go.Hw
/-! ### 59 bytes.Clone -/
noncomputable def B59 : Code := match Tryd.f59.body with | some c => c | none => .skip
def N59 (x0 : Sl) (h : Hp) (K : Sl → Hp → Prop) : Prop :=
  bif x0.p.isNone then
    K ⟨none, 0, 0⟩ h
  else
    nw h (.cells ⟨[]⟩ 5) fun b0 h0 =>
    apK Tryd.prog 5 ⟨some (bk b0), 0, 0⟩ (.slice x0.p x0.n x0.c) h0 fun s0 h1 =>
    K s0 h1
theorem S59 {x0 : Sl} {h : Hp} {K : Sl → Hp → Prop} (hn : N59 x0 h K) : C59 x0 h K := by
  refine calls_of_D Tryd.func59 (c := B59) rfl (by kernel_rfl) ?_
  refine den_sound hE hm _ .leaf _ _ _ (annOk_leaf) ?_
  refine cast ?_ hn
  kernel_rfl
end Go.Proofs.YtedklcmdjoojfaaDoor

/-
  A packet that is read: what bytes say (decL), and that the program reads it so.
-/
set_option linter.unusedSimpArgs false
set_option linter.unusedVariables false
namespace Go.Proofs.YtedklcmdjoojfaaDoor
open Go Go.Hw

structure Dec where
  op : Int
  file : ByteArray
  mode : ByteArray
  os : List Opt
  block : Int
  data : List UInt8
  code : Int
  text : ByteArray
def emp : ByteArray := ⟨⟨[]⟩⟩
def octB : ByteArray := ⟨⟨[111, 99, 116, 101, 116]⟩⟩
def dec0 : Dec := ⟨0, emp, emp, [], 0, [], 0, emp⟩
def be2 (l : List UInt8) : Int := (nat256 (l.take 2) : Nat)
/-- a file's name and the mode: an error's number, the name, what stands behind -/
def fileL (l : List UInt8) : Int × ByteArray × List UInt8 := match cutL l with
  | none => (5, emp, [])
  | some p => if fileOk ⟨⟨p.1⟩⟩ = true then (match cutL p.2 with
      | none => (5, emp, [])
      | some q => if q.1.map smallB = [111, 99, 116, 101, 116] then (0, ⟨⟨p.1⟩⟩, q.2) else (171, emp, []))
    else (171, emp, [])
def decF (op : Int) (r : List UInt8) : Int × Dec :=
  if op = 1 then (if (fileL r).1 = 0 then ((readL [] (fileL r).2.2).1, { dec0 with op := 1, file := (fileL r).2.1, mode := octB, os := (readL [] (fileL r).2.2).2 }) else ((fileL r).1, dec0))
  else if op = 6 then ((readL [] r).1, { dec0 with op := 6, os := (readL [] r).2 })
  else if op = 4 then (if r.length < 2 then (5, dec0) else (0, { dec0 with op := 4, block := be2 r }))
  else if op = 3 then (if r.length < 2 then (5, dec0) else if (r.drop 2).length > 65464 then (2, dec0) else (0, { dec0 with op := 3, block := be2 r, data := r.drop 2 }))
  else if op = 5 then (if r.length < 2 then (5, dec0) else match cutL (r.drop 2) with
    | none => (5, dec0)
    | some p => if p.1.length > 255 then (2, dec0) else (0, { dec0 with op := 5, code := be2 r, text := ⟨⟨p.1⟩⟩ }))
  else (170, dec0)
def decL (l : List UInt8) : Int × Dec := if l.length < 2 then (5, dec0) else
  if (decF (be2 l) (l.drop 2)).1 = 0 then decF (be2 l) (l.drop 2) else ((decF (be2 l) (l.drop 2)).1, dec0)
def decC (d : Dec) (so sd : Sl) : List Value := [.int .i64 d.op, .string d.file, .string d.mode, so.v, .int .i64 d.block, sd.v, .int .i64 d.code, .string d.text]

theorem be2_rng (l : List UInt8) : 0 ≤ be2 l ∧ be2 l < 65536 := by
  unfold be2
  have h1 := nat256_lt (l.take 2)
  have h2 : 256 ^ (l.take 2).length ≤ 256 ^ 2 := Nat.pow_le_pow_right (by decide) (by rw [List.length_take]; omega)
  have e : (256 : Nat) ^ 2 = 65536 := by decide
  omega
theorem c_bclone {s : Sl} {l : List UInt8} {h : Hp} {K : Sl → Hp → Prop} (hr : RdB h s l) (hl : l.length ≤ 140737488355328) (hK : ∀ s' h', NewO h h' 5 1 s' (bc l) → K s' h') : C59 s h K := by
  apply S59; unfold N59
  cases hp : s.p with
  | none =>
    have : l = [] := by
      cases l with
      | nil => rfl
      | cons x l => obtain ⟨a, ha, _⟩ := hr.get (i := 0) (by simp); rw [hp] at ha; cases ha
    subst this
    exact hK _ _ NewO.nil
  | some a =>
    simp only [Option.isNone_some, cond_false]
    intro b0 e0
    have hs0 : Sat ([] ++ [Hw.was h]) h := Sat.start
    have hs1 : Sat ([] ++ [Hw.was h, Hw.own 5 1 ⟨some (bk b0), 0, 0⟩ []]) (upd h b0 (.cells ⟨[]⟩ 5 (0, 0))) := hs0.addOwn (Ext.new e0) ⟨rfl, Nat.le_refl _, rfl, [], upd_same, rfl, rfl⟩ (fun b hb => by
      simp only [Option.some.injEq] at hb
      have : b0 = b := congrArg Addr.block hb
      subst this; exact e0)
    have hr1 := hr.ext (Ext.new (o := .cells ⟨[]⟩ 5 (0, 0)) e0)
    have hn := hr.n
    refine hs1.ap 1 rfl (n := s.n) (ns := bc l) (by kernel_rfl) (by kernel_rfl) (fun _ => rfl) ?_ (by rw [bc_len]; omega) bc_plain (by
      rw [show Tryd.prog.bytesOf 5 = 1 by kernel_rfl]; show (0 + s.n) * 2 * 1 ≤ _; omega) ?_
    · intro G hG
      rw [← hp]
      refine hr1.srcK (n := s.n) (by omega) ?_
      rw [hn, List.take_length]; exact hG
    · intro s' h' hs' _
      rw [List.nil_append] at hs'
      have hs' : Sat ([] ++ [Hw.was h, Hw.own 5 1 s' (bc l)]) h' := hs'
      exact hK s' h' (hs'.newO 0 1 rfl rfl (by decide))

theorem c_rnumber {L : List Asn} {Q : Hp → Prop} {br : Nat} {s : Sl} {l : List UInt8} {h : Hp} {K : Int → Int → Hp → Prop} (hs : Sat (L ++ [row br 65 [s.v]]) h) (hQ : ∀ h', Sat L h' → Q h') (H : ∀ h', Q h' → RdB h' s l) (hl : l.length ≤ 140737488355328)
    (hno : l.length < 2 → K 0 5 h) (hK : 2 ≤ l.length → ∀ s', (∀ h', Q h' → RdS h' s' (l.drop 2)) → ∀ h', Sat (L ++ [row br 65 [s'.v]]) h' → K (be2 l) 0 h') : C38 (some (bk br)) h K := by
  apply S38; unfold N38
  simp only [nn_some']
  refine hs.lL 0 rfl rfl ?_
  have hr := H h (hQ h hs.left)
  have hn := hr.n
  refine c_get (s := s) hr hl ?_
  by_cases h2 : l.length < 2
  · have e1 : getE l 0 2 = 5 := by unfold getE; rw [if_neg (by omega), if_pos (.inr (by omega))]
    rw [e1, show ((5 : Int) != 0) = true from rfl, cond_true]
    exact hno h2
  · have e1 : getE l 0 2 = 0 := by unfold getE; rw [if_neg (by omega), if_neg (by omega)]
    have e2 : ((getV l 0 2 : Nat) : Int) = be2 l := by
      unfold getV be2; rw [if_neg (by omega), if_neg (by omega)]
      simp
    rw [e1, show ((0 : Int) != 0) = false from rfl, cond_false, e2]
    refine hs.lL 0 rfl rfl ?_
    refine bd_nat (i := 2) (show 2 ≤ s.n by omega) ?_
    refine hs.st 0 rfl (by simp) rfl ?_
    intro h1 hs1
    obtain ⟨b1, b2⟩ := be2_rng l
    rw [wrap64 (by omega) (by omega)]
    exact hK (by omega) ⟨sadr s.p s.c 2 1, s.n - 2, s.c - 2⟩ (fun h' q => rds_tail (RdS.of (H h' q) (by intro e; rw [e] at h2; simp at h2)) (by omega)) h1 hs1

theorem c_file {L : List Asn} {Q : Hp → Prop} {br : Nat} {s : Sl} {l : List UInt8} {h : Hp} {K : ByteArray → Int → Hp → Prop} (hs : Sat (L ++ [row br 65 [s.v]]) h) (hQ : ∀ h', Sat L h' → Q h') (H : ∀ h', Q h' → RdS h' s l) (hl : l.length ≤ 140737488355000)
    (hno : (fileL l).1 ≠ 0 → ∀ h', Sat L h' → K emp (fileL l).1 h') (hK : (fileL l).1 = 0 → ∀ s', (∀ h', Q h' → RdS h' s' (fileL l).2.2) → ∀ h', Sat (L ++ [row br 65 [s'.v]]) h' → K (fileL l).2.1 0 h') : C57 (some (bk br)) h K := by
  apply S57; unfold N57
  refine c_rtext hs hQ H (by omega) ?_ ?_
  · intro hc h1 hs1
    rw [show ((5 : Int) != 0) = true from rfl, cond_true]
    have e : fileL l = (5, emp, []) := by unfold fileL; rw [hc]
    rw [e] at hno
    exact hno (by decide) h1 hs1.left
  · intro x y s1 hc H1 h1 hs1
    rw [show ((0 : Int) != 0) = false from rfl, cond_false]
    refine c_isFile ?_
    cases hf : fileOk ⟨⟨x⟩⟩ with
    | false =>
      simp only [Bool.not_false, cond_true]
      have e : fileL l = (171, emp, []) := by unfold fileL; rw [hc]; simp [hf]
      rw [e] at hno
      exact hno (by decide) h1 hs1.left
    | true =>
      simp only [Bool.not_true, cond_false]
      refine c_rtext hs1 hQ H1 (by have := cutL_len hc; omega) ?_ ?_
      · intro hc2 h2 hs2
        rw [show ((5 : Int) != 0) = true from rfl, cond_true]
        have e : fileL l = (5, emp, []) := by unfold fileL; rw [hc]; simp [hf, hc2]
        rw [e] at hno
        exact hno (by decide) h2 hs2.left
      · intro u v s2 hc2 H2 h2 hs2
        rw [show ((0 : Int) != 0) = false from rfl, cond_false]
        refine c_lower ?_
        intro h3 he3
        simp only [ba_list]
        show bif (!(u.map smallB == [111, 99, 116, 101, 116])) then _ else _
        have hs3 := hs2.ext he3
        cases hm : (u.map smallB == [111, 99, 116, 101, 116]) with
        | true =>
          have hm : u.map smallB = [111, 99, 116, 101, 116] := by simpa using hm
          simp only [Bool.not_true, cond_false]
          have e : fileL l = (0, ⟨⟨x⟩⟩, v) := by unfold fileL; rw [hc]; simp [hf, hc2, hm]
          rw [e] at hK
          exact hK rfl s2 H2 h3 hs3
        | false =>
          have hm : ¬ u.map smallB = [111, 99, 116, 101, 116] := by simpa using hm
          simp only [Bool.not_false, cond_true]
          have e : fileL l = (171, emp, []) := by unfold fileL; rw [hc]; simp [hf, hc2, hm]
          rw [e] at hno
          exact hno (by decide) h3 hs3.left

set_option maxHeartbeats 1000000 in
theorem c_fields {L : List Asn} {br bp : Nat} {s : Sl} {op : Int} {r : List UInt8} {h : Hp} {K : Int → Hp → Prop}
    (hs : Sat (L ++ [row br 65 [s.v], row bp 26 (decC { dec0 with op := op } ⟨none, 0, 0⟩ ⟨none, 0, 0⟩)]) h) (H : ∀ h', Sat L h' → RdS h' s r) (G : ∀ h', Sat L h' → Glob h') (hl : r.length ≤ 140737488355000)
    (hno : (decF op r).1 ≠ 0 → ∀ h', Sat L h' → K (decF op r).1 h') (hK : (decF op r).1 = 0 → ∀ so sd h', Sat (L ++ [row bp 26 (decC (decF op r).2 so sd), Hw.own 56 2 so ((decF op r).2.os.flatMap oc), Hw.own 5 1 sd (bc (decF op r).2.data)]) h' → K 0 h') : C39 (some (bk br)) (some (bk bp)) h K := by
  apply S39; unfold N39
  simp only [nn_some', add_bk]
  refine hs.lI 1 rfl rfl ?_
  have fin : ∀ (d : Dec) (so : Sl) (A : Asn) (h' : Hp), d.data = [] → decF op r = (0, d) → Sat (L ++ [A, row bp 26 (decC d so ⟨none, 0, 0⟩), Hw.own 56 2 so (d.os.flatMap oc)]) h' → K 0 h' := by
    intro d so A h' hd he hs'
    rw [he] at hK
    have g : Sat (L ++ [row bp 26 (decC d so ⟨none, 0, 0⟩), Hw.own 56 2 so (d.os.flatMap oc)]) h' := hs'.sel [1, 2] (by decide) rfl
    refine hK rfl so ⟨none, 0, 0⟩ h' ?_
    show Sat (L ++ [row bp 26 (decC d so ⟨none, 0, 0⟩), Hw.own 56 2 so (d.os.flatMap oc), Hw.own 5 1 ⟨none, 0, 0⟩ (bc d.data)]) h'
    rw [hd]
    exact g.addNil 5 1
  have fin0 : ∀ (d : Dec) (A : Asn) (h' : Hp), d.data = [] → d.os = [] → decF op r = (0, d) → Sat (L ++ [A, row bp 26 (decC d ⟨none, 0, 0⟩ ⟨none, 0, 0⟩)]) h' → K 0 h' := by
    intro d A h' hd ho he hs'
    refine fin d ⟨none, 0, 0⟩ A h' hd he ?_
    rw [ho]
    exact hs'.addNil 56 2
  have bad : ∀ (e : Int) (d : Dec) (h' : Hp), e ≠ 0 → decF op r = (e, d) → Sat L h' → K e h' := by
    intro e d h' he hd hs'
    rw [hd] at hno
    exact hno he h' hs'
  by_cases o1 : op = 1
  · subst o1
    rw [show ((1 : Int) == 1) = true from rfl, cond_true]
    refine hs.st 1 rfl (by simp [decC]) rfl ?_
    intro h1 hs1
    have hs1 : Sat (L ++ [row br 65 [s.v], row bp 26 (decC { dec0 with op := 1, mode := octB } ⟨none, 0, 0⟩ ⟨none, 0, 0⟩)]) h1 := hs1
    have g1 : Sat ((L ++ [row bp 26 (decC { dec0 with op := 1, mode := octB } ⟨none, 0, 0⟩ ⟨none, 0, 0⟩)]) ++ [row br 65 [s.v]]) h1 := Sat.csa (hs1.sel [1, 0] (by decide) rfl)
    refine c_file (Q := Sat L) g1 (fun h' g => g.left) H hl ?_ ?_
    · intro he h2 hs2
      refine hs2.st 0 rfl (by simp [decC]) rfl ?_
      intro h3 hs3
      rw [show ((fileL r).1 == 0) = false by simpa using he, cond_false]
      exact bad _ dec0 h3 he (by unfold decF; rw [if_pos rfl, if_neg he]) hs3.left
    · intro he s2 H2 h2 hs2
      have hs2 : Sat (L ++ [row br 65 [s2.v], row bp 26 (decC { dec0 with op := 1, mode := octB } ⟨none, 0, 0⟩ ⟨none, 0, 0⟩)]) h2 := (Sat.asc hs2).sel [1, 0] (by decide) rfl
      refine hs2.st 1 rfl (by simp [decC]) rfl ?_
      intro h3 hs3
      rw [show ((0 : Int) == 0) = true from rfl, cond_true]
      have g3 : Sat ((L ++ [row bp 26 (decC { dec0 with op := 1, file := (fileL r).2.1, mode := octB } ⟨none, 0, 0⟩ ⟨none, 0, 0⟩)]) ++ [row br 65 [s2.v]]) h3 := Sat.csa (Sat.sel (M := [row br 65 [s2.v], row bp 26 (decC { dec0 with op := 1, file := (fileL r).2.1, mode := octB } ⟨none, 0, 0⟩ ⟨none, 0, 0⟩)]) hs3 [1, 0] (by decide) rfl)
      have hfl : (fileL r).2.2.length ≤ r.length := by
        have ha := (H2 h2 hs2.left).r.n
        unfold fileL
        cases hc : cutL r with
        | none => simp
        | some p =>
          have a1 := cutL_len (x := p.1) (y := p.2) hc
          simp only []
          split
          · cases hc2 : cutL p.2 with
            | none => simp
            | some q =>
              have a2 := cutL_len (x := q.1) (y := q.2) hc2
              simp only []
              split
              · show q.2.length ≤ _; omega
              · simp
          · simp
      refine c_choices g3 (fun h' g => H2 h' g.left) (fun h' g => G h' g.left) (by omega) ?_
      intro so sv h4 hs4
      have hs4 : Sat (L ++ [row br 65 [sv], row bp 26 (decC { dec0 with op := 1, file := (fileL r).2.1, mode := octB } ⟨none, 0, 0⟩ ⟨none, 0, 0⟩), Hw.own 56 2 so ((readL [] (fileL r).2.2).2.flatMap oc)]) h4 := (Sat.asc hs4).sel [1, 0, 2] (by decide) rfl
      refine hs4.st 1 rfl (by simp [decC]) rfl ?_
      intro h5 hs5
      have hs5 : Sat (L ++ [row br 65 [sv], row bp 26 (decC { dec0 with op := 1, file := (fileL r).2.1, mode := octB, os := (readL [] (fileL r).2.2).2 } so ⟨none, 0, 0⟩), Hw.own 56 2 so ((readL [] (fileL r).2.2).2.flatMap oc)]) h5 := hs5
      have ed : decF 1 r = ((readL [] (fileL r).2.2).1, { dec0 with op := 1, file := (fileL r).2.1, mode := octB, os := (readL [] (fileL r).2.2).2 }) := by unfold decF; rw [if_pos rfl, if_pos he]
      by_cases hz : (readL [] (fileL r).2.2).1 = 0
      · rw [hz] at ed ⊢
        exact fin _ so _ h5 rfl ed hs5
      · exact bad _ _ h5 hz ed hs5.left
  rw [show (op == 1) = false by simpa using o1, cond_false]
  by_cases o6 : op = 6
  · subst o6
    rw [show ((6 : Int) == 6) = true from rfl, cond_true]
    have g1 : Sat ((L ++ [row bp 26 (decC { dec0 with op := 6 } ⟨none, 0, 0⟩ ⟨none, 0, 0⟩)]) ++ [row br 65 [s.v]]) h := Sat.csa (hs.sel [1, 0] (by decide) rfl)
    refine c_choices g1 (fun h' g => H h' g.left) (fun h' g => G h' g.left) hl ?_
    intro so sv h4 hs4
    have hs4 : Sat (L ++ [row br 65 [sv], row bp 26 (decC { dec0 with op := 6 } ⟨none, 0, 0⟩ ⟨none, 0, 0⟩), Hw.own 56 2 so ((readL [] r).2.flatMap oc)]) h4 := (Sat.asc hs4).sel [1, 0, 2] (by decide) rfl
    refine hs4.st 1 rfl (by simp [decC]) rfl ?_
    intro h5 hs5
    have hs5 : Sat (L ++ [row br 65 [sv], row bp 26 (decC { dec0 with op := 6, os := (readL [] r).2 } so ⟨none, 0, 0⟩), Hw.own 56 2 so ((readL [] r).2.flatMap oc)]) h5 := hs5
    have ed : decF 6 r = ((readL [] r).1, { dec0 with op := 6, os := (readL [] r).2 }) := by unfold decF; rw [if_neg (by decide), if_pos rfl]
    by_cases hz : (readL [] r).1 = 0
    · rw [hz] at ed ⊢
      exact fin _ so _ h5 rfl ed hs5
    · exact bad _ _ h5 hz ed hs5.left
  rw [show (op == 6) = false by simpa using o6, cond_false]
  have num : ∀ (op : Int) (K1 : Int → Int → Hp → Prop), Sat (L ++ [row br 65 [s.v], row bp 26 (decC { dec0 with op := op } ⟨none, 0, 0⟩ ⟨none, 0, 0⟩)]) h → (r.length < 2 → ∀ h', Sat (L ++ [row br 65 [s.v], row bp 26 (decC { dec0 with op := op } ⟨none, 0, 0⟩ ⟨none, 0, 0⟩)]) h' → K1 0 5 h') →
      (2 ≤ r.length → ∀ s', (∀ h', Sat L h' → RdS h' s' (r.drop 2)) → ∀ h', Sat (L ++ [row br 65 [s'.v], row bp 26 (decC { dec0 with op := op } ⟨none, 0, 0⟩ ⟨none, 0, 0⟩)]) h' → K1 (be2 r) 0 h') → C38 (some (bk br)) h K1 := by
    intro op K1 hs a1 a2
    have g1 : Sat ((L ++ [row bp 26 (decC { dec0 with op := op } ⟨none, 0, 0⟩ ⟨none, 0, 0⟩)]) ++ [row br 65 [s.v]]) h := Sat.csa (hs.sel [1, 0] (by decide) rfl)
    refine c_rnumber (Q := Sat L) g1 (fun h' g => g.left) (fun h' q => (H h' q).r) (by omega) (fun h2 => a1 h2 h hs) ?_
    intro h2 s' H' h' hs'
    exact a2 h2 s' H' h' ((Sat.asc hs').sel [1, 0] (by decide) rfl)
  by_cases o4 : op = 4
  · subst o4
    rw [show ((4 : Int) == 4) = true from rfl, cond_true]
    refine num 4 _ hs ?_ ?_
    · intro h2 h1 hs1
      refine hs1.st 1 rfl (by simp [decC]) rfl ?_
      intro h3 hs3
      exact bad 5 dec0 h3 (by decide) (by unfold decF; simp [h2]) hs3.left
    · intro h2 s' H' h1 hs1
      refine hs1.st 1 rfl (by simp [decC]) rfl ?_
      intro h3 hs3
      exact fin0 { dec0 with op := 4, block := be2 r } (row br 65 [s'.v]) h3 rfl rfl (by unfold decF; rw [if_neg (by decide), if_neg (by decide), if_pos rfl, if_neg (by omega)]) hs3
  rw [show (op == 4) = false by simpa using o4, cond_false]
  by_cases o3 : op = 3
  · subst o3
    rw [show ((3 : Int) == 3) = true from rfl, cond_true]
    refine num 3 _ hs ?_ ?_
    · intro h2 h1 hs1
      refine hs1.st 1 rfl (by simp [decC]) rfl ?_
      intro h3 hs3
      rw [show ((5 : Int) == 0) = false from rfl, cond_false]
      unfold N39_j0
      rw [show ((5 : Int) == 0) = false from rfl, cond_false]
      exact bad 5 dec0 h3 (by decide) (by unfold decF; simp [h2]) hs3.left
    · intro h2 s' H' h1 hs1
      refine hs1.st 1 rfl (by simp [decC]) rfl ?_
      intro h3 hs3
      have hs3 : Sat (L ++ [row br 65 [s'.v], row bp 26 (decC { dec0 with op := 3, block := be2 r } ⟨none, 0, 0⟩ ⟨none, 0, 0⟩)]) h3 := hs3
      rw [show ((0 : Int) == 0) = true from rfl, cond_true]
      refine hs3.lL 0 rfl rfl ?_
      have sn : s'.n = (r.drop 2).length := (H' h3 hs3.left).r.n
      by_cases hlong : (r.drop 2).length > 65464
      · rw [show decide (((s'.n : Nat) : Int) > 65464) = true from decide_eq_true (by omega), cond_true]
        unfold N39_j0
        rw [show ((2 : Int) == 0) = false from rfl, cond_false]
        exact bad 2 dec0 h3 (by decide) (by unfold decF; rw [if_neg (by decide), if_neg (by decide), if_neg (by decide), if_pos rfl, if_neg (by omega), if_pos hlong]) hs3.left
      · rw [show decide (((s'.n : Nat) : Int) > 65464) = false from decide_eq_false (by omega), cond_false]
        unfold N39_j0
        rw [show ((0 : Int) == 0) = true from rfl, cond_true]
        simp only [nn_some', add_bk]
        refine hs3.lL 0 rfl rfl ?_
        refine c_bclone (s := s') (H' h3 hs3.left).r (by omega) ?_
        intro sd h4 hn4
        have hs4 := hs3.addNew hn4
        have hs4 : Sat (L ++ [row br 65 [s'.v], row bp 26 (decC { dec0 with op := 3, block := be2 r } ⟨none, 0, 0⟩ ⟨none, 0, 0⟩), Hw.own 5 1 sd (bc (r.drop 2))]) h4 := hs4
        refine hs4.st 1 rfl (by simp [decC]) rfl ?_
        intro h5 hs5
        have hs5 : Sat (L ++ [row br 65 [s'.v], row bp 26 (decC { dec0 with op := 3, block := be2 r, data := r.drop 2 } ⟨none, 0, 0⟩ sd), Hw.own 5 1 sd (bc (r.drop 2))]) h5 := hs5
        have ed : decF 3 r = (0, { dec0 with op := 3, block := be2 r, data := r.drop 2 }) := by unfold decF; rw [if_neg (by decide), if_neg (by decide), if_neg (by decide), if_pos rfl, if_neg (by omega), if_neg hlong]
        rw [ed] at hK
        have g5 := (hs5.addNil 56 2)
        exact hK rfl ⟨none, 0, 0⟩ sd h5 (Sat.sel (M := [row br 65 [s'.v], row bp 26 (decC { dec0 with op := 3, block := be2 r, data := r.drop 2 } ⟨none, 0, 0⟩ sd), Hw.own 5 1 sd (bc (r.drop 2)), Hw.own 56 2 ⟨none, 0, 0⟩ []]) g5 [1, 3, 2] (by decide) rfl)
  rw [show (op == 3) = false by simpa using o3, cond_false]
  by_cases o5 : op = 5
  · subst o5
    rw [show ((5 : Int) == 5) = true from rfl, cond_true]
    refine num 5 _ hs ?_ ?_
    · intro h2 h1 hs1
      refine hs1.st 1 rfl (by simp [decC]) rfl ?_
      intro h3 hs3
      rw [show ((5 : Int) == 0) = false from rfl, cond_false]
      unfold N39_j1
      rw [show ((5 : Int) == 0) = false from rfl, cond_false]
      exact bad 5 dec0 h3 (by decide) (by unfold decF; simp [h2]) hs3.left
    · intro h2 s' H' h1 hs1
      refine hs1.st 1 rfl (by simp [decC]) rfl ?_
      intro h3 hs3
      have hs3 : Sat (L ++ [row br 65 [s'.v], row bp 26 (decC { dec0 with op := 5, code := be2 r } ⟨none, 0, 0⟩ ⟨none, 0, 0⟩)]) h3 := hs3
      rw [show ((0 : Int) == 0) = true from rfl, cond_true]
      have g3 : Sat ((L ++ [row bp 26 (decC { dec0 with op := 5, code := be2 r } ⟨none, 0, 0⟩ ⟨none, 0, 0⟩)]) ++ [row br 65 [s'.v]]) h3 := Sat.csa (hs3.sel [1, 0] (by decide) rfl)
      have e5 : decF 5 r = match cutL (r.drop 2) with
          | none => (5, dec0)
          | some p => if p.1.length > 255 then (2, dec0) else (0, { dec0 with op := 5, code := be2 r, text := ⟨⟨p.1⟩⟩ }) := by
        unfold decF; rw [if_neg (by decide), if_neg (by decide), if_neg (by decide), if_neg (by decide), if_pos rfl, if_neg (by omega)]
      refine c_rtext (Q := Sat L) g3 (fun h' g => g.left) H' (by simp; omega) ?_ ?_
      · intro hc h4 hs4
        have hs4 : Sat (L ++ [row br 65 [s'.v], row bp 26 (decC { dec0 with op := 5, code := be2 r } ⟨none, 0, 0⟩ ⟨none, 0, 0⟩)]) h4 := (Sat.asc hs4).sel [1, 0] (by decide) rfl
        refine hs4.st 1 rfl (by simp [decC]) rfl ?_
        intro h5 hs5
        unfold N39_j1
        rw [show ((5 : Int) == 0) = false from rfl, cond_false]
        exact bad 5 dec0 h5 (by decide) (by rw [e5, hc]) hs5.left
      · intro x y s4 hc H4 h4 hs4
        have hs4 : Sat (L ++ [row br 65 [s4.v], row bp 26 (decC { dec0 with op := 5, code := be2 r } ⟨none, 0, 0⟩ ⟨none, 0, 0⟩)]) h4 := (Sat.asc hs4).sel [1, 0] (by decide) rfl
        refine hs4.st 1 rfl (by simp [decC]) rfl ?_
        intro h5 hs5
        have hs5 : Sat (L ++ [row br 65 [s4.v], row bp 26 (decC { dec0 with op := 5, code := be2 r, text := ⟨⟨x⟩⟩ } ⟨none, 0, 0⟩ ⟨none, 0, 0⟩)]) h5 := hs5
        unfold N39_j1
        rw [show ((0 : Int) == 0) = true from rfl, cond_true]
        simp only [nn_some', add_bk]
        refine hs5.lS 1 rfl rfl ?_
        show bif decide (((x.length : Nat) : Int) > 255) then _ else _
        by_cases hx : x.length > 255
        · rw [show decide (((x.length : Nat) : Int) > 255) = true from decide_eq_true (by omega), cond_true]
          exact bad 2 dec0 h5 (by decide) (by rw [e5, hc]; simp [hx]) hs5.left
        · rw [show decide (((x.length : Nat) : Int) > 255) = false from decide_eq_false (by omega), cond_false]
          exact fin0 { dec0 with op := 5, code := be2 r, text := ⟨⟨x⟩⟩ } (row br 65 [s4.v]) h5 rfl rfl (by rw [e5, hc]; simp [hx]) hs5
  rw [show (op == 5) = false by simpa using o5, cond_false]
  exact bad 170 dec0 h (by decide) (by unfold decF; rw [if_neg o1, if_neg o6, if_neg o4, if_neg o3, if_neg o5]) hs.left

def zeroC : List Value := [.int .i64 0, .string emp, .string emp, .slice none 0 0, .int .i64 0, .slice none 0 0, .int .i64 0, .string emp]
theorem decL_bad {l : List UInt8} {e : Int} (h2 : 2 ≤ l.length) (he : e ≠ 0) (hd : (decF (be2 l) (l.drop 2)).1 = e) : decL l = (e, dec0) := by
  unfold decL; rw [if_neg (by omega), if_neg (by rw [hd]; exact he), hd]
theorem decL_good {l : List UInt8} (h2 : 2 ≤ l.length) (hd : (decF (be2 l) (l.drop 2)).1 = 0) : decL l = decF (be2 l) (l.drop 2) := by
  unfold decL; rw [if_neg (by omega), if_pos hd]
set_option maxHeartbeats 1000000 in
theorem c_decode {L : List Asn} {s : Sl} {l : List UInt8} {h : Hp} {K : Int → ByteArray → ByteArray → Sl → Int → Sl → Int → ByteArray → Int → Hp → Prop} (hs : Sat (L ++ []) h) (H : ∀ h', Sat L h' → RdB h' s l) (G : ∀ h', Sat L h' → Glob h') (hl : l.length ≤ 140737488355000)
    (hK : ∀ so sd h', Sat (L ++ [Hw.own 56 2 so ((decL l).2.os.flatMap oc), Hw.own 5 1 sd (bc (decL l).2.data)]) h' → K (decL l).2.op (decL l).2.file (decL l).2.mode so (decL l).2.block sd (decL l).2.code (decL l).2.text (decL l).1 h') : C17 s h K := by
  apply S17; unfold N17
  intro b0 e0
  have hs := hs.new e0 (.cells ⟨[.int .i64 0, .string (⟨⟨[]⟩⟩ : ByteArray), .string (⟨⟨[]⟩⟩ : ByteArray), .slice none 0 0, .int .i64 0, .slice none 0 0, .int .i64 0, .string (⟨⟨[]⟩⟩ : ByteArray)]⟩ 26 (0, 0))
  revert hs
  generalize upd h b0 _ = h0
  intro hs b1 e1
  have hs := hs.new e1 (.cells ⟨[.slice s.p s.n s.c]⟩ 65 (0, 0))
  revert hs
  generalize upd h0 b1 _ = h1
  intro hs
  have hs : Sat (L ++ [row b0 26 zeroC, row b1 65 [s.v]]) h1 := hs
  have hs1 : Sat ((L ++ [row b0 26 zeroC]) ++ [row b1 65 [s.v]]) h1 := Sat.csa hs
  -- where it is bad
  have jbad : ∀ (e : Int) (p7 : Option Addr) (hh : Hp), e ≠ 0 → decL l = (e, dec0) → Sat (L ++ [row b0 26 zeroC]) hh → N17_j0 (some (bk b0)) e p7 hh fun n3 h13 => xI .i64 (cell h13 (bk b0)) fun n4 => xS (cell h13 ((bk b0).add 1)) fun s0 => xS (cell h13 ((bk b0).add 2)) fun s1 => xL (cell h13 ((bk b0).add 3)) fun s2 =>
        xI .i64 (cell h13 ((bk b0).add 4)) fun n5 => xL (cell h13 ((bk b0).add 5)) fun s3 => xI .i64 (cell h13 ((bk b0).add 6)) fun n6 => xS (cell h13 ((bk b0).add 7)) fun s4 => K n4 s0 s1 s2 n5 s3 n6 s4 n3 h13 := by
    intro e p7 hh he hd hs
    unfold N17_j0
    rw [show (e != 0) = true by simpa using he, cond_true]
    simp only [nn_some', add_bk]
    refine hs.st 0 rfl (by simp [zeroC]) rfl ?_
    intro _ hs
    refine hs.st 0 rfl (by simp [zeroC]) rfl ?_
    intro _ hs
    refine hs.st 0 rfl (by simp [zeroC]) rfl ?_
    intro _ hs
    refine hs.st 0 rfl (by simp [zeroC]) rfl ?_
    intro _ hs
    refine hs.st 0 rfl (by simp [zeroC]) rfl ?_
    intro _ hs
    refine hs.st 0 rfl (by simp [zeroC]) rfl ?_
    intro _ hs
    refine hs.st 0 rfl (by simp [zeroC]) rfl ?_
    intro _ hs
    refine hs.st 0 rfl (by simp [zeroC]) rfl ?_
    intro h9 hs
    have hs : Sat (L ++ [row b0 26 zeroC]) h9 := hs
    refine hs.lI 0 rfl rfl ?_
    refine hs.lS 0 rfl rfl ?_
    refine hs.lS 0 rfl rfl ?_
    refine hs.lL 0 rfl rfl ?_
    refine hs.lI 0 rfl rfl ?_
    refine hs.lL 0 rfl rfl ?_
    refine hs.lI 0 rfl rfl ?_
    refine hs.lS 0 rfl rfl ?_
    rw [hd] at hK
    have g : Sat (L ++ []) h9 := hs.sel [] (by decide) rfl
    exact hK ⟨none, 0, 0⟩ ⟨none, 0, 0⟩ h9 ((g.addNil 56 2).addNil 5 1)
  refine c_rnumber (Q := Sat L) hs1 (fun h' g => g.left) H (by omega) ?_ ?_
  · intro h2 b2 e2
    have hs2 := hs.new e2 (.cells ⟨[.int .i64 0, .string (⟨⟨[]⟩⟩ : ByteArray), .string (⟨⟨[]⟩⟩ : ByteArray), .slice none 0 0, .int .i64 0, .slice none 0 0, .int .i64 0, .string (⟨⟨[]⟩⟩ : ByteArray)]⟩ 26 (0, 0))
    revert hs2
    generalize upd h1 b2 _ = h3
    intro hs2
    have hs : Sat (L ++ [row b0 26 zeroC, row b1 65 [s.v], row b2 26 zeroC]) h3 := hs2
    simp only [add_bk]
    refine hs.st 2 rfl (by simp [zeroC]) rfl ?_
    intro _ hs
    refine hs.st 2 rfl (by simp [zeroC]) rfl ?_
    intro _ hs
    refine hs.st 2 rfl (by simp [zeroC]) rfl ?_
    intro _ hs
    refine hs.st 2 rfl (by simp [zeroC]) rfl ?_
    intro _ hs
    refine hs.st 2 rfl (by simp [zeroC]) rfl ?_
    intro _ hs
    refine hs.st 2 rfl (by simp [zeroC]) rfl ?_
    intro _ hs
    refine hs.st 2 rfl (by simp [zeroC]) rfl ?_
    intro _ hs
    refine hs.st 2 rfl (by simp [zeroC]) rfl ?_
    intro h11 hs
    rw [show ((5 : Int) == 0) = false from rfl, cond_false]
    have g : Sat (L ++ [row b0 26 zeroC]) h11 := hs.sel [0] (by decide) rfl
    have := jbad 5 (some (bk b2)) h11 (by decide) (by unfold decL; rw [if_pos h2]) g
    simp only [add_bk] at this
    exact this
  · intro h2 s' H' h2' hs2 b2 e2
    have hs2 : Sat (L ++ [row b0 26 zeroC, row b1 65 [s'.v]]) h2' := Sat.asc hs2
    have hs2 := hs2.new e2 (.cells ⟨[.int .i64 0, .string (⟨⟨[]⟩⟩ : ByteArray), .string (⟨⟨[]⟩⟩ : ByteArray), .slice none 0 0, .int .i64 0, .slice none 0 0, .int .i64 0, .string (⟨⟨[]⟩⟩ : ByteArray)]⟩ 26 (0, 0))
    revert hs2
    generalize upd h2' b2 _ = h3
    intro hs2
    have hs : Sat (L ++ [row b0 26 zeroC, row b1 65 [s'.v], row b2 26 zeroC]) h3 := hs2
    simp only [add_bk]
    refine hs.st 2 rfl (by simp [zeroC]) rfl ?_
    intro _ hs
    refine hs.st 2 rfl (by simp [zeroC]) rfl ?_
    intro _ hs
    refine hs.st 2 rfl (by simp [zeroC]) rfl ?_
    intro _ hs
    refine hs.st 2 rfl (by simp [zeroC]) rfl ?_
    intro _ hs
    refine hs.st 2 rfl (by simp [zeroC]) rfl ?_
    intro _ hs
    refine hs.st 2 rfl (by simp [zeroC]) rfl ?_
    intro _ hs
    refine hs.st 2 rfl (by simp [zeroC]) rfl ?_
    intro _ hs
    refine hs.st 2 rfl (by simp [zeroC]) rfl ?_
    intro h11 hs
    have hs : Sat (L ++ [row b0 26 zeroC, row b1 65 [s'.v], row b2 26 (decC { dec0 with op := be2 l } ⟨none, 0, 0⟩ ⟨none, 0, 0⟩)]) h11 := hs
    rw [show ((0 : Int) == 0) = true from rfl, cond_true]
    have g1 : Sat ((L ++ [row b0 26 zeroC]) ++ [row b1 65 [s'.v], row b2 26 (decC { dec0 with op := be2 l } ⟨none, 0, 0⟩ ⟨none, 0, 0⟩)]) h11 := Sat.csa hs
    refine c_fields g1 (fun h' g => H' h' g.left) (fun h' g => G h' g.left) (by simp; omega) ?_ ?_
    · intro he h12 g12
      have := jbad _ (some (bk b2)) h12 he (decL_bad h2 he rfl) g12
      simp only [add_bk] at this
      exact this
    · intro he so sd h12 g12
      have hs : Sat (L ++ [row b0 26 zeroC, row b2 26 (decC (decF (be2 l) (l.drop 2)).2 so sd), Hw.own 56 2 so ((decF (be2 l) (l.drop 2)).2.os.flatMap oc), Hw.own 5 1 sd (bc (decF (be2 l) (l.drop 2)).2.data)]) h12 := Sat.asc g12
      have ed := decL_good h2 he
      rw [ed] at hK
      generalize (decF (be2 l) (l.drop 2)).2 = d at hs hK
      unfold N17_j0
      rw [show ((0 : Int) != 0) = false from rfl, cond_false]
      simp only [nn_some', add_bk]
      refine hs.lI 1 rfl rfl ?_
      refine hs.lS 1 rfl rfl ?_
      refine hs.lS 1 rfl rfl ?_
      refine hs.lL 1 rfl rfl ?_
      refine hs.lI 1 rfl rfl ?_
      refine hs.lL 1 rfl rfl ?_
      refine hs.lI 1 rfl rfl ?_
      refine hs.lS 1 rfl rfl ?_
      refine hs.st 0 rfl (by simp [zeroC]) rfl ?_
      intro _ hs
      refine hs.st 0 rfl (by simp [zeroC]) rfl ?_
      intro _ hs
      refine hs.st 0 rfl (by simp [zeroC]) rfl ?_
      intro _ hs
      refine hs.st 0 rfl (by simp [zeroC]) rfl ?_
      intro _ hs
      refine hs.st 0 rfl (by simp [zeroC]) rfl ?_
      intro _ hs
      refine hs.st 0 rfl (by simp [zeroC]) rfl ?_
      intro _ hs
      refine hs.st 0 rfl (by simp [zeroC]) rfl ?_
      intro _ hs
      refine hs.st 0 rfl (by simp [zeroC]) rfl ?_
      intro h20 hs
      have hs : Sat (L ++ [row b0 26 (decC d so sd), row b2 26 (decC d so sd), Hw.own 56 2 so (d.os.flatMap oc), Hw.own 5 1 sd (bc d.data)]) h20 := hs
      refine hs.lI 0 rfl rfl ?_
      refine hs.lS 0 rfl rfl ?_
      refine hs.lS 0 rfl rfl ?_
      refine hs.lL 0 rfl rfl ?_
      refine hs.lI 0 rfl rfl ?_
      refine hs.lL 0 rfl rfl ?_
      refine hs.lI 0 rfl rfl ?_
      refine hs.lS 0 rfl rfl ?_
      rw [he] at hK
      exact hK so sd h20 (hs.sel [2, 3] (by decide) rfl)
end Go.Proofs.YtedklcmdjoojfaaDoor

set_option linter.unusedVariables false
set_option maxRecDepth 100000
namespace Go.Proofs.YtedklcmdjoojfaaDoor
open Go Go.Hw
/-! ### 40 slipway/slipwayref17.decodeRead -/
noncomputable def B40 : Code := match Tryd.f40.body with | some c => c | none => .skip
def N40_j0 (x0_b : Sl) (x2 : Option Addr) (x4_file : ByteArray) (x25 : Bool) (h : Hp) (K_normal : Hp → Prop) (K_ret : Int → Hp → Prop) : Prop :=
  bif x25 then
    nn x2 fun a0 =>
    st h a0 (.int .i64 0) fun h0 =>
    st h0 (a0.add 1) (.string (⟨⟨[]⟩⟩ : ByteArray)) fun h1 =>
    st h1 (a0.add 2) (.string (⟨⟨[]⟩⟩ : ByteArray)) fun h2 =>
    st h2 (a0.add 3) (.slice none 0 0) fun h3 =>
    st h3 (a0.add 4) (.int .i64 0) fun h4 =>
    st h4 (a0.add 5) (.slice none 0 0) fun h5 =>
    st h5 (a0.add 6) (.int .i64 0) fun h6 =>
    st h6 (a0.add 7) (.string (⟨⟨[]⟩⟩ : ByteArray)) fun h7 =>
    K_ret 171 h7
  else
    K_normal h
noncomputable def N40_j0_t : Xf := pieceT [(0, .c (.slice)), (2, .c (.ptr)), (4, .c (.str)), (25, .c (.bool))] (codeAt B40 [1, 1, 1, 0, 1]) fun x h Q => N40_j0 x.1 x.2.1 x.2.2.1 x.2.2.2 h (fun h' => Q .normal (Sg.env [] ()) h') (fun o0 h' => Q .ret (Sg.env [(3, .c (.int .i64))] o0) h')
theorem N40_j0_ok : Sound Tryd.prog Tryd.f40.ntmps N40_j0_t (codeAt B40 [1, 1, 1, 0, 1]) := by
  refine piece_sound (fun e => match e with | .normal => [] | .ret => [3] | _ => []) ?_
  intro x h Q hb
  refine den_sound hE hm _ .leaf _ _ _ (annOk_leaf) ?_
  refine cast ?_ hb
  kernel_rfl
def N40_j1 (x0_b : Sl) (x2 : Option Addr) (x4_file : ByteArray) (h : Hp) (K_ret : Int → Hp → Prop) : Prop :=
  C42 x0_b h fun s0 s1 b0 h0 =>
  bif (!b0) then
    nn x2 fun a0 =>
    st h0 a0 (.int .i64 0) fun h1 =>
    st h1 (a0.add 1) (.string (⟨⟨[]⟩⟩ : ByteArray)) fun h2 =>
    st h2 (a0.add 2) (.string (⟨⟨[]⟩⟩ : ByteArray)) fun h3 =>
    st h3 (a0.add 3) (.slice none 0 0) fun h4 =>
    st h4 (a0.add 4) (.int .i64 0) fun h5 =>
    st h5 (a0.add 5) (.slice none 0 0) fun h6 =>
    st h6 (a0.add 6) (.int .i64 0) fun h7 =>
    st h7 (a0.add 7) (.string (⟨⟨[]⟩⟩ : ByteArray)) fun h8 =>
    K_ret 5 h8
  else
    C61 s0 h0 fun s2 h9 =>
    bif (!(s2.toList == (⟨⟨[111, 99, 116, 101, 116]⟩⟩ : ByteArray).toList)) then
      nn x2 fun a1 =>
      st h9 a1 (.int .i64 0) fun h10 =>
      st h10 (a1.add 1) (.string (⟨⟨[]⟩⟩ : ByteArray)) fun h11 =>
      st h11 (a1.add 2) (.string (⟨⟨[]⟩⟩ : ByteArray)) fun h12 =>
      st h12 (a1.add 3) (.slice none 0 0) fun h13 =>
      st h13 (a1.add 4) (.int .i64 0) fun h14 =>
      st h14 (a1.add 5) (.slice none 0 0) fun h15 =>
      st h15 (a1.add 6) (.int .i64 0) fun h16 =>
      st h16 (a1.add 7) (.string (⟨⟨[]⟩⟩ : ByteArray)) fun h17 =>
      K_ret 171 h17
    else
      C41 s1 h9 fun s3 n0 h18 =>
      bif (n0 != 0) then
        nn x2 fun a2 =>
        st h18 a2 (.int .i64 0) fun h19 =>
        st h19 (a2.add 1) (.string (⟨⟨[]⟩⟩ : ByteArray)) fun h20 =>
        st h20 (a2.add 2) (.string (⟨⟨[]⟩⟩ : ByteArray)) fun h21 =>
        st h21 (a2.add 3) (.slice none 0 0) fun h22 =>
        st h22 (a2.add 4) (.int .i64 0) fun h23 =>
        st h23 (a2.add 5) (.slice none 0 0) fun h24 =>
        st h24 (a2.add 6) (.int .i64 0) fun h25 =>
        st h25 (a2.add 7) (.string (⟨⟨[]⟩⟩ : ByteArray)) fun h26 =>
        K_ret n0 h26
      else
        nn x2 fun a3 =>
        st h18 a3 (.int .i64 1) fun h27 =>
        st h27 (a3.add 1) (.string x4_file) fun h28 =>
        st h28 (a3.add 2) (.string (⟨⟨[111, 99, 116, 101, 116]⟩⟩ : ByteArray)) fun h29 =>
        st h29 (a3.add 3) (.slice s3.p s3.n s3.c) fun h30 =>
        st h30 (a3.add 4) (.int .i64 0) fun h31 =>
        st h31 (a3.add 5) (.slice none 0 0) fun h32 =>
        st h32 (a3.add 6) (.int .i64 0) fun h33 =>
        st h33 (a3.add 7) (.string (⟨⟨[]⟩⟩ : ByteArray)) fun h34 =>
        K_ret 0 h34
noncomputable def N40_j1_t : Xf := pieceT [(0, .c (.slice)), (2, .c (.ptr)), (4, .c (.str))] (codeAt B40 [1, 1, 1, 1]) fun x h Q => N40_j1 x.1 x.2.1 x.2.2 h (fun o0 h' => Q .ret (Sg.env [(3, .c (.int .i64))] o0) h')
theorem N40_j1_ok : Sound Tryd.prog Tryd.f40.ntmps N40_j1_t (codeAt B40 [1, 1, 1, 1]) := by
  refine piece_sound (fun e => match e with | .ret => [3] | _ => []) ?_
  intro x h Q hb
  refine den_sound hE hm _ .leaf _ _ _ (annOk_leaf) ?_
  refine cast ?_ hb
  kernel_rfl
def N40 (x0 : Sl) (h : Hp) (K : Int → ByteArray → ByteArray → Sl → Int → Sl → Int → ByteArray → Int → Hp → Prop) : Prop :=
  nw h (.cells ⟨[.int .i64 0, .string (⟨⟨[]⟩⟩ : ByteArray), .string (⟨⟨[]⟩⟩ : ByteArray), .slice none 0 0, .int .i64 0, .slice none 0 0, .int .i64 0, .string (⟨⟨[]⟩⟩ : ByteArray)]⟩ 26) fun b0 h0 =>
  C42 x0 h0 fun s0 s1 b1 h1 =>
  bif (!b1) then
    st h1 (bk b0) (.int .i64 0) fun h2 =>
    st h2 ((bk b0).add 1) (.string (⟨⟨[]⟩⟩ : ByteArray)) fun h3 =>
    st h3 ((bk b0).add 2) (.string (⟨⟨[]⟩⟩ : ByteArray)) fun h4 =>
    st h4 ((bk b0).add 3) (.slice none 0 0) fun h5 =>
    st h5 ((bk b0).add 4) (.int .i64 0) fun h6 =>
    st h6 ((bk b0).add 5) (.slice none 0 0) fun h7 =>
    st h7 ((bk b0).add 6) (.int .i64 0) fun h8 =>
    st h8 ((bk b0).add 7) (.string (⟨⟨[]⟩⟩ : ByteArray)) fun h9 =>
    xI .i64 (cell h9 (bk b0)) fun n0 =>
    xS (cell h9 ((bk b0).add 1)) fun s2 =>
    xS (cell h9 ((bk b0).add 2)) fun s3 =>
    xL (cell h9 ((bk b0).add 3)) fun s4 =>
    xI .i64 (cell h9 ((bk b0).add 4)) fun n1 =>
    xL (cell h9 ((bk b0).add 5)) fun s5 =>
    xI .i64 (cell h9 ((bk b0).add 6)) fun n2 =>
    xS (cell h9 ((bk b0).add 7)) fun s6 =>
    K n0 s2 s3 s4 n1 s5 n2 s6 5 h9
  else
    bif (decide ((s0.size : Int) < 1)) then
      N40_j0 s1 (some (bk b0)) s0 true h1
        (fun h10 =>
          N40_j1 s1 (some (bk b0)) s0 h10
            (fun n3 h11 =>
              xI .i64 (cell h11 (bk b0)) fun n4 =>
              xS (cell h11 ((bk b0).add 1)) fun s7 =>
              xS (cell h11 ((bk b0).add 2)) fun s8 =>
              xL (cell h11 ((bk b0).add 3)) fun s9 =>
              xI .i64 (cell h11 ((bk b0).add 4)) fun n5 =>
              xL (cell h11 ((bk b0).add 5)) fun s10 =>
              xI .i64 (cell h11 ((bk b0).add 6)) fun n6 =>
              xS (cell h11 ((bk b0).add 7)) fun s11 =>
              K n4 s7 s8 s9 n5 s10 n6 s11 n3 h11))
        (fun n7 h12 =>
          xI .i64 (cell h12 (bk b0)) fun n8 =>
          xS (cell h12 ((bk b0).add 1)) fun s12 =>
          xS (cell h12 ((bk b0).add 2)) fun s13 =>
          xL (cell h12 ((bk b0).add 3)) fun s14 =>
          xI .i64 (cell h12 ((bk b0).add 4)) fun n9 =>
          xL (cell h12 ((bk b0).add 5)) fun s15 =>
          xI .i64 (cell h12 ((bk b0).add 6)) fun n10 =>
          xS (cell h12 ((bk b0).add 7)) fun s16 =>
          K n8 s12 s13 s14 n9 s15 n10 s16 n7 h12)
    else
      N40_j0 s1 (some (bk b0)) s0 (decide ((s0.size : Int) > 64)) h1
        (fun h13 =>
          N40_j1 s1 (some (bk b0)) s0 h13
            (fun n11 h14 =>
              xI .i64 (cell h14 (bk b0)) fun n12 =>
              xS (cell h14 ((bk b0).add 1)) fun s17 =>
              xS (cell h14 ((bk b0).add 2)) fun s18 =>
              xL (cell h14 ((bk b0).add 3)) fun s19 =>
              xI .i64 (cell h14 ((bk b0).add 4)) fun n13 =>
              xL (cell h14 ((bk b0).add 5)) fun s20 =>
              xI .i64 (cell h14 ((bk b0).add 6)) fun n14 =>
              xS (cell h14 ((bk b0).add 7)) fun s21 =>
              K n12 s17 s18 s19 n13 s20 n14 s21 n11 h14))
        (fun n15 h15 =>
          xI .i64 (cell h15 (bk b0)) fun n16 =>
          xS (cell h15 ((bk b0).add 1)) fun s22 =>
          xS (cell h15 ((bk b0).add 2)) fun s23 =>
          xL (cell h15 ((bk b0).add 3)) fun s24 =>
          xI .i64 (cell h15 ((bk b0).add 4)) fun n17 =>
          xL (cell h15 ((bk b0).add 5)) fun s25 =>
          xI .i64 (cell h15 ((bk b0).add 6)) fun n18 =>
          xS (cell h15 ((bk b0).add 7)) fun s26 =>
          K n16 s22 s23 s24 n17 s25 n18 s26 n15 h15)
theorem S40 {x0 : Sl} {h : Hp} {K : Int → ByteArray → ByteArray → Sl → Int → Sl → Int → ByteArray → Int → Hp → Prop} (hn : N40 x0 h K) : C40 x0 h K := by
  refine calls_of_M Tryd.func40 (c := B40) rfl (by kernel_rfl) ?_
  refine den_sound hE hm _ (.two .leaf (.two .leaf (.two .leaf (.two (.two .leaf (.xf N40_j0_t)) (.xf N40_j1_t))))) _ _ _ (⟨annOk_leaf, ⟨annOk_leaf, ⟨annOk_leaf, ⟨⟨annOk_leaf, N40_j0_ok⟩, N40_j1_ok⟩⟩⟩⟩) ?_
  refine cast ?_ hn
  kernel_rfl
end Go.Proofs.YtedklcmdjoojfaaDoor

set_option linter.unusedVariables false
set_option maxRecDepth 100000
namespace Go.Proofs.YtedklcmdjoojfaaDoor
open Go Go.Hw
/-! ### 18 slipway/slipwayref17.Decode -/
noncomputable def B18 : Code := match Tryd.f18.body with | some c => c | none => .skip
def N18_j0 (x0_b : Sl) (x2 : Option Addr) (x4_op : Int) (x49 : Bool) (h : Hp) (K_normal : Hp → Prop) (K_ret : Int → Hp → Prop) : Prop :=
  bif x49 then
    K_normal h
  else
    nn x2 fun a0 =>
    st h a0 (.int .i64 0) fun h0 =>
    st h0 (a0.add 1) (.string (⟨⟨[]⟩⟩ : ByteArray)) fun h1 =>
    st h1 (a0.add 2) (.string (⟨⟨[]⟩⟩ : ByteArray)) fun h2 =>
    st h2 (a0.add 3) (.slice none 0 0) fun h3 =>
    st h3 (a0.add 4) (.int .i64 0) fun h4 =>
    st h4 (a0.add 5) (.slice none 0 0) fun h5 =>
    st h5 (a0.add 6) (.int .i64 0) fun h6 =>
    st h6 (a0.add 7) (.string (⟨⟨[]⟩⟩ : ByteArray)) fun h7 =>
    K_ret 170 h7
noncomputable def N18_j0_t : Xf := pieceT [(0, .c (.slice)), (2, .c (.ptr)), (4, .c (.int .i64)), (49, .c (.bool))] (codeAt B18 [1, 1, 1, 1, 0, 1, 0, 1, 1, 1, 1, 1]) fun x h Q => N18_j0 x.1 x.2.1 x.2.2.1 x.2.2.2 h (fun h' => Q .normal (Sg.env [] ()) h') (fun o0 h' => Q .ret (Sg.env [(3, .c (.int .i64))] o0) h')
theorem N18_j0_ok : Sound Tryd.prog Tryd.f18.ntmps N18_j0_t (codeAt B18 [1, 1, 1, 1, 0, 1, 0, 1, 1, 1, 1, 1]) := by
  refine piece_sound (fun e => match e with | .normal => [] | .ret => [3] | _ => []) ?_
  intro x h Q hb
  refine den_sound hE hm _ .leaf _ _ _ (annOk_leaf) ?_
  refine cast ?_ hb
  kernel_rfl
def N18_j1 (x0_b : Sl) (x2 : Option Addr) (x4_op : Int) (h : Hp) (K_ret : Int → Hp → Prop) : Prop :=
  bif (decide (((x0_b.n : Nat) : Int) < 2)) then
    nn x2 fun a0 =>
    st h a0 (.int .i64 0) fun h0 =>
    st h0 (a0.add 1) (.string (⟨⟨[]⟩⟩ : ByteArray)) fun h1 =>
    st h1 (a0.add 2) (.string (⟨⟨[]⟩⟩ : ByteArray)) fun h2 =>
    st h2 (a0.add 3) (.slice none 0 0) fun h3 =>
    st h3 (a0.add 4) (.int .i64 0) fun h4 =>
    st h4 (a0.add 5) (.slice none 0 0) fun h5 =>
    st h5 (a0.add 6) (.int .i64 0) fun h6 =>
    st h6 (a0.add 7) (.string (⟨⟨[]⟩⟩ : ByteArray)) fun h7 =>
    K_ret 5 h7
  else
    idx 0 x0_b.n <|
    nn x0_b.p fun a1 =>
    xI .u8 (cell h (a1.add ((0 : Int).toNat * 1))) fun n0 =>
    idx 1 x0_b.n <|
    nn x0_b.p fun a2 =>
    xI .u8 (cell h (a2.add ((1 : Int).toNat * 1))) fun n1 =>
    bd 2 x0_b.n fun k0 =>
    bif (x4_op == 4) then
      nn x2 fun a3 =>
      st h a3 (.int .i64 x4_op) fun h8 =>
      st h8 (a3.add 1) (.string (⟨⟨[]⟩⟩ : ByteArray)) fun h9 =>
      st h9 (a3.add 2) (.string (⟨⟨[]⟩⟩ : ByteArray)) fun h10 =>
      st h10 (a3.add 3) (.slice none 0 0) fun h11 =>
      st h11 (a3.add 4) (.int .i64 (IntKind.wrap .i64 ((IntKind.wrap .i64 ((IntKind.wrap .i64 n0) * 256)) + (IntKind.wrap .i64 n1)))) fun h12 =>
      st h12 (a3.add 5) (.slice none 0 0) fun h13 =>
      st h13 (a3.add 6) (.int .i64 0) fun h14 =>
      st h14 (a3.add 7) (.string (⟨⟨[]⟩⟩ : ByteArray)) fun h15 =>
      K_ret 0 h15
    else
      bif (x4_op == 3) then
        bif (decide (((x0_b.n - k0 : Nat) : Int) > 65464)) then
          nn x2 fun a4 =>
          st h a4 (.int .i64 0) fun h16 =>
          st h16 (a4.add 1) (.string (⟨⟨[]⟩⟩ : ByteArray)) fun h17 =>
          st h17 (a4.add 2) (.string (⟨⟨[]⟩⟩ : ByteArray)) fun h18 =>
          st h18 (a4.add 3) (.slice none 0 0) fun h19 =>
          st h19 (a4.add 4) (.int .i64 0) fun h20 =>
          st h20 (a4.add 5) (.slice none 0 0) fun h21 =>
          st h21 (a4.add 6) (.int .i64 0) fun h22 =>
          st h22 (a4.add 7) (.string (⟨⟨[]⟩⟩ : ByteArray)) fun h23 =>
          K_ret 2 h23
        else
          C35 ⟨none, 0, 0⟩ ⟨sadr x0_b.p x0_b.c k0 1, x0_b.n - k0, x0_b.c - k0⟩ h fun s0 h24 =>
          nn x2 fun a5 =>
          st h24 a5 (.int .i64 x4_op) fun h25 =>
          st h25 (a5.add 1) (.string (⟨⟨[]⟩⟩ : ByteArray)) fun h26 =>
          st h26 (a5.add 2) (.string (⟨⟨[]⟩⟩ : ByteArray)) fun h27 =>
          st h27 (a5.add 3) (.slice none 0 0) fun h28 =>
          st h28 (a5.add 4) (.int .i64 (IntKind.wrap .i64 ((IntKind.wrap .i64 ((IntKind.wrap .i64 n0) * 256)) + (IntKind.wrap .i64 n1)))) fun h29 =>
          st h29 (a5.add 5) (.slice s0.p s0.n s0.c) fun h30 =>
          st h30 (a5.add 6) (.int .i64 0) fun h31 =>
          st h31 (a5.add 7) (.string (⟨⟨[]⟩⟩ : ByteArray)) fun h32 =>
          K_ret 0 h32
      else
        C42 ⟨sadr x0_b.p x0_b.c k0 1, x0_b.n - k0, x0_b.c - k0⟩ h fun s1 s2 b0 h33 =>
        bif (!b0) then
          nn x2 fun a6 =>
          st h33 a6 (.int .i64 0) fun h34 =>
          st h34 (a6.add 1) (.string (⟨⟨[]⟩⟩ : ByteArray)) fun h35 =>
          st h35 (a6.add 2) (.string (⟨⟨[]⟩⟩ : ByteArray)) fun h36 =>
          st h36 (a6.add 3) (.slice none 0 0) fun h37 =>
          st h37 (a6.add 4) (.int .i64 0) fun h38 =>
          st h38 (a6.add 5) (.slice none 0 0) fun h39 =>
          st h39 (a6.add 6) (.int .i64 0) fun h40 =>
          st h40 (a6.add 7) (.string (⟨⟨[]⟩⟩ : ByteArray)) fun h41 =>
          K_ret 5 h41
        else
          bif (decide ((s1.size : Int) > 255)) then
            nn x2 fun a7 =>
            st h33 a7 (.int .i64 0) fun h42 =>
            st h42 (a7.add 1) (.string (⟨⟨[]⟩⟩ : ByteArray)) fun h43 =>
            st h43 (a7.add 2) (.string (⟨⟨[]⟩⟩ : ByteArray)) fun h44 =>
            st h44 (a7.add 3) (.slice none 0 0) fun h45 =>
            st h45 (a7.add 4) (.int .i64 0) fun h46 =>
            st h46 (a7.add 5) (.slice none 0 0) fun h47 =>
            st h47 (a7.add 6) (.int .i64 0) fun h48 =>
            st h48 (a7.add 7) (.string (⟨⟨[]⟩⟩ : ByteArray)) fun h49 =>
            K_ret 2 h49
          else
            nn x2 fun a8 =>
            st h33 a8 (.int .i64 x4_op) fun h50 =>
            st h50 (a8.add 1) (.string (⟨⟨[]⟩⟩ : ByteArray)) fun h51 =>
            st h51 (a8.add 2) (.string (⟨⟨[]⟩⟩ : ByteArray)) fun h52 =>
            st h52 (a8.add 3) (.slice none 0 0) fun h53 =>
            st h53 (a8.add 4) (.int .i64 0) fun h54 =>
            st h54 (a8.add 5) (.slice none 0 0) fun h55 =>
            st h55 (a8.add 6) (.int .i64 (IntKind.wrap .i64 ((IntKind.wrap .i64 ((IntKind.wrap .i64 n0) * 256)) + (IntKind.wrap .i64 n1)))) fun h56 =>
            st h56 (a8.add 7) (.string s1) fun h57 =>
            K_ret 0 h57
noncomputable def N18_j1_t : Xf := pieceT [(0, .c (.slice)), (2, .c (.ptr)), (4, .c (.int .i64))] (codeAt B18 [1, 1, 1, 1, 1]) fun x h Q => N18_j1 x.1 x.2.1 x.2.2 h (fun o0 h' => Q .ret (Sg.env [(3, .c (.int .i64))] o0) h')
theorem N18_j1_ok : Sound Tryd.prog Tryd.f18.ntmps N18_j1_t (codeAt B18 [1, 1, 1, 1, 1]) := by
  refine piece_sound (fun e => match e with | .ret => [3] | _ => []) ?_
  intro x h Q hb
  refine den_sound hE hm _ (.two .leaf (.two (.ord [0, 1, 2, 3, 4, 5, 6, 7, 8, 9, 10]) .leaf)) _ _ _ (⟨annOk_leaf, ⟨trivial, annOk_leaf⟩⟩) ?_
  refine cast ?_ hb
  kernel_rfl
def N18 (x0 : Sl) (h : Hp) (K : Int → ByteArray → ByteArray → Sl → Int → Sl → Int → ByteArray → Int → Hp → Prop) : Prop :=
  nw h (.cells ⟨[.int .i64 0, .string (⟨⟨[]⟩⟩ : ByteArray), .string (⟨⟨[]⟩⟩ : ByteArray), .slice none 0 0, .int .i64 0, .slice none 0 0, .int .i64 0, .string (⟨⟨[]⟩⟩ : ByteArray)]⟩ 26) fun b0 h0 =>
  bif (decide (((x0.n : Nat) : Int) < 2)) then
    st h0 (bk b0) (.int .i64 0) fun h1 =>
    st h1 ((bk b0).add 1) (.string (⟨⟨[]⟩⟩ : ByteArray)) fun h2 =>
    st h2 ((bk b0).add 2) (.string (⟨⟨[]⟩⟩ : ByteArray)) fun h3 =>
    st h3 ((bk b0).add 3) (.slice none 0 0) fun h4 =>
    st h4 ((bk b0).add 4) (.int .i64 0) fun h5 =>
    st h5 ((bk b0).add 5) (.slice none 0 0) fun h6 =>
    st h6 ((bk b0).add 6) (.int .i64 0) fun h7 =>
    st h7 ((bk b0).add 7) (.string (⟨⟨[]⟩⟩ : ByteArray)) fun h8 =>
    xI .i64 (cell h8 (bk b0)) fun n0 =>
    xS (cell h8 ((bk b0).add 1)) fun s0 =>
    xS (cell h8 ((bk b0).add 2)) fun s1 =>
    xL (cell h8 ((bk b0).add 3)) fun s2 =>
    xI .i64 (cell h8 ((bk b0).add 4)) fun n1 =>
    xL (cell h8 ((bk b0).add 5)) fun s3 =>
    xI .i64 (cell h8 ((bk b0).add 6)) fun n2 =>
    xS (cell h8 ((bk b0).add 7)) fun s4 =>
    K n0 s0 s1 s2 n1 s3 n2 s4 5 h8
  else
    idx 0 x0.n <|
    nn x0.p fun a0 =>
    xI .u8 (cell h0 (a0.add ((0 : Int).toNat * 1))) fun n3 =>
    idx 1 x0.n <|
    nn x0.p fun a1 =>
    xI .u8 (cell h0 (a1.add ((1 : Int).toNat * 1))) fun n4 =>
    bd 2 x0.n fun k0 =>
    bif ((IntKind.wrap .i64 ((IntKind.wrap .i64 ((IntKind.wrap .i64 n3) * 256)) + (IntKind.wrap .i64 n4))) == 1) then
      C40 ⟨sadr x0.p x0.c k0 1, x0.n - k0, x0.c - k0⟩ h0 fun n5 s5 s6 s7 n6 s8 n7 s9 n8 h9 =>
      st h9 (bk b0) (.int .i64 n5) fun h10 =>
      st h10 ((bk b0).add 1) (.string s5) fun h11 =>
      st h11 ((bk b0).add 2) (.string s6) fun h12 =>
      st h12 ((bk b0).add 3) (.slice s7.p s7.n s7.c) fun h13 =>
      st h13 ((bk b0).add 4) (.int .i64 n6) fun h14 =>
      st h14 ((bk b0).add 5) (.slice s8.p s8.n s8.c) fun h15 =>
      st h15 ((bk b0).add 6) (.int .i64 n7) fun h16 =>
      st h16 ((bk b0).add 7) (.string s9) fun h17 =>
      xI .i64 (cell h17 (bk b0)) fun n9 =>
      xS (cell h17 ((bk b0).add 1)) fun s10 =>
      xS (cell h17 ((bk b0).add 2)) fun s11 =>
      xL (cell h17 ((bk b0).add 3)) fun s12 =>
      xI .i64 (cell h17 ((bk b0).add 4)) fun n10 =>
      xL (cell h17 ((bk b0).add 5)) fun s13 =>
      xI .i64 (cell h17 ((bk b0).add 6)) fun n11 =>
      xS (cell h17 ((bk b0).add 7)) fun s14 =>
      K n9 s10 s11 s12 n10 s13 n11 s14 n8 h17
    else
      bif ((IntKind.wrap .i64 ((IntKind.wrap .i64 ((IntKind.wrap .i64 n3) * 256)) + (IntKind.wrap .i64 n4))) == 6) then
        C41 ⟨sadr x0.p x0.c k0 1, x0.n - k0, x0.c - k0⟩ h0 fun s15 n12 h18 =>
        bif (n12 != 0) then
          st h18 (bk b0) (.int .i64 0) fun h19 =>
          st h19 ((bk b0).add 1) (.string (⟨⟨[]⟩⟩ : ByteArray)) fun h20 =>
          st h20 ((bk b0).add 2) (.string (⟨⟨[]⟩⟩ : ByteArray)) fun h21 =>
          st h21 ((bk b0).add 3) (.slice none 0 0) fun h22 =>
          st h22 ((bk b0).add 4) (.int .i64 0) fun h23 =>
          st h23 ((bk b0).add 5) (.slice none 0 0) fun h24 =>
          st h24 ((bk b0).add 6) (.int .i64 0) fun h25 =>
          st h25 ((bk b0).add 7) (.string (⟨⟨[]⟩⟩ : ByteArray)) fun h26 =>
          xI .i64 (cell h26 (bk b0)) fun n13 =>
          xS (cell h26 ((bk b0).add 1)) fun s16 =>
          xS (cell h26 ((bk b0).add 2)) fun s17 =>
          xL (cell h26 ((bk b0).add 3)) fun s18 =>
          xI .i64 (cell h26 ((bk b0).add 4)) fun n14 =>
          xL (cell h26 ((bk b0).add 5)) fun s19 =>
          xI .i64 (cell h26 ((bk b0).add 6)) fun n15 =>
          xS (cell h26 ((bk b0).add 7)) fun s20 =>
          K n13 s16 s17 s18 n14 s19 n15 s20 n12 h26
        else
          st h18 (bk b0) (.int .i64 (IntKind.wrap .i64 ((IntKind.wrap .i64 ((IntKind.wrap .i64 n3) * 256)) + (IntKind.wrap .i64 n4)))) fun h27 =>
          st h27 ((bk b0).add 1) (.string (⟨⟨[]⟩⟩ : ByteArray)) fun h28 =>
          st h28 ((bk b0).add 2) (.string (⟨⟨[]⟩⟩ : ByteArray)) fun h29 =>
          st h29 ((bk b0).add 3) (.slice s15.p s15.n s15.c) fun h30 =>
          st h30 ((bk b0).add 4) (.int .i64 0) fun h31 =>
          st h31 ((bk b0).add 5) (.slice none 0 0) fun h32 =>
          st h32 ((bk b0).add 6) (.int .i64 0) fun h33 =>
          st h33 ((bk b0).add 7) (.string (⟨⟨[]⟩⟩ : ByteArray)) fun h34 =>
          xI .i64 (cell h34 (bk b0)) fun n16 =>
          xS (cell h34 ((bk b0).add 1)) fun s21 =>
          xS (cell h34 ((bk b0).add 2)) fun s22 =>
          xL (cell h34 ((bk b0).add 3)) fun s23 =>
          xI .i64 (cell h34 ((bk b0).add 4)) fun n17 =>
          xL (cell h34 ((bk b0).add 5)) fun s24 =>
          xI .i64 (cell h34 ((bk b0).add 6)) fun n18 =>
          xS (cell h34 ((bk b0).add 7)) fun s25 =>
          K n16 s21 s22 s23 n17 s24 n18 s25 0 h34
      else
        bif ((IntKind.wrap .i64 ((IntKind.wrap .i64 ((IntKind.wrap .i64 n3) * 256)) + (IntKind.wrap .i64 n4))) == 3) then
          N18_j0 ⟨sadr x0.p x0.c k0 1, x0.n - k0, x0.c - k0⟩ (some (bk b0)) (IntKind.wrap .i64 ((IntKind.wrap .i64 ((IntKind.wrap .i64 n3) * 256)) + (IntKind.wrap .i64 n4))) true h0
            (fun h35 =>
              N18_j1 ⟨sadr x0.p x0.c k0 1, x0.n - k0, x0.c - k0⟩ (some (bk b0)) (IntKind.wrap .i64 ((IntKind.wrap .i64 ((IntKind.wrap .i64 n3) * 256)) + (IntKind.wrap .i64 n4))) h35
                (fun n19 h36 =>
                  xI .i64 (cell h36 (bk b0)) fun n20 =>
                  xS (cell h36 ((bk b0).add 1)) fun s26 =>
                  xS (cell h36 ((bk b0).add 2)) fun s27 =>
                  xL (cell h36 ((bk b0).add 3)) fun s28 =>
                  xI .i64 (cell h36 ((bk b0).add 4)) fun n21 =>
                  xL (cell h36 ((bk b0).add 5)) fun s29 =>
                  xI .i64 (cell h36 ((bk b0).add 6)) fun n22 =>
                  xS (cell h36 ((bk b0).add 7)) fun s30 =>
                  K n20 s26 s27 s28 n21 s29 n22 s30 n19 h36))
            (fun n23 h37 =>
              xI .i64 (cell h37 (bk b0)) fun n24 =>
              xS (cell h37 ((bk b0).add 1)) fun s31 =>
              xS (cell h37 ((bk b0).add 2)) fun s32 =>
              xL (cell h37 ((bk b0).add 3)) fun s33 =>
              xI .i64 (cell h37 ((bk b0).add 4)) fun n25 =>
              xL (cell h37 ((bk b0).add 5)) fun s34 =>
              xI .i64 (cell h37 ((bk b0).add 6)) fun n26 =>
              xS (cell h37 ((bk b0).add 7)) fun s35 =>
              K n24 s31 s32 s33 n25 s34 n26 s35 n23 h37)
        else
          bif ((IntKind.wrap .i64 ((IntKind.wrap .i64 ((IntKind.wrap .i64 n3) * 256)) + (IntKind.wrap .i64 n4))) == 4) then
            N18_j0 ⟨sadr x0.p x0.c k0 1, x0.n - k0, x0.c - k0⟩ (some (bk b0)) (IntKind.wrap .i64 ((IntKind.wrap .i64 ((IntKind.wrap .i64 n3) * 256)) + (IntKind.wrap .i64 n4))) true h0
              (fun h38 =>
                N18_j1 ⟨sadr x0.p x0.c k0 1, x0.n - k0, x0.c - k0⟩ (some (bk b0)) (IntKind.wrap .i64 ((IntKind.wrap .i64 ((IntKind.wrap .i64 n3) * 256)) + (IntKind.wrap .i64 n4))) h38
                  (fun n27 h39 =>
                    xI .i64 (cell h39 (bk b0)) fun n28 =>
                    xS (cell h39 ((bk b0).add 1)) fun s36 =>
                    xS (cell h39 ((bk b0).add 2)) fun s37 =>
                    xL (cell h39 ((bk b0).add 3)) fun s38 =>
                    xI .i64 (cell h39 ((bk b0).add 4)) fun n29 =>
                    xL (cell h39 ((bk b0).add 5)) fun s39 =>
                    xI .i64 (cell h39 ((bk b0).add 6)) fun n30 =>
                    xS (cell h39 ((bk b0).add 7)) fun s40 =>
                    K n28 s36 s37 s38 n29 s39 n30 s40 n27 h39))
              (fun n31 h40 =>
                xI .i64 (cell h40 (bk b0)) fun n32 =>
                xS (cell h40 ((bk b0).add 1)) fun s41 =>
                xS (cell h40 ((bk b0).add 2)) fun s42 =>
                xL (cell h40 ((bk b0).add 3)) fun s43 =>
                xI .i64 (cell h40 ((bk b0).add 4)) fun n33 =>
                xL (cell h40 ((bk b0).add 5)) fun s44 =>
                xI .i64 (cell h40 ((bk b0).add 6)) fun n34 =>
                xS (cell h40 ((bk b0).add 7)) fun s45 =>
                K n32 s41 s42 s43 n33 s44 n34 s45 n31 h40)
          else
            N18_j0 ⟨sadr x0.p x0.c k0 1, x0.n - k0, x0.c - k0⟩ (some (bk b0)) (IntKind.wrap .i64 ((IntKind.wrap .i64 ((IntKind.wrap .i64 n3) * 256)) + (IntKind.wrap .i64 n4))) ((IntKind.wrap .i64 ((IntKind.wrap .i64 ((IntKind.wrap .i64 n3) * 256)) + (IntKind.wrap .i64 n4))) == 5) h0
              (fun h41 =>
                N18_j1 ⟨sadr x0.p x0.c k0 1, x0.n - k0, x0.c - k0⟩ (some (bk b0)) (IntKind.wrap .i64 ((IntKind.wrap .i64 ((IntKind.wrap .i64 n3) * 256)) + (IntKind.wrap .i64 n4))) h41
                  (fun n35 h42 =>
                    xI .i64 (cell h42 (bk b0)) fun n36 =>
                    xS (cell h42 ((bk b0).add 1)) fun s46 =>
                    xS (cell h42 ((bk b0).add 2)) fun s47 =>
                    xL (cell h42 ((bk b0).add 3)) fun s48 =>
                    xI .i64 (cell h42 ((bk b0).add 4)) fun n37 =>
                    xL (cell h42 ((bk b0).add 5)) fun s49 =>
                    xI .i64 (cell h42 ((bk b0).add 6)) fun n38 =>
                    xS (cell h42 ((bk b0).add 7)) fun s50 =>
                    K n36 s46 s47 s48 n37 s49 n38 s50 n35 h42))
              (fun n39 h43 =>
                xI .i64 (cell h43 (bk b0)) fun n40 =>
                xS (cell h43 ((bk b0).add 1)) fun s51 =>
                xS (cell h43 ((bk b0).add 2)) fun s52 =>
                xL (cell h43 ((bk b0).add 3)) fun s53 =>
                xI .i64 (cell h43 ((bk b0).add 4)) fun n41 =>
                xL (cell h43 ((bk b0).add 5)) fun s54 =>
                xI .i64 (cell h43 ((bk b0).add 6)) fun n42 =>
                xS (cell h43 ((bk b0).add 7)) fun s55 =>
                K n40 s51 s52 s53 n41 s54 n42 s55 n39 h43)
theorem S18 {x0 : Sl} {h : Hp} {K : Int → ByteArray → ByteArray → Sl → Int → Sl → Int → ByteArray → Int → Hp → Prop} (hn : N18 x0 h K) : C18 x0 h K := by
  refine calls_of_M Tryd.func18 (c := B18) rfl (by kernel_rfl) ?_
  refine den_sound hE hm _ (.two .leaf (.two .leaf (.two (.ord [0, 1, 2, 3, 4, 5, 6, 7, 8, 9, 10]) (.two .leaf (.two (.two .leaf (.one (.two .leaf (.two .leaf (.two .leaf (.two .leaf (.two .leaf (.xf N18_j0_t)))))))) (.xf N18_j1_t)))))) _ _ _ (⟨annOk_leaf, ⟨annOk_leaf, ⟨trivial, ⟨annOk_leaf, ⟨⟨annOk_leaf, ⟨annOk_leaf, ⟨annOk_leaf, ⟨annOk_leaf, ⟨annOk_leaf, ⟨annOk_leaf, N18_j0_ok⟩⟩⟩⟩⟩⟩, N18_j1_ok⟩⟩⟩⟩⟩) ?_
  refine cast ?_ hn
  kernel_rfl
end Go.Proofs.YtedklcmdjoojfaaDoor
