/- Texts of a walk over heaps, printed by program and by hand: lemmas for the law that is proved in this claim. No condition. -/
import Derived.Test.YtbbnpmikjdgdpaaGreatPd
import Derived.Test.YtbbnpmikjdgdpaaGreatPf
import Derived.Lib.BitFns
import Derived.Lib.ItoaNum
import Derived.Test.YtbbnpmikjdgdpaaGreatPe
set_option linter.unusedVariables false
set_option maxRecDepth 100000
namespace Go.Proofs.YtbbnpmikjdgdpaaGreat
open Go Go.Hw
noncomputable def B142 : Code := match Tryz.f142.body with | some c => c | none => .skip
def N142_j0 (x0 : Option Addr) (x2 : Bool) (x4 x7 : Option Addr) (x8 : Sl) (x16 : Bool) (h : Hp) (Kn Kr : Sl → Hp → Prop) : Prop :=
 bif x16 then
 nn x4 fun a0 =>
 xI .u8 (cell h (a0.add 1)) fun n0 =>
 xI .u8 (cell h (a0.add 2)) fun n1 =>
 xI .u8 (cell h (a0.add 3)) fun n2 =>
 xI .u8 (cell h (a0.add 4)) fun n3 =>
 xI .u8 (cell h (a0.add 5)) fun n4 =>
 xI .u8 (cell h (a0.add 6)) fun n5 =>
 nn x7 fun a1 =>
 xL (cell h (a1.add 9)) fun s0 =>
 nw h (.cells ⟨[.int .u8 n0, .int .u8 n1, .int .u8 n2, .int .u8 n3, .int .u8 n4, .int .u8 n5, .int .i64 2048, .slice s0.p s0.n s0.c]⟩ 99) fun b0 h0 =>
 apK Tryz.prog 99 x8 (.slice (some (bk b0)) 1 1) h0 fun s1 h1 =>
 Kn s1 h1
 else
 peq h x7 none fun b1 =>
 bif b1 then
 bif (!x2) then
 Kr ⟨none, 0, 0⟩ h
 else
 C58 x0 h fun b2 h2 =>
 bif (!b2) then
 Kr ⟨none, 0, 0⟩ h2
 else
 Kn x8 h2
 else
 Kn x8 h
noncomputable def N142_j0_t : Xf := pieceT [(0, .c (.ptr)), (2, .c (.bool)), (4, .c (.ptr)), (7, .c (.ptr)), (8, .c (.slice)), (16, .c (.bool))] (codeAt B142 [1, 1, 1, 0, 0, 1]) fun x h Q => N142_j0 x.1 x.2.1 x.2.2.1 x.2.2.2.1 x.2.2.2.2.1 x.2.2.2.2.2 h (fun o0 h' => Q .normal (Sg.env [(8, .c (.slice))] o0) h') (fun o0 h' => Q .ret (Sg.env [(6, .c (.slice))] o0) h')
theorem N142_j0_ok : Sound Tryz.prog Tryz.f142.ntmps N142_j0_t (codeAt B142 [1, 1, 1, 0, 0, 1]) := by
 refine piece_sound (fun e => match e with | .normal => [8] | .ret => [6] | _ => []) ?_
 intro x h Q hb
 refine den_sound hE hm _ (.two (.ord [0, 1, 2, 3, 4, 5, 6, 7, 8, 9, 10]) .leaf) _ _ _ (⟨trivial, annOk_leaf⟩) ?_
 refine cast ?_ hb
 kernel_rfl
def N142_j1 (x0 x4 : Option Addr) (x8 : Sl) (h : Hp) (Kr : Sl → Hp → Prop) : Prop :=
 nn x0 fun a0 =>
 xM (cell h (a0.add 7)) fun m0 =>
 nn x4 fun a1 =>
 xI .u32 (cell h (a1.add 7)) fun n0 =>
 nn x4 fun a2 =>
 xI .u8 (cell h (a2.add 1)) fun n1 =>
 xI .u8 (cell h (a2.add 2)) fun n2 =>
 xI .u8 (cell h (a2.add 3)) fun n3 =>
 xI .u8 (cell h (a2.add 4)) fun n4 =>
 xI .u8 (cell h (a2.add 5)) fun n5 =>
 xI .u8 (cell h (a2.add 6)) fun n6 =>
 C59 x0 600 h fun n7 h0 =>
 both (xI .u8 (cell h0 (a2.add 1)) fun n8 => xI .u8 (cell h0 (a2.add 2)) fun n9 => xI .u8 (cell h0 (a2.add 3)) fun n10 => xI .u8 (cell h0 (a2.add 4)) fun n11 => xI .u8 (cell h0 (a2.add 5)) fun n12 => xI .u8 (cell h0 (a2.add 6)) fun n13 => Only (.agg ⟨[.int .u8 n1, .int .u8 n2, .int .u8 n3, .int .u8 n4, .int .u8 n5, .int .u8 n6]⟩) h0 (.agg ⟨[.int .u8 n8, .int .u8 n9, .int .u8 n10, .int .u8 n11, .int .u8 n12, .int .u8 n13]⟩) h0) <|
 both (xI .u32 (cell h0 (a1.add 7)) fun n14 => Only (.int .u32 n0) h0 (.int .u32 n14) h0) <|
 both (xM (cell h0 (a0.add 7)) fun m1 => Only (.map m0) h0 (.map m1) h0) <|
 nw h0 (.cells ⟨[.int .u8 n1, .int .u8 n2, .int .u8 n3, .int .u8 n4, .int .u8 n5, .int .u8 n6, .int .i64 n7, .int .i64 0, .int .u32 0, .slice none 0 0]⟩ 146) fun b0 h1 =>
 both (xI .u32 (cell h1 (a1.add 7)) fun n15 => Only (.int .u32 n0) h1 (.int .u32 n15) h1) <|
 both (xM (cell h1 (a0.add 7)) fun m2 => Only (.map m0) h1 (.map m2) h1) <|
 muK Tryz.prog 136 (.map m0) (.int .u32 n0) (.pointer (some (bk b0))) h1 fun h2 =>
 Kr x8 h2
noncomputable def N142_j1_t : Xf := pieceT [(0, .c (.ptr)), (4, .c (.ptr)), (8, .c (.slice))] (codeAt B142 [1, 1, 1, 1]) fun x h Q => N142_j1 x.1 x.2.1 x.2.2 h (fun o0 h' => Q .ret (Sg.env [(6, .c (.slice))] o0) h')
theorem N142_j1_ok : Sound Tryz.prog Tryz.f142.ntmps N142_j1_t (codeAt B142 [1, 1, 1, 1]) := by
 refine piece_sound (fun e => match e with | .ret => [6] | _ => []) ?_
 intro x h Q hb
 refine den_sound hE hm _ (.two (.ord [0, 1, 2, 3, 4, 5, 6, 7, 8, 9, 10, 11, 12]) .leaf) _ _ _ (⟨trivial, annOk_leaf⟩) ?_
 refine cast ?_ hb
 kernel_rfl
def N142 (x0 : Option Addr) (x1_0 x1_1 x1_2 x1_3 x1_4 x1_5 x1_6 x1_7 x1_8 x1_9 x1_10 x1_11 x1_12 x1_13 x1_14 : Int) (x2 : Bool) (h : Hp) (K : Sl → Hp → Prop) : Prop :=
 nw h (.cells ⟨[.int .i64 x1_0, .int .u8 x1_1, .int .u8 x1_2, .int .u8 x1_3, .int .u8 x1_4, .int .u8 x1_5, .int .u8 x1_6, .int .u32 x1_7, .int .u8 x1_8, .int .u8 x1_9, .int .u8 x1_10, .int .u8 x1_11, .int .u8 x1_12, .int .u8 x1_13, .int .u32 x1_14]⟩ 160) fun b0 h0 =>
 nn x0 fun a0 =>
 xM (cell h0 (a0.add 7)) fun m0 =>
 xI .u32 (cell h0 ((bk b0).add 7)) fun n0 =>
 xMap h0 m0 fun es0 _ =>
 keyAt (.int .u32) (.int .u32 n0) es0 fun r0 =>
 xP (some (rval r0 (.pointer none))) fun p0 =>
 peq h0 p0 none fun b1 =>
 bif (!b1) then
 C56 p0 h0 fun b2 h1 =>
 N142_j0 x0 x2 (some (bk b0)) p0 ⟨none, 0, 0⟩ (!b2) h1
 (fun s0 h2 =>
 N142_j1 x0 (some (bk b0)) s0 h2
 (fun s1 h3 =>
 K s1 h3))
 (fun s2 h4 =>
 K s2 h4)
 else
 N142_j0 x0 x2 (some (bk b0)) p0 ⟨none, 0, 0⟩ false h0
 (fun s3 h5 =>
 N142_j1 x0 (some (bk b0)) s3 h5
 (fun s4 h6 =>
 K s4 h6))
 (fun s5 h7 =>
 K s5 h7)
theorem S142 {x0 : Option Addr} {x1_0 x1_1 x1_2 x1_3 x1_4 x1_5 x1_6 x1_7 x1_8 x1_9 x1_10 x1_11 x1_12 x1_13 x1_14 : Int} {x2 : Bool} {h : Hp} {K : Sl → Hp → Prop} (hn : N142 x0 x1_0 x1_1 x1_2 x1_3 x1_4 x1_5 x1_6 x1_7 x1_8 x1_9 x1_10 x1_11 x1_12 x1_13 x1_14 x2 h K) : C142 x0 x1_0 x1_1 x1_2 x1_3 x1_4 x1_5 x1_6 x1_7 x1_8 x1_9 x1_10 x1_11 x1_12 x1_13 x1_14 x2 h K := by
 refine calls_of_D Tryz.func142 (c := B142) rfl (by kernel_rfl) ?_
 refine den_sound hE hm _ (.two .leaf (.two (.ord [0, 1, 2, 3, 4, 5, 6, 7]) (.two .leaf (.two (.one (.two .leaf (.xf N142_j0_t))) (.xf N142_j1_t))))) _ _ _ (⟨annOk_leaf, ⟨trivial, ⟨annOk_leaf, ⟨⟨annOk_leaf, N142_j0_ok⟩, N142_j1_ok⟩⟩⟩⟩) ?_
 refine cast ?_ hn
 kernel_rfl
end Go.Proofs.YtbbnpmikjdgdpaaGreat

set_option linter.unusedVariables false
set_option maxRecDepth 100000
namespace Go.Proofs.YtbbnpmikjdgdpaaGreat
open Go Go.Hw
noncomputable def B139 : Code := match Tryz.f139.body with | some c => c | none => .skip
def N139_j2 (x0 x5 : Option Addr) (x9 : Bool) (x10 : Sl) (x50 : Bool) (h : Hp) (Kn : Sl → Hp → Prop) : Prop :=
 bif x50 then
 nn x5 fun a0 =>
 xI .i64 (cell h a0) fun n0 =>
 xI .u8 (cell h (a0.add 1)) fun n1 =>
 xI .u8 (cell h (a0.add 2)) fun n2 =>
 xI .u8 (cell h (a0.add 3)) fun n3 =>
 xI .u8 (cell h (a0.add 4)) fun n4 =>
 xI .u8 (cell h (a0.add 5)) fun n5 =>
 xI .u8 (cell h (a0.add 6)) fun n6 =>
 xI .u32 (cell h (a0.add 7)) fun n7 =>
 xI .u8 (cell h (a0.add 8)) fun n8 =>
 xI .u8 (cell h (a0.add 9)) fun n9 =>
 xI .u8 (cell h (a0.add 10)) fun n10 =>
 xI .u8 (cell h (a0.add 11)) fun n11 =>
 xI .u8 (cell h (a0.add 12)) fun n12 =>
 xI .u8 (cell h (a0.add 13)) fun n13 =>
 xI .u32 (cell h (a0.add 14)) fun n14 =>
 C142 x0 n0 n1 n2 n3 n4 n5 n6 n7 n8 n9 n10 n11 n12 n13 n14 x9 h fun s0 h0 =>
 Kn s0 h0
 else
 Kn x10 h
noncomputable def N139_j2_t : Xf := pieceT [(0, .c (.ptr)), (5, .c (.ptr)), (9, .c (.bool)), (10, .c (.slice)), (50, .c (.bool))] (codeAt B139 [1, 1, 1, 1, 1, 0, 1]) fun x h Q => N139_j2 x.1 x.2.1 x.2.2.1 x.2.2.2.1 x.2.2.2.2 h (fun o0 h' => Q .normal (Sg.env [(10, .c (.slice))] o0) h')
theorem N139_j2_ok : Sound Tryz.prog Tryz.f139.ntmps N139_j2_t (codeAt B139 [1, 1, 1, 1, 1, 0, 1]) := by
 refine piece_sound (fun e => match e with | .normal => [10] | _ => []) ?_
 intro x h Q hb
 refine den_sound hE hm _ .leaf _ _ _ (annOk_leaf) ?_
 refine cast ?_ hb
 kernel_rfl
def N139_j3 (x0 x5 : Option Addr) (x9 : Bool) (x10 : Sl) (h : Hp) (Kr : Sl → Hp → Prop) : Prop :=
 bif x9 then
 nn x0 fun a0 =>
 xI .u8 (cell h a0) fun n0 =>
 xI .u8 (cell h (a0.add 1)) fun n1 =>
 xI .u8 (cell h (a0.add 2)) fun n2 =>
 xI .u8 (cell h (a0.add 3)) fun n3 =>
 xI .u8 (cell h (a0.add 4)) fun n4 =>
 xI .u8 (cell h (a0.add 5)) fun n5 =>
 nn x5 fun a1 =>
 xI .i64 (cell h a1) fun n6 =>
 xI .u8 (cell h (a1.add 1)) fun n7 =>
 xI .u8 (cell h (a1.add 2)) fun n8 =>
 xI .u8 (cell h (a1.add 3)) fun n9 =>
 xI .u8 (cell h (a1.add 4)) fun n10 =>
 xI .u8 (cell h (a1.add 5)) fun n11 =>
 xI .u8 (cell h (a1.add 6)) fun n12 =>
 xI .u32 (cell h (a1.add 7)) fun n13 =>
 xI .u8 (cell h (a1.add 8)) fun n14 =>
 xI .u8 (cell h (a1.add 9)) fun n15 =>
 xI .u8 (cell h (a1.add 10)) fun n16 =>
 xI .u8 (cell h (a1.add 11)) fun n17 =>
 xI .u8 (cell h (a1.add 12)) fun n18 =>
 xI .u8 (cell h (a1.add 13)) fun n19 =>
 xI .u32 (cell h (a1.add 14)) fun n20 =>
 C143 n0 n1 n2 n3 n4 n5 n6 n7 n8 n9 n10 n11 n12 n13 n14 n15 n16 n17 n18 n19 n20 h fun n21 n22 n23 n24 n25 n26 n27 n28 n29 n30 n31 n32 n33 n34 n35 h0 =>
 C76 n21 n22 n23 n24 n25 n26 n27 n28 n29 n30 n31 n32 n33 n34 n35 h0 fun s0 n36 h1 =>
 nn x5 fun a2 =>
 xI .u8 (cell h1 (a2.add 1)) fun n37 =>
 xI .u8 (cell h1 (a2.add 2)) fun n38 =>
 xI .u8 (cell h1 (a2.add 3)) fun n39 =>
 xI .u8 (cell h1 (a2.add 4)) fun n40 =>
 xI .u8 (cell h1 (a2.add 5)) fun n41 =>
 xI .u8 (cell h1 (a2.add 6)) fun n42 =>
 nw h1 (.cells ⟨[.int .u8 n37, .int .u8 n38, .int .u8 n39, .int .u8 n40, .int .u8 n41, .int .u8 n42, .int .i64 2054, .slice s0.p s0.n s0.c]⟩ 99) fun b0 h2 =>
 apK Tryz.prog 99 x10 (.slice (some (bk b0)) 1 1) h2 fun s1 h3 =>
 Kr s1 h3
 else
 Kr x10 h
noncomputable def N139_j3_t : Xf := pieceT [(0, .c (.ptr)), (5, .c (.ptr)), (9, .c (.bool)), (10, .c (.slice))] (codeAt B139 [1, 1, 1, 1, 1, 1]) fun x h Q => N139_j3 x.1 x.2.1 x.2.2.1 x.2.2.2 h (fun o0 h' => Q .ret (Sg.env [(8, .c (.slice))] o0) h')
theorem N139_j3_ok : Sound Tryz.prog Tryz.f139.ntmps N139_j3_t (codeAt B139 [1, 1, 1, 1, 1, 1]) := by
 refine piece_sound (fun e => match e with | .ret => [8] | _ => []) ?_
 intro x h Q hb
 refine den_sound hE hm _ (.two (.two .leaf (.two (.two (.ord [0, 1, 2, 3, 4, 5, 6, 7, 8, 9, 10, 11]) .leaf) .leaf)) .leaf) _ _ _ (⟨⟨annOk_leaf, ⟨⟨trivial, annOk_leaf⟩, annOk_leaf⟩⟩, annOk_leaf⟩) ?_
 refine cast ?_ hb
 kernel_rfl
def N139_j1 (x0 : Option Addr) (x2 : Int) (x5 : Option Addr) (x9 : Bool) (h : Hp) (Kr : Sl → Hp → Prop) : Prop :=
 nn x5 fun a0 =>
 xI .u32 (cell h (a0.add 7)) fun n0 =>
 C47 n0 h fun b0 h0 =>
 bif b0 then
 nn x5 fun a1 =>
 xI .u32 (cell h0 (a1.add 7)) fun n1 =>
 N139_j2 x0 x5 x9 ⟨none, 0, 0⟩ (n1 != x2) h0
 (fun s0 h1 =>
 N139_j3 x0 x5 x9 s0 h1
 (fun s1 h2 =>
 Kr s1 h2))
 else
 N139_j2 x0 x5 x9 ⟨none, 0, 0⟩ false h0
 (fun s2 h3 =>
 N139_j3 x0 x5 x9 s2 h3
 (fun s3 h4 =>
 Kr s3 h4))
noncomputable def N139_j1_t : Xf := pieceT [(0, .c (.ptr)), (2, .c (.int .u32)), (5, .c (.ptr)), (9, .c (.bool))] (codeAt B139 [1, 1, 1, 1]) fun x h Q => N139_j1 x.1 x.2.1 x.2.2.1 x.2.2.2 h (fun o0 h' => Q .ret (Sg.env [(8, .c (.slice))] o0) h')
theorem N139_j1_ok : Sound Tryz.prog Tryz.f139.ntmps N139_j1_t (codeAt B139 [1, 1, 1, 1]) := by
 refine piece_sound (fun e => match e with | .ret => [8] | _ => []) ?_
 intro x h Q hb
 refine den_sound hE hm _ (.two .leaf (.two (.two .leaf (.xf N139_j2_t)) (.xf N139_j3_t))) _ _ _ (⟨annOk_leaf, ⟨⟨annOk_leaf, N139_j2_ok⟩, N139_j3_ok⟩⟩) ?_
 refine cast ?_ hb
 kernel_rfl
def N139_j0 (x0 : Option Addr) (x2 : Int) (x5 : Option Addr) (h : Hp) (Kr : Sl → Hp → Prop) : Prop :=
 bif (x2 != 0) then
 nn x5 fun a0 =>
 xI .i64 (cell h a0) fun n0 =>
 bif (n0 == 1) then
 nn x5 fun a1 =>
 xI .u32 (cell h (a1.add 14)) fun n1 =>
 N139_j1 x0 x2 x5 (n1 == x2) h
 (fun s0 h0 =>
 Kr s0 h0)
 else
 N139_j1 x0 x2 x5 false h
 (fun s1 h1 =>
 Kr s1 h1)
 else
 N139_j1 x0 x2 x5 false h
 (fun s2 h2 =>
 Kr s2 h2)
noncomputable def N139_j0_t : Xf := pieceT [(0, .c (.ptr)), (2, .c (.int .u32)), (5, .c (.ptr))] (codeAt B139 [1, 1, 1]) fun x h Q => N139_j0 x.1 x.2.1 x.2.2 h (fun o0 h' => Q .ret (Sg.env [(8, .c (.slice))] o0) h')
theorem N139_j0_ok : Sound Tryz.prog Tryz.f139.ntmps N139_j0_t (codeAt B139 [1, 1, 1]) := by
 refine piece_sound (fun e => match e with | .ret => [8] | _ => []) ?_
 intro x h Q hb
 refine den_sound hE hm _ (.two .leaf (.xf N139_j1_t)) _ _ _ (⟨annOk_leaf, N139_j1_ok⟩) ?_
 refine cast ?_ hb
 kernel_rfl
def N139 (x0 : Option Addr) (x1_0 x1_1 x1_2 x1_3 x1_4 x1_5 x1_6 x1_7 x1_8 x1_9 x1_10 x1_11 x1_12 x1_13 x1_14 x2 x3 : Int) (h : Hp) (K : Sl → Hp → Prop) : Prop :=
 nw h (.cells ⟨[.int .i64 x1_0, .int .u8 x1_1, .int .u8 x1_2, .int .u8 x1_3, .int .u8 x1_4, .int .u8 x1_5, .int .u8 x1_6, .int .u32 x1_7, .int .u8 x1_8, .int .u8 x1_9, .int .u8 x1_10, .int .u8 x1_11, .int .u8 x1_12, .int .u8 x1_13, .int .u32 x1_14]⟩ 160) fun b0 h0 =>
 C55 x0 x3 h0 fun h1 =>
 xI .i64 (cell h1 (bk b0)) fun n0 =>
 bif (n0 != 1) then
 xI .i64 (cell h1 (bk b0)) fun n1 =>
 bif (n1 != 2) then
 K ⟨none, 0, 0⟩ h1
 else
 xI .u8 (cell h1 ((bk b0).add 1)) fun n2 =>
 xI .u8 (cell h1 ((bk b0).add 2)) fun n3 =>
 xI .u8 (cell h1 ((bk b0).add 3)) fun n4 =>
 xI .u8 (cell h1 ((bk b0).add 4)) fun n5 =>
 xI .u8 (cell h1 ((bk b0).add 5)) fun n6 =>
 xI .u8 (cell h1 ((bk b0).add 6)) fun n7 =>
 C80 n2 n3 n4 n5 n6 n7 h1 fun b1 h2 =>
 bif b1 then
 K ⟨none, 0, 0⟩ h2
 else
 N139_j0 x0 x2 (some (bk b0)) h2
 (fun s0 h3 =>
 K s0 h3)
 else
 xI .u8 (cell h1 ((bk b0).add 1)) fun n8 =>
 xI .u8 (cell h1 ((bk b0).add 2)) fun n9 =>
 xI .u8 (cell h1 ((bk b0).add 3)) fun n10 =>
 xI .u8 (cell h1 ((bk b0).add 4)) fun n11 =>
 xI .u8 (cell h1 ((bk b0).add 5)) fun n12 =>
 xI .u8 (cell h1 ((bk b0).add 6)) fun n13 =>
 C80 n8 n9 n10 n11 n12 n13 h1 fun b2 h4 =>
 bif b2 then
 K ⟨none, 0, 0⟩ h4
 else
 N139_j0 x0 x2 (some (bk b0)) h4
 (fun s1 h5 =>
 K s1 h5)
theorem S139 {x0 : Option Addr} {x1_0 x1_1 x1_2 x1_3 x1_4 x1_5 x1_6 x1_7 x1_8 x1_9 x1_10 x1_11 x1_12 x1_13 x1_14 x2 x3 : Int} {h : Hp} {K : Sl → Hp → Prop} (hn : N139 x0 x1_0 x1_1 x1_2 x1_3 x1_4 x1_5 x1_6 x1_7 x1_8 x1_9 x1_10 x1_11 x1_12 x1_13 x1_14 x2 x3 h K) : C139 x0 x1_0 x1_1 x1_2 x1_3 x1_4 x1_5 x1_6 x1_7 x1_8 x1_9 x1_10 x1_11 x1_12 x1_13 x1_14 x2 x3 h K := by
 refine calls_of_D Tryz.func139 (c := B139) rfl (by kernel_rfl) ?_
 refine den_sound hE hm _ (.two .leaf (.two .leaf (.two .leaf (.xf N139_j0_t)))) _ _ _ (⟨annOk_leaf, ⟨annOk_leaf, ⟨annOk_leaf, N139_j0_ok⟩⟩⟩) ?_
 refine cast ?_ hn
 kernel_rfl
end Go.Proofs.YtbbnpmikjdgdpaaGreat

/-
 The cache: what the program's calls do: Ask, On, Tick.
-/
-- (no (*neigh.Cache).Tick)
set_option linter.unusedSimpArgs false
set_option linter.unusedVariables false
set_option maxRecDepth 4000
namespace Go.Proofs.YtbbnpmikjdgdpaaGreat
open Go Go.Hw
def newC (c : Ca) (src ip : Int) (pk : List UInt8) : List Snd × Ca := match roomL c.most (delK keyE ip c.l) with
 | none => ([], { c with l := delK keyE ip c.l })
 | some l => ([questC c ⟨ip, mac0, behindC c 10, 1, src, pk⟩], { c with l := putL' ⟨ip, mac0, behindC c 10, 1, src, pk⟩ l })
def askC (c : Ca) (src ip : Int) (pk : List UInt8) : List Snd × Ca := match findK keyE ip c.l with
 | none => newC c src ip pk
 | some e => if e.tries ≠ 0 then ([], { c with l := updK keyE ip { e with src := src, pk := pk } c.l }) else if c.now < e.til then ([⟨e.mac, 2048, pk⟩], c) else newC c src ip pk
def learnC (c : Ca) (ip : Int) (mac : M6) (asks : Bool) : List Snd × Ca := match findK keyE ip c.l with
 | some e => (if e.tries ≠ 0 then [⟨mac, 2048, e.pk⟩] else [], { c with l := updK keyE ip ⟨ip, mac, behindC c 600, 0, 0, []⟩ c.l })
 | none => if asks then match roomL c.most c.l with
  | none => ([], c)
  | some l => ([], { c with l := putL' ⟨ip, mac, behindC c 600, 0, 0, []⟩ l }) else ([], c)
def asksC (op own di : Int) : Bool := decide (own ≠ 0) && (decide (op = 1) && decide (di = own))
def onC (c : Ca) (op : Int) (s : M6) (si di own : Int) : List Snd × Ca := if (op ≠ 1 ∧ op ≠ 2) ∨ s.a % 2 = 1 then ([], c) else
 let r := if isHost si && decide (si ≠ own) then learnC c si s (asksC op own di) else ([], c)
 (r.1 ++ if asksC op own di then [⟨s, 2054, arpL 2 c.own di s si⟩] else [], r.2)
theorem Ca.ok.tell {c : Ca} (h : c.ok) (now : Int) : (tellC c now).ok := ⟨h.own, h.most, h.srt, h.all, h.len, by have := h.now; simp only [tellC, maxT] at *; omega⟩
theorem behind_rng {c : Ca} (h : c.ok) {n : Int} (hn : 0 ≤ n) : 0 ≤ behindC c n ∧ behindC c n ≤ maxT := by have := h.now; simp only [behindC, maxT] at *; omega
theorem delK_srt {n : Int} {l : List NE} (h : l.Pairwise fun a b => a.ip < b.ip) : (delK keyE n l).Pairwise fun a b => a.ip < b.ip := h.filter _
theorem delK_len {n : Int} {l : List NE} : (delK keyE n l).length ≤ l.length := List.length_filter_le _ _
theorem delK_mem {n : Int} {l : List NE} {e : NE} (h : e ∈ delK keyE n l) : e ∈ l ∧ e.ip ≠ n := by
 have := List.mem_filter.1 h
 exact ⟨this.1, by simpa [keyE] using this.2⟩
theorem delK_lt {n : Int} {l : List NE} {e : NE} (h : e ∈ l) (hn : e.ip = n) : (delK keyE n l).length < l.length := by
 have : (delK keyE n l).length ≠ l.length := by
  intro q
  have := List.length_filter_eq_length_iff.1 q e h
  simp [keyE, hn] at this
 have := delK_len (n := n) (l := l)
 omega
theorem updK_srt {n : Int} {e : NE} {l : List NE} (h : l.Pairwise fun a b => a.ip < b.ip) (he : e.ip = n) : (updK keyE n e l).Pairwise fun a b => a.ip < b.ip := by
 have : ((updK keyE n e l).map NE.ip).Pairwise fun a b => a < b := by
  rw [show (updK keyE n e l).map NE.ip = l.map NE.ip from updK_keys (key := keyE) he]
  exact List.pairwise_map.2 h
 exact List.pairwise_map.1 this
theorem updK_mem {n : Int} {e x : NE} {l : List NE} (h : x ∈ updK keyE n e l) : x = e ∨ x ∈ l := by
 obtain ⟨y, hy, rfl⟩ := List.mem_map.1 h
 split
 ·exact .inl rfl
 ·exact .inr hy
theorem putL_mem {e x : NE} {l : List NE} (h : x ∈ putL' e l) : x = e ∨ x ∈ l := List.mem_cons.1 ((putL_perm e l).mem_iff.1 h)
theorem putL_len {e : NE} {l : List NE} : (putL' e l).length = l.length + 1 := (putL_perm e l).length_eq
theorem putL_srt {e : NE} : ∀ {l : List NE}, l.Pairwise (fun a b => a.ip < b.ip) → (∀ x ∈ l, x.ip ≠ e.ip) → (putL' e l).Pairwise fun a b => a.ip < b.ip := by
 intro l
 induction l with
 | nil => intro _ _; simp [putL']
 | cons p l ih =>
  intro h hne
  obtain ⟨h1, h2⟩ := List.pairwise_cons.1 h
  have hp := hne p List.mem_cons_self
  unfold putL'
  split
  ·rename_i hgt
   refine List.pairwise_cons.2 ⟨fun x hx => ?_, h⟩
   rcases List.mem_cons.1 hx with rfl | hx
   ·omega
   ·have := h1 x hx; omega
  ·rename_i hgt
   refine List.pairwise_cons.2 ⟨fun x hx => ?_, ih h2 fun x hx => hne x (List.mem_cons_of_mem _ hx)⟩
   rcases putL_mem hx with rfl | hx
   ·omega
   ·exact h1 x hx
theorem roomL_some {most : Int} {l l' : List NE} (h : roomL most l = some l') (hl : (l.length : Int) ≤ most) (hm : 1 ≤ most) : (l'.length : Int) < most ∧ (l' = l ∨ ∃ e ∈ l, l' = delK keyE e.ip l) := by
 unfold roomL at h
 split at h
 ·cases h; exact ⟨by assumption, .inl rfl⟩
 ·split at h
  ·cases h
  ·rename_i e he
   cases h
   rcases leastK_mem he with q | q
   ·cases q
   ·have := delK_lt q rfl
    exact ⟨by omega, .inr ⟨e, q, rfl⟩⟩
theorem Ca.ok.sub {c : Ca} (h : c.ok) {l : List NE} (hs : l.Pairwise fun a b => a.ip < b.ip) (hm : ∀ e ∈ l, e.ok) (hl : (l.length : Int) ≤ c.most) : ({ c with l := l } : Ca).ok := ⟨h.own, h.most, hs, hm, hl, h.now⟩
theorem Ca.ok.del {c : Ca} (h : c.ok) (n : Int) : ({ c with l := delK keyE n c.l } : Ca).ok := h.sub (delK_srt h.srt) (fun e he => h.all e (delK_mem he).1) (by have := delK_len (n := n) (l := c.l); have := h.len; omega)
theorem Ca.ok.room {c : Ca} (h : c.ok) {l : List NE} (hr : roomL c.most c.l = some l) : ({ c with l := l } : Ca).ok ∧ (l.length : Int) < c.most ∧ ∀ e ∈ l, e ∈ c.l := by
 obtain ⟨h1, h2⟩ := roomL_some hr h.len h.most.1
 rcases h2 with rfl | ⟨e, he, rfl⟩
 ·exact ⟨h.sub h.srt h.all h.len, h1, fun e he => he⟩
 ·exact ⟨h.del e.ip, h1, fun e he => (delK_mem he).1⟩
theorem Ca.ok.put {c : Ca} (h : c.ok) {e : NE} (he : e.ok) (hl : (c.l.length : Int) < c.most) (hn : ∀ x ∈ c.l, x.ip ≠ e.ip) : ({ c with l := putL' e c.l } : Ca).ok :=
 h.sub (putL_srt h.srt hn) (fun x hx => by rcases putL_mem hx with rfl | hx; exact he; exact h.all x hx) (by rw [putL_len]; omega)
theorem Ca.ok.upd {c : Ca} (h : c.ok) {e : NE} (he : e.ok) : ({ c with l := updK keyE e.ip e c.l } : Ca).ok :=
 h.sub (updK_srt h.srt rfl) (fun x hx => by rcases updK_mem hx with rfl | hx; exact he; exact h.all x hx) (by unfold updK; rw [List.length_map]; exact h.len)
theorem mac0_ok : mac0.ok := by unfold M6.ok mac0; decide
theorem newE_ok {c : Ca} (h : c.ok) {src ip : Int} {pk : List UInt8} (hs : 0 ≤ src ∧ src < 4294967296) (hi : 0 ≤ ip ∧ ip < 4294967296) (hp : pk.length ≤ 1099511627776) : (NE.mk ip mac0 (behindC c 10) 1 src pk).ok :=
 ⟨hi, mac0_ok, behind_rng h (by omega), by dsimp only; omega, hs, fun e => by simp at e, fun _ => rfl, hp⟩
theorem knownE_ok {c : Ca} (h : c.ok) {ip : Int} {mac : M6} (hm : mac.ok) (hi : 0 ≤ ip ∧ ip < 4294967296) : (NE.mk ip mac (behindC c 600) 0 0 []).ok :=
 ⟨hi, hm, behind_rng h (by omega), by dsimp only; omega, by dsimp only; omega, fun _ => ⟨rfl, rfl⟩, fun e => absurd rfl e, by simp⟩
theorem learnC_ok {c : Ca} (h : c.ok) {ip : Int} {mac : M6} {asks : Bool} (hm : mac.ok) (hi : 0 ≤ ip ∧ ip < 4294967296) : (learnC c ip mac asks).2.ok := by
 unfold learnC
 cases hf : findK keyE ip c.l with
 | some e => exact h.upd (knownE_ok h hm hi)
 | none =>
  simp only []
  split
  ·cases hr : roomL c.most c.l with
   | none => exact h
   | some l =>
    obtain ⟨h2, h3, h4⟩ := h.room hr
    exact h2.put (knownE_ok h hm hi) h3 (fun x hx => findK_none hf x (h4 x hx))
  ·exact h
def sndC (x : Snd × Sl) : List Value := [.int .u8 x.1.dst.a, .int .u8 x.1.dst.b, .int .u8 x.1.dst.c, .int .u8 x.1.dst.d, .int .u8 x.1.dst.e, .int .u8 x.1.dst.f, .int .i64 x.1.kind, x.2.v]
def sndsA (s : Sl) (o : List Snd) : Asn := exs fun X : List (Snd × Sl) => star [Hw.own 99 8 s (X.flatMap sndC), star (X.map fun x => Hw.own 5 1 x.2 (bc x.1.data)), pur (X.map Prod.fst = o)]
theorem snd_a : Tryz.prog.cellsOf 99 = 8 := by kernel_rfl
theorem snd_z : (zc Tryz.prog 99).length = 8 := by kernel_rfl
theorem snd_b : Tryz.prog.bytesOf 99 ≤ 64 := by rw [show Tryz.prog.bytesOf 99 = 40 by kernel_rfl]; omega
theorem sndC_plain {x : Snd × Sl} : ∀ v ∈ sndC x, plain v = true := by
 intro v hv
 simp only [sndC, List.mem_cons, List.not_mem_nil, or_false] at hv
 rcases hv with rfl | rfl | rfl | rfl | rfl | rfl | rfl | rfl <;> rfl
theorem sndC_len (X : List (Snd × Sl)) : (X.flatMap sndC).length = X.length * 8 := by
 induction X with
 | nil => rfl
 | cons x l ih => show (sndC x ++ l.flatMap sndC).length = _; rw [List.length_append, ih]; simp [sndC]; omega
section
variable {L M : List Asn} {h : Hp} {s : Sl} {o : List Snd}
theorem snds_open (hs : Sat (L ++ [sndsA s o]) h) : ∃ X : List (Snd × Sl), Sat (L ++ [Hw.own 99 8 s (X.flatMap sndC), star (X.map fun x => Hw.own 5 1 x.2 (bc x.1.data))]) h ∧ X.map Prod.fst = o := by
 obtain ⟨X, hs⟩ := hs.exOut
 have hs : Sat (L ++ [star [Hw.own 99 8 s (X.flatMap sndC), star (X.map fun x => Hw.own 5 1 x.2 (bc x.1.data)), pur (X.map Prod.fst = o)]]) h := hs
 have hs := hs.open
 exact ⟨X, hs.sel [0, 1] (by decide) rfl, hs.pur 2 rfl⟩
theorem snds_shut {X : List (Snd × Sl)} (hs : Sat (L ++ [Hw.own 99 8 s (X.flatMap sndC), star (X.map fun x => Hw.own 5 1 x.2 (bc x.1.data))]) h) (hX : X.map Prod.fst = o) : Sat (L ++ [sndsA s o]) h := by
 have h1 : Sat (L ++ [Hw.own 99 8 s (X.flatMap sndC), star (X.map fun x => Hw.own 5 1 x.2 (bc x.1.data)), pur (X.map Prod.fst = o)]) h := hs.andPur hX
 have h2 := h1.close
 unfold sndsA
 exact h2.exIn X
theorem snds_n (hs : Sat (L ++ [sndsA s o]) h) : s.n = o.length := by
 obtain ⟨X, g, hX⟩ := snds_open hs
 have := (g.own 0 rfl).1
 rw [sndC_len] at this
 rw [← hX, List.length_map]; omega
theorem snds_nil (hs : Sat (L ++ M) h) : Sat (L ++ (M ++ [sndsA ⟨none, 0, 0⟩ []])) h := by
 have h1 : Sat ((L ++ M) ++ []) h := by rw [List.append_nil]; exact hs
 have h2 := h1.addNil 99 8
 have h3 : Sat (((L ++ M) ++ [Hw.own 99 8 ⟨none, 0, 0⟩ []]) ++ []) h := by rw [List.append_nil]; exact h2
 have h4 := h3.close
 exact Sat.asc (snds_shut (X := []) (by simpa using h4) rfl)
theorem snds_push {x : Snd} {d : Sl} {F : Sl → Hp → Prop} (hs : Sat (L ++ [sndsA s o, Hw.own 5 1 d (bc x.data)]) h) (ho : o.length ≤ 1000000)
  (hF : ∀ s' h', Sat (L ++ [sndsA s' (o ++ [x])]) h' → F s' h') : nw h (.cells ⟨sndC (x, d)⟩ 99) fun b h0 => apK Tryz.prog 99 s (.slice (some (bk b)) 1 1) h0 F := by
 have g1 : Sat ((L ++ [Hw.own 5 1 d (bc x.data)]) ++ [sndsA s o]) h := hs.part [1, 0] (by decide) rfl
 obtain ⟨X, g2, hX⟩ := snds_open g1
 have hn : s.n = o.length := snds_n g1
 refine g2.push 0 rfl (k := 1) (ns := sndC (x, d)) snd_a snd_z rfl sndC_plain ?_ ?_
 ·have := snd_b
  have : (s.n + 1) * 2 * Tryz.prog.bytesOf 99 ≤ (s.n + 1) * 2 * 64 := Nat.mul_le_mul_left _ snd_b
  omega
 ·intro s' h' g3 _
  have g4 : Sat ((L ++ [Hw.own 99 8 s' (X.flatMap sndC ++ sndC (x, d))]) ++ [star (X.map fun x => Hw.own 5 1 x.2 (bc x.1.data)), Hw.own 5 1 d (bc x.data)]) h' := (Sat.asc g3).part [1, 2, 0] (by decide) rfl
  have g5 := g4.into
  have e1 : (X.map fun x => Hw.own 5 1 x.2 (bc x.1.data)) ++ [Hw.own 5 1 d (bc x.data)] = (X ++ [(x, d)]).map fun x => Hw.own 5 1 x.2 (bc x.1.data) := by simp
  have e2 : X.flatMap sndC ++ sndC (x, d) = (X ++ [(x, d)]).flatMap sndC := by simp
  rw [e1, e2] at g5
  exact hF s' h' (snds_shut (X := X ++ [(x, d)]) (Sat.asc g5) (by rw [List.map_append, hX]; rfl))
theorem snds_one {x : Snd} {d : Sl} {F : Nat → Hp → Prop} (hs : Sat (L ++ [Hw.own 5 1 d (bc x.data)]) h) (hF : ∀ b h', Sat (L ++ [sndsA ⟨some (bk b), 1, 1⟩ [x]]) h' → F b h') : nw h (.cells ⟨sndC (x, d)⟩ 99) F := by
 intro b hb
 have g1 := hs.addOwn (T := 99) (sz := 8) (s := ⟨some (bk b), 1, 1⟩) (vs := sndC (x, d)) (Ext.new (o := .cells ⟨sndC (x, d)⟩ 99 (0, 0)) hb) ⟨rfl, Nat.le_refl _, rfl, sndC (x, d), upd_same, rfl, rfl⟩ (by
  intro b' hb'
  simp only [Option.some.injEq] at hb'
  have : b = b' := congrArg Addr.block hb'
  subst this; exact hb)
 have g2 : Sat ((L ++ [Hw.own 99 8 ⟨some (bk b), 1, 1⟩ (sndC (x, d))]) ++ [Hw.own 5 1 d (bc x.data)]) _ := g1.part [1, 0] (by decide) rfl
 have g3 := g2.close
 exact hF b _ (snds_shut (X := [(x, d)]) (by simpa using Sat.asc g3) rfl)
end
end Go.Proofs.YtbbnpmikjdgdpaaGreat

/-
 The cache: the program's calls Ask, learn, On, Tick.
-/
set_option linter.unusedSimpArgs false
set_option linter.unusedVariables false
set_option maxRecDepth 4000
namespace Go.Proofs.YtbbnpmikjdgdpaaGreat
open Go Go.Hw
section
variable {L : List Asn} {b : Nat} {c : Ca} {h : Hp}
theorem n_new2 {p : Sl} {pk : List UInt8} {src ip : Int} {K : Sl → Hp → Prop} (hs : Sat (L ++ [cacheA b c]) h) (ho : c.ok) (hp : ∀ h', Sat L h' → RdB h' p pk) (hpl : pk.length ≤ 1099511627776) (hsrc : 0 ≤ src ∧ src < 4294967296) (hip : 0 ≤ ip ∧ ip < 4294967296)
  (hK : ∀ s h', Sat (L ++ [cacheA b (newC c src ip pk).2, sndsA s (newC c src ip pk).1]) h' → K s h') : N38_j2 (some (bk b)) src ip p h K := by
 unfold N38_j2
 obtain ⟨m, g1⟩ := cache_open hs
 simp only [nn_some', add_bk]
 refine g1.lM 0 rfl rfl ?_
 have g2 : Sat ((L ++ [row b 138 (caC c m)]) ++ [pmA keyE entA .u32 m c.l]) h := Sat.csa g1
 refine pm_del g2 ho.nod mu_t mu_k ?_
 intro h1 g3
 have g4 : Sat (L ++ [cacheA b { c with l := delK keyE ip c.l }]) h1 := cache_shut (c := { c with l := delK keyE ip c.l }) (m := m) (Sat.asc g3)
 have ho1 := ho.del ip
 unfold newC at hK
 refine n_room g4 ho1 ?_ ?_
 ·intro hr h2 g5
  simp only [Bool.not_false, cond_true]
  have hr : roomL c.most (delK keyE ip c.l) = none := hr
  rw [hr] at hK
  exact hK _ _ (snds_nil g5)
 ·intro l hr h2 g5
  simp only [Bool.not_true, cond_false]
  have hr' : roomL c.most (delK keyE ip c.l) = some l := hr
  rw [hr'] at hK
  obtain ⟨ho2, hl2, hm2⟩ := ho1.room hr
  have g5 : Sat (L ++ [cacheA b { c with l := l }]) h2 := g5
  refine n_behind g5 ho2 (by omega) ?_
  refine c_bclone (hp h2 g5.left) (by omega) fun d h3 hd => ?_
  have hnip : ∀ x ∈ l, x.ip ≠ ip := fun x hx => (delK_mem (hm2 x hx)).2
  have g6 := g5.addNew hd
  have eb : behindC { c with l := l } 10 = behindC c 10 := rfl
  rw [eb]
  generalize hE : (⟨ip, mac0, behindC c 10, 1, src, pk⟩ : NE) = e at hK
  refine g6.nw ?_
  intro b1 h4 g7 _
  have g7 : Sat ((L ++ [cacheA b { c with l := l }]) ++ [row b1 146 (entC e d), Hw.own 5 1 d (bc e.pk)]) h4 := by
   subst hE
   have g7' : Sat (L ++ [cacheA b { c with l := l }, Hw.own 5 1 d (bc pk), row b1 146 [.int .u8 0, .int .u8 0, .int .u8 0, .int .u8 0, .int .u8 0, .int .u8 0, .int .i64 (behindC c 10), .int .i64 1, .int .u32 src, .slice d.p d.n d.c]]) h4 := g7
   exact g7'.part [0, 2, 1] (by decide) rfl
  have g8 : Sat ((L ++ [entA b1 e]) ++ [cacheA b { c with l := l }]) h4 := (Sat.asc (ent_shut g7)).part [1, 0] (by decide) rfl
  obtain ⟨m, g9⟩ := cache_open g8
  have hke : keyE e = ip := by subst hE; rfl
  have g10 : Sat ((L ++ [row b 138 (caC { c with l := l } m)]) ++ [pmA keyE entA .u32 m l, entA b1 e]) h4 := (Sat.asc g9).part [1, 2, 0] (by decide) rfl
  refine g9.lM 0 rfl rfl ?_
  have hfn : findK keyE (keyE e) l = none := findK_none_of fun x hx => by rw [hke]; exact hnip x hx
  rw [← hke]
  refine pm_newH g10 mu_t mu_k hfn ?_
  intro h5 g11
  have g12 := g11 (putL' e l) (putL_perm e l)
  have hei : e.ip = ip := hke
  rw [show keyE e = e.ip from rfl]
  have hnod : NodK keyE (putL' e l) := srt_nod (putL_srt ho2.srt (fun x hx => by rw [hei]; exact hnip x hx))
  have hfe : findK keyE e.ip (putL' e l) = some e := findK_of hnod ((putL_perm e l).mem_iff.2 List.mem_cons_self) rfl
  generalize hc2 : ({ c with l := putL' e l } : Ca) = c2 at hK
  have hl2' : c2.l = putL' e l := by rw [← hc2]
  have hoc2 : c2.own = c.own := by rw [← hc2]
  have g13 : Sat ((L ++ [pmH keyE entA .u32 m (putL' e l) e.ip b1]) ++ [row b 138 (caC c2 m), entA b1 e]) h5 := by
   rw [← hc2]
   exact (Sat.asc g12).part [1, 0, 2] (by decide) rfl
  have hsr : 0 ≤ e.src ∧ e.src < 4294967296 := by subst hE; exact hsrc
  have hir : 0 ≤ e.ip ∧ e.ip < 4294967296 := by rw [hei]; exact hip
  have hoc : c2.ok := by
   rw [← hc2]
   have := ho2.put (e := e) (by subst hE; exact newE_ok ho hsrc hip hpl) hl2 (fun x hx => by rw [hei]; exact hnip x hx)
   exact this
  refine n_quest g13 hoc hsr hir ?_
  intro s6 h6 g14
  have g15 : Sat ((L ++ [Hw.own 5 1 s6 (bc (questC c2 e).data)]) ++ [row b 138 (caC c2 m), pmH keyE entA .u32 m c2.l e.ip b1, entA b1 e]) h6 := by
   rw [hl2']
   exact (Sat.asc g14).part [3, 1, 0, 2] (by decide) rfl
  have g16 := cache_shut (n_back g15 (by rw [hl2']; exact hnod) (by rw [hl2']; exact hfe))
  have g17 : Sat ((L ++ [cacheA b c2]) ++ [Hw.own 5 1 s6 (bc (questC c2 e).data)]) h6 := (Sat.asc g16).part [1, 0] (by decide) rfl
  refine snds_one (x := questC c2 e) g17 ?_
  intro b2 h7 g18
  have hq : questC c2 e = questC c e := by rw [← hc2]; rfl
  rw [hq, ← hc2] at g18
  exact hK _ _ (Sat.asc g18)
theorem n_ask {p : Sl} {pk : List UInt8} {src ip now : Int} {K : Sl → Hp → Prop} (hs : Sat (L ++ [cacheA b c]) h) (ho : c.ok) (hp : ∀ h', Sat L h' → RdB h' p pk) (hpl : pk.length ≤ 1099511627776) (hsrc : 0 ≤ src ∧ src < 4294967296) (hip : 0 ≤ ip ∧ ip < 4294967296)
  (hK : ∀ s h', Sat (L ++ [cacheA b (askC (tellC c now) src ip pk).2, sndsA s (askC (tellC c now) src ip pk).1]) h' → K s h') : C38 (some (bk b)) src ip p now h K := by
 apply S38; unfold N38
 refine n_tell hs fun h1 g1 => ?_
 have ho1 := ho.tell now
 generalize tellC c now = c1 at hK g1 ho1
 obtain ⟨m, g2⟩ := cache_open g1
 simp only [nn_some', add_bk]
 refine g2.lM 0 rfl rfl ?_
 unfold askC at hK
 refine n_get g2 ho1 ?_ ?_
 ·intro hf r hr
  rw [hf] at hK
  rw [rval_kv hr]
  simp only [Option.getD_none, xP_some, peq_none, Option.isNone_none, Bool.not_true, cond_false, N38_j0, N38_j1]
  exact n_new2 g1 ho1 hp hpl hsrc hip hK
 ·intro e q hf g3 r hr
  rw [hf] at hK
  simp only at hK
  rw [rval_kv hr]
  simp only [Option.getD_some, xP_some, peq_none, Option.isNone_some, Bool.not_false, cond_true]
  obtain ⟨hem, hei⟩ := findK_some hf
  have hei : e.ip = ip := hei
  have heo := ho1.all e hem
  have g4 : Sat ((L ++ [row b 138 (caC c1 m), pmH keyE entA .u32 m c1.l ip q]) ++ [entA q e]) h1 := Sat.csa g3 (A := [_, _])
  refine n_known g4 ?_
  unfold N38_j0
  by_cases ht : e.tries = 0
  ·rw [show (e.tries == 0) = true by simp [ht], Bool.not_true, cond_false]
   simp only [peq_none, Option.isNone_some, Bool.not_false, cond_true, nn_some', add_bk]
   rw [if_neg (fun q => q ht)] at hK
   refine g2.lI 0 rfl rfl ?_
   obtain ⟨se, g5⟩ := ent_open g4
   refine g5.lI 0 rfl rfl ?_
   unfold N38_j1
   by_cases hnow : c1.now < e.til
   ·rw [if_pos hnow] at hK
    rw [decide_eq_true hnow, cond_true]
    simp only [nn_some', add_bk]
    refine g5.lI 0 rfl rfl ?_
    refine g5.lI 0 rfl rfl ?_
    refine g5.lI 0 rfl rfl ?_
    refine g5.lI 0 rfl rfl ?_
    refine g5.lI 0 rfl rfl ?_
    refine g5.lI 0 rfl rfl ?_
    refine c_bclone (hp h1 g1.left) (by omega) fun d h2 hd => ?_
    have g6 := g5.ext hd.1
    refine ⟨g6.lI 0 rfl rfl (g6.lI 0 rfl rfl (g6.lI 0 rfl rfl (g6.lI 0 rfl rfl (g6.lI 0 rfl rfl (g6.lI 0 rfl rfl ⟨rfl, rfl⟩))))), ?_⟩
    have g7 := g1.addNew hd
    have g8 : Sat ((L ++ [cacheA b c1]) ++ [Hw.own 5 1 d (bc pk)]) h2 := Sat.csa g7 (A := [_])
    refine snds_one (x := ⟨e.mac, 2048, pk⟩) g8 ?_
    intro b2 h3 g9
    exact hK _ _ (Sat.asc g9)
   ·rw [if_neg hnow] at hK
    rw [decide_eq_false hnow, cond_false]
    exact n_new2 g1 ho1 hp hpl hsrc hip hK
  ·rw [show (e.tries == 0) = false by simp [ht], Bool.not_false, cond_true]
   rw [if_pos ht] at hK
   refine c_bclone (hp h1 g1.left) (by omega) fun d h2 hd => ?_
   simp only [nn_some', add_bk]
   have g5 := g4.addNew hd
   have g6 : Sat ((L ++ [row b 138 (caC c1 m), pmH keyE entA .u32 m c1.l ip q, Hw.own 5 1 d (bc pk)]) ++ [entA q e]) h2 := (Sat.asc g5).part [0, 1, 3, 2] (by decide) rfl
   obtain ⟨se, g7⟩ := ent_open g6
   refine g7.st 0 rfl (by simp [entC]) rfl fun h3 g8 => ?_
   refine Sat.st g8 0 rfl (by simp [entC]) rfl fun h4 g9 => ?_
   have g10 : Sat ((L ++ [row b 138 (caC c1 m), pmH keyE entA .u32 m c1.l ip q]) ++ [row q 146 (entC { e with src := src, pk := pk } d), Hw.own 5 1 d (bc pk)]) h4 := (Sat.asc g9).part [0, 1, 3, 2] (by decide) rfl
   have g11 : Sat ((L ++ [row b 138 (caC c1 m)]) ++ [pmH keyE entA .u32 m c1.l ip q, entA q { e with src := src, pk := pk }]) h4 := Sat.mv (ent_shut (e := { e with src := src, pk := pk }) g10)
   have g12 := pm_in g11 ho1.nod hei
   have g13 : Sat (L ++ [cacheA b { c1 with l := updK keyE ip { e with src := src, pk := pk } c1.l }]) h4 := cache_shut (c := { c1 with l := updK keyE ip { e with src := src, pk := pk } c1.l }) (m := m) (Sat.asc g12)
   exact hK _ _ (snds_nil g13)
def arpC (op : Int) (s : M6) (si : Int) (d : M6) (di : Int) : List Value := [.int .i64 op, .int .u8 s.a, .int .u8 s.b, .int .u8 s.c, .int .u8 s.d, .int .u8 s.e, .int .u8 s.f, .int .u32 si, .int .u8 d.a, .int .u8 d.b, .int .u8 d.c, .int .u8 d.d, .int .u8 d.e, .int .u8 d.f, .int .u32 di]
theorem learn_end {z m : Nat} {X : Asn} {op si di : Int} {s6 d6 : M6} {out : Sl} {o : List Snd} {l' : List NE} {K : Sl → Hp → Prop} (hs : Sat (L ++ [row z 160 (arpC op s6 si d6 di), sndsA out o, row b 138 (caC c m), X]) h) (ho : c.ok)
  (hX : ∀ (L' : List Asn) (q : Nat) (h1 : Hp) (F : Hp → Prop), Sat (L' ++ [X, entA q ⟨si, s6, behindC c 600, 0, 0, []⟩]) h1 → (∀ h2, Sat (L' ++ [pmA keyE entA .u32 m l']) h2 → F h2) → Hw.muK Tryz.prog 136 (.map (some m)) (.int .u32 si) (.pointer (some (bk q))) h1 F)
  (hK : ∀ h', Sat (L ++ [sndsA out o, cacheA b { c with l := l' }]) h' → K out h') : N142_j1 (some (bk b)) (some (bk z)) out h K := by
 unfold N142_j1
 simp only [nn_some', add_bk]
 refine hs.lM 2 rfl rfl ?_
 refine hs.lI 0 rfl rfl ?_
 refine hs.lI 0 rfl rfl ?_
 refine hs.lI 0 rfl rfl ?_
 refine hs.lI 0 rfl rfl ?_
 refine hs.lI 0 rfl rfl ?_
 refine hs.lI 0 rfl rfl ?_
 refine hs.lI 0 rfl rfl ?_
 refine n_behind1 hs 2 rfl ho (by omega) ?_
 refine ⟨hs.lI 0 rfl rfl (hs.lI 0 rfl rfl (hs.lI 0 rfl rfl (hs.lI 0 rfl rfl (hs.lI 0 rfl rfl (hs.lI 0 rfl rfl ⟨rfl, rfl⟩))))), hs.lI 0 rfl rfl ⟨rfl, rfl⟩, hs.lM 2 rfl rfl ⟨rfl, rfl⟩, ?_⟩
 refine hs.nw ?_
 intro b1 h1 g3 _
 have g4 : Sat ((L ++ [row z 160 (arpC op s6 si d6 di), sndsA out o, row b 138 (caC c m), X]) ++ [row b1 146 (entC ⟨si, s6, behindC c 600, 0, 0, []⟩ ⟨none, 0, 0⟩)]) h1 := Sat.csa g3 (A := [_, _, _, _])
 have g6 : Sat ((L ++ [row z 160 (arpC op s6 si d6 di), sndsA out o, row b 138 (caC c m), X]) ++ [row b1 146 (entC ⟨si, s6, behindC c 600, 0, 0, []⟩ ⟨none, 0, 0⟩), Hw.own 5 1 ⟨none, 0, 0⟩ (bc (NE.mk si s6 (behindC c 600) 0 0 []).pk)]) h1 := g4.addNil 5 1
 have g7 := ent_shut g6
 have g8 : Sat (L ++ [row z 160 (arpC op s6 si d6 di), sndsA out o, row b 138 (caC c m), X, entA b1 ⟨si, s6, behindC c 600, 0, 0, []⟩]) h1 := Sat.asc g7
 refine ⟨g8.lI 0 rfl rfl ⟨rfl, rfl⟩, g8.lM 2 rfl rfl ⟨rfl, rfl⟩, ?_⟩
 have g9 : Sat ((L ++ [sndsA out o, row b 138 (caC c m)]) ++ [X, entA b1 ⟨si, s6, behindC c 600, 0, 0, []⟩]) h1 := g8.part [1, 2, 3, 4] (by decide) rfl
 refine hX _ _ _ _ g9 fun h2 g => ?_
 have g1 : Sat ((L ++ [sndsA out o]) ++ [row b 138 (caC { c with l := l' } m), pmA keyE entA .u32 m ({ c with l := l' } : Ca).l]) h2 := Sat.mv g
 exact hK h2 (Sat.asc (cache_shut g1))
theorem n_learn {op si di : Int} {s6 d6 : M6} {asks : Bool} {K : Sl → Hp → Prop} (hs : Sat (L ++ [cacheA b c]) h) (ho : c.ok) (hm : s6.ok) (hi : 0 ≤ si ∧ si < 4294967296)
  (hK : ∀ s h', Sat (L ++ [cacheA b (learnC c si s6 asks).2, sndsA s (learnC c si s6 asks).1]) h' → K s h') : C142 (some (bk b)) op s6.a s6.b s6.c s6.d s6.e s6.f si d6.a d6.b d6.c d6.d d6.e d6.f di asks h K := by
 apply S142; unfold N142
 refine hs.nw ?_
 intro z h1 g1 _
 have g1 : Sat (L ++ [cacheA b c, row z 160 (arpC op s6 si d6 di)]) h1 := g1
 have g2 : Sat ((L ++ [row z 160 (arpC op s6 si d6 di)]) ++ [cacheA b c]) h1 := g1.part [1, 0] (by decide) rfl
 obtain ⟨m, g3⟩ := cache_open g2
 simp only [nn_some', add_bk]
 refine g3.lM 0 rfl rfl ?_
 refine g1.lI 1 rfl rfl ?_
 unfold learnC at hK
 refine n_get g3 ho ?_ ?_
 ·intro hf r hr
  rw [hf] at hK
  simp only at hK
  rw [rval_kv hr]
  simp only [Option.getD_none, xP_some, peq_none, Option.isNone_none, Bool.not_true, cond_false, N142_j0, cond_true]
  cases asks with
  | false =>
   simp only [Bool.not_false, cond_true]
   rw [if_neg (by decide)] at hK
   have g4 : Sat (L ++ [cacheA b c]) h1 := g1.sel [0] (by decide) rfl
   exact hK _ _ (snds_nil g4)
  | true =>
   simp only [Bool.not_true, cond_false]
   rw [if_pos rfl] at hK
   refine n_room g2 ho ?_ ?_
   ·intro hr h2 g4
    rw [hr] at hK
    simp only [Bool.not_false, cond_true]
    have g5 : Sat (L ++ [cacheA b c]) h2 := (Sat.asc g4).sel [1] (by decide) rfl
    exact hK _ _ (snds_nil g5)
   ·intro l hr h2 g4
    rw [hr] at hK
    simp only [Bool.not_true, cond_false]
    obtain ⟨ho2, hl2, hm2⟩ := ho.room hr
    have g5 := snds_nil g4
    have g6 : Sat (L ++ [row z 160 (arpC op s6 si d6 di), sndsA ⟨none, 0, 0⟩ [], cacheA b { c with l := l }]) h2 := (Sat.asc g5).sel [0, 2, 1] (by decide) rfl
    have g6 : Sat ((L ++ [row z 160 (arpC op s6 si d6 di), sndsA ⟨none, 0, 0⟩ []]) ++ [cacheA b { c with l := l }]) h2 := Sat.csa g6 (A := [_, _])
    obtain ⟨m, g6⟩ := cache_open g6
    refine learn_end (c := { c with l := l }) (l' := putL' ⟨si, s6, behindC c 600, 0, 0, []⟩ l) (Sat.asc g6) ho2 ?_ fun h3 g7 => ?_
    ·intro L' q h4 F g hF
     refine pm_new g mu_t mu_k (findK_none_of fun x hx => findK_none hf x (hm2 x hx)) fun h5 g' => hF h5 (g' _ (putL_perm _ l))
    ·exact hK _ _ (g7.sel [1, 0] (by decide) rfl)
 ·intro e q hf g4 r hr
  rw [hf] at hK
  simp only at hK
  rw [rval_kv hr]
  simp only [Option.getD_some, xP_some, peq_none, Option.isNone_some, Bool.not_false, cond_true]
  have g5 : Sat ((L ++ [row z 160 (arpC op s6 si d6 di), row b 138 (caC c m), pmH keyE entA .u32 m c.l si q]) ++ [entA q e]) h1 := Sat.mv g4
  refine n_known g5 ?_
  unfold N142_j0
  by_cases ht : e.tries = 0
  ·rw [show (e.tries == 0) = true by simp [ht], Bool.not_true, cond_false]
   rw [if_neg (fun q => q ht)] at hK
   simp only [peq_none, Option.isNone_some, cond_false]
   have g6 := snds_nil g2
   have g7 : Sat ((L ++ [row z 160 (arpC op s6 si d6 di), sndsA ⟨none, 0, 0⟩ []]) ++ [cacheA b c]) h1 := (Sat.asc g6).part [0, 2, 1] (by decide) rfl
   obtain ⟨m, g7⟩ := cache_open g7
   refine learn_end (l' := updK keyE si ⟨si, s6, behindC c 600, 0, 0, []⟩ c.l) (Sat.asc g7) ho ?_ fun h3 g8 => ?_
   ·intro L' q h4 F g hF
    exact pm_put g ho.nod mu_t mu_k hf hF
   ·exact hK _ _ (g8.sel [1, 0] (by decide) rfl)
  ·rw [show (e.tries == 0) = false by simp [ht], Bool.not_false, cond_true]
   rw [if_pos ht] at hK
   simp only [nn_some', add_bk]
   refine g1.lI 1 rfl rfl ?_
   refine g1.lI 1 rfl rfl ?_
   refine g1.lI 1 rfl rfl ?_
   refine g1.lI 1 rfl rfl ?_
   refine g1.lI 1 rfl rfl ?_
   refine g1.lI 1 rfl rfl ?_
   obtain ⟨se, g6⟩ := ent_open g5
   refine g6.lL 0 rfl rfl ?_
   -- the packet goes out: in its place the entry has none
   have g7 := snds_nil g6
   have g8 : Sat ((L ++ [row z 160 (arpC op s6 si d6 di), row b 138 (caC c m), pmH keyE entA .u32 m c.l si q]) ++ [sndsA ⟨none, 0, 0⟩ [], Hw.own 5 1 se (bc e.pk)]) h1 := (Sat.asc g7).part [0, 1, 2, 5, 4] (by decide) rfl
   refine snds_push (x := ⟨s6, 2048, e.pk⟩) g8 (by simp) ?_
   intro out h2 g9
   have g10 : Sat (L ++ [row z 160 (arpC op s6 si d6 di), sndsA out [⟨s6, 2048, e.pk⟩], row b 138 (caC c m), pmH keyE entA .u32 m c.l si q]) h2 := (Sat.asc g9).sel [0, 3, 1, 2] (by decide) rfl
   refine learn_end (l' := updK keyE si ⟨si, s6, behindC c 600, 0, 0, []⟩ c.l) g10 ho ?_ fun h3 g11 => ?_
   ·intro L' q' h4 F g hF
    exact pm_putH (key := keyE) (obj := entA) (a := ⟨si, s6, behindC c 600, 0, 0, []⟩) (q0 := q) g ho.nod mu_t mu_k hF
   ·exact hK _ _ (g11.sel [1, 0] (by decide) rfl)
theorem on_end {z : Nat} {op si di : Int} {s6 d6 : M6} {asks : Bool} {out : Sl} {o : List Snd} {K : Sl → Hp → Prop} (hs : Sat (L ++ [row z 160 (arpC op s6 si d6 di), cacheA b c, sndsA out o]) h) (ho : c.ok) (hm : s6.ok) (hi : 0 ≤ si ∧ si < 4294967296) (hd : 0 ≤ di ∧ di < 4294967296) (hol : o.length ≤ 1000)
  (hK : ∀ s h', Sat (L ++ [cacheA b c, sndsA s (o ++ if asks then [⟨s6, 2054, arpL 2 c.own di s6 si⟩] else [])]) h' → K s h') : N139_j3 (some (bk b)) (some (bk z)) asks out h K := by
 unfold N139_j3
 cases asks with
 | false =>
  rw [cond_false]
  rw [if_neg (by decide), List.append_nil] at hK
  exact hK _ _ (hs.sel [1, 2] (by decide) rfl)
 | true =>
  rw [cond_true]
  rw [if_pos rfl] at hK
  have g1 : Sat ((L ++ [row z 160 (arpC op s6 si d6 di), sndsA out o]) ++ [cacheA b c]) h := hs.part [0, 2, 1] (by decide) rfl
  obtain ⟨m, g2⟩ := cache_open g1
  simp only [nn_some', add_bk]
  refine g2.lI 0 rfl rfl ?_
  refine g2.lI 0 rfl rfl ?_
  refine g2.lI 0 rfl rfl ?_
  refine g2.lI 0 rfl rfl ?_
  refine g2.lI 0 rfl rfl ?_
  refine g2.lI 0 rfl rfl ?_
  refine hs.lI 0 rfl rfl ?_
  refine hs.lI 0 rfl rfl ?_
  refine hs.lI 0 rfl rfl ?_
  refine hs.lI 0 rfl rfl ?_
  refine hs.lI 0 rfl rfl ?_
  refine hs.lI 0 rfl rfl ?_
  refine hs.lI 0 rfl rfl ?_
  refine hs.lI 0 rfl rfl ?_
  refine hs.lI 0 rfl rfl ?_
  refine hs.lI 0 rfl rfl ?_
  refine hs.lI 0 rfl rfl ?_
  refine hs.lI 0 rfl rfl ?_
  refine hs.lI 0 rfl rfl ?_
  refine hs.lI 0 rfl rfl ?_
  refine hs.lI 0 rfl rfl ?_
  refine c_atell (m := c.own) (sm := s6) (dm := d6) fun h1 he1 => ?_
  refine c_aenc (op := 2) (s := c.own) (d := s6) (.inr rfl) ho.own hm hd hi fun h2 x hx => ?_
  have g3 := (hs.ext he1).addNew hx
  have g3 : Sat (L ++ [row z 160 (arpC op s6 si d6 di), cacheA b c, sndsA out o, Hw.own 5 1 x (bc (arpL 2 c.own di s6 si))]) h2 := g3
  refine g3.lI 0 rfl rfl ?_
  refine g3.lI 0 rfl rfl ?_
  refine g3.lI 0 rfl rfl ?_
  refine g3.lI 0 rfl rfl ?_
  refine g3.lI 0 rfl rfl ?_
  refine g3.lI 0 rfl rfl ?_
  have g4 : Sat ((L ++ [cacheA b c]) ++ [sndsA out o, Hw.own 5 1 x (bc (arpL 2 c.own di s6 si))]) h2 := g3.part [1, 2, 3] (by decide) rfl
  refine snds_push (x := ⟨s6, 2054, arpL 2 c.own di s6 si⟩) g4 (by omega) fun s' h3 g5 => ?_
  exact hK _ _ (Sat.asc g5)
theorem learn_n {c : Ca} {si : Int} {s6 : M6} {asks : Bool} : (learnC c si s6 asks).1.length ≤ 1 := by
 unfold learnC
 split
 ·dsimp only; split <;> simp
 ·split
  ·split <;> simp
  ·simp
theorem learn_own {c : Ca} {si : Int} {s6 : M6} {asks : Bool} : (learnC c si s6 asks).2.own = c.own := by
 unfold learnC
 split
 ·rfl
 ·split
  ·split <;> rfl
  ·rfl
theorem on_mid {z : Nat} {op si di own : Int} {s6 d6 : M6} {asks : Bool} {K : Sl → Hp → Prop} (hs : Sat (L ++ [cacheA b c, row z 160 (arpC op s6 si d6 di)]) h) (ho : c.ok) (hm : s6.ok) (hi : 0 ≤ si ∧ si < 4294967296) (hd : 0 ≤ di ∧ di < 4294967296)
  (hK : ∀ s h', Sat (L ++ [cacheA b (if isHost si && decide (si ≠ own) then learnC c si s6 asks else ([], c)).2, sndsA s ((if isHost si && decide (si ≠ own) then learnC c si s6 asks else ([], c)).1 ++ if asks then [⟨s6, 2054, arpL 2 c.own di s6 si⟩] else [])]) h' → K s h') : N139_j1 (some (bk b)) own (some (bk z)) asks h K := by
 unfold N139_j1
 simp only [nn_some', add_bk]
 refine hs.lI 1 rfl rfl ?_
 refine c_isHost ?_
 have no : N139_j2 (some (bk b)) (some (bk z)) asks ⟨none, 0, 0⟩ false h (fun s2 h3 => N139_j3 (some (bk b)) (some (bk z)) asks s2 h3 fun s3 h4 => K s3 h4) ∨ (isHost si && decide (si ≠ own)) = true := by
  by_cases hq : (isHost si && decide (si ≠ own)) = true
  ·exact .inr hq
  ·left
   unfold N139_j2
   rw [cond_false]
   have g1 := snds_nil hs
   have g2 : Sat (L ++ [row z 160 (arpC op s6 si d6 di), cacheA b c, sndsA ⟨none, 0, 0⟩ []]) h := g1.sel [1, 0, 2] (by decide) rfl
   refine on_end g2 ho hm hi hd (by simp) fun s h' g => ?_
   rw [if_neg hq] at hK
   exact hK _ _ g
 cases hh : isHost si with
 | false =>
  rw [cond_false]
  rcases no with no | no
  ·exact no
  ·rw [hh] at no; cases no
 | true =>
  rw [cond_true]
  refine hs.lI 1 rfl rfl ?_
  by_cases hso : si = own
  ·rw [show (si != own) = false by simp [hso]]
   rcases no with no | no
   ·exact no
   ·simp [hso] at no
  ·rw [show (si != own) = true by simp [hso]]
   rw [if_pos (by simp [hh, hso])] at hK
   unfold N139_j2
   rw [cond_true]
   simp only [nn_some', add_bk]
   refine hs.lI 1 rfl rfl ?_
   refine hs.lI 1 rfl rfl ?_
   refine hs.lI 1 rfl rfl ?_
   refine hs.lI 1 rfl rfl ?_
   refine hs.lI 1 rfl rfl ?_
   refine hs.lI 1 rfl rfl ?_
   refine hs.lI 1 rfl rfl ?_
   refine hs.lI 1 rfl rfl ?_
   refine hs.lI 1 rfl rfl ?_
   refine hs.lI 1 rfl rfl ?_
   refine hs.lI 1 rfl rfl ?_
   refine hs.lI 1 rfl rfl ?_
   refine hs.lI 1 rfl rfl ?_
   refine hs.lI 1 rfl rfl ?_
   refine hs.lI 1 rfl rfl ?_
   have g1 : Sat ((L ++ [row z 160 (arpC op s6 si d6 di)]) ++ [cacheA b c]) h := hs.part [1, 0] (by decide) rfl
   refine n_learn (s6 := s6) (d6 := d6) g1 ho hm hi fun s1 h1 g2 => ?_
   have g3 : Sat (L ++ [row z 160 (arpC op s6 si d6 di), cacheA b (learnC c si s6 asks).2, sndsA s1 (learnC c si s6 asks).1]) h1 := Sat.asc g2
   refine on_end g3 (learnC_ok ho hm hi) hm hi hd (by have := learn_n (c := c) (si := si) (s6 := s6) (asks := asks); omega) fun s h' g => ?_
   rw [learn_own] at g
   exact hK _ _ g
theorem n_on {op si di own now : Int} {s6 d6 : M6} {K : Sl → Hp → Prop} (hs : Sat (L ++ [cacheA b c]) h) (ho : c.ok) (hm : s6.ok) (hi : 0 ≤ si ∧ si < 4294967296) (hd : 0 ≤ di ∧ di < 4294967296)
  (hK : ∀ s h', Sat (L ++ [cacheA b (onC (tellC c now) op s6 si di own).2, sndsA s (onC (tellC c now) op s6 si di own).1]) h' → K s h') : C139 (some (bk b)) op s6.a s6.b s6.c s6.d s6.e s6.f si d6.a d6.b d6.c d6.d d6.e d6.f di own now h K := by
 apply S139; unfold N139
 refine hs.nw ?_
 intro z h1 g1 _
 have g1 : Sat (L ++ [cacheA b c, row z 160 (arpC op s6 si d6 di)]) h1 := g1
 have g2 : Sat ((L ++ [row z 160 (arpC op s6 si d6 di)]) ++ [cacheA b c]) h1 := g1.part [1, 0] (by decide) rfl
 refine n_tell g2 fun h2 g3 => ?_
 have ho1 := ho.tell now
 generalize tellC c now = c1 at hK g3 ho1
 have g4 : Sat (L ++ [cacheA b c1, row z 160 (arpC op s6 si d6 di)]) h2 := (Sat.asc g3).sel [1, 0] (by decide) rfl
 have none_ : ((op ≠ 1 ∧ op ≠ 2) ∨ s6.a % 2 = 1) → ∀ {h3}, Sat (L ++ [cacheA b c1, row z 160 (arpC op s6 si d6 di)]) h3 → K ⟨none, 0, 0⟩ h3 := by
  intro q h3 g
  unfold onC at hK
  rw [if_pos q] at hK
  have g5 : Sat (L ++ [cacheA b c1]) h3 := g.sel [0] (by decide) rfl
  exact hK _ _ (snds_nil g5)
 have j0 : (op = 1 ∨ op = 2) → s6.a % 2 ≠ 1 → ∀ {h3}, Sat (L ++ [cacheA b c1, row z 160 (arpC op s6 si d6 di)]) h3 → N139_j0 (some (bk b)) own (some (bk z)) h3 K := by
  intro q1 q2 h3 g
  unfold onC at hK
  rw [if_neg (by omega)] at hK
  simp only at hK
  unfold N139_j0
  by_cases ho0 : own = 0
  ·rw [show (own != 0) = false by simp [ho0], cond_false]
   have ha : asksC op own di = false := by unfold asksC; simp [ho0]
   rw [ha] at hK
   exact on_mid g ho1 hm hi hd hK
  ·rw [show (own != 0) = true by simp [ho0], cond_true]
   simp only [nn_some', add_bk]
   refine Sat.lI g 1 (k := 0) rfl rfl ?_
   by_cases hop : op = 1
   ·rw [show (op == 1) = true by simp [hop], cond_true]
    refine g.lI 1 rfl rfl ?_
    have ha : asksC op own di = (di == own) := by unfold asksC; simp [ho0, hop, BEq.beq]
    rw [ha] at hK
    exact on_mid g ho1 hm hi hd hK
   ·rw [show (op == 1) = false by simp [hop], cond_false]
    have ha : asksC op own di = false := by unfold asksC; simp [hop]
    rw [ha] at hK
    exact on_mid g ho1 hm hi hd hK
 have grp : (op = 1 ∨ op = 2) → ∀ {h3}, Sat (L ++ [cacheA b c1, row z 160 (arpC op s6 si d6 di)]) h3 → C80 s6.a s6.b s6.c s6.d s6.e s6.f h3 fun b1 h2 => bif b1 then K ⟨none, 0, 0⟩ h2 else N139_j0 (some (bk b)) own (some (bk z)) h2 fun s0 h3 => K s0 h3 := by
  intro q1 h3 g
  refine c_group hm.1.1 hm.1.2 fun h4 he4 => ?_
  have g5 := g.ext he4
  by_cases hg : s6.a % 2 = 1
  ·rw [show (s6.a % 2 == 1) = true by simp [hg], cond_true]
   exact none_ (.inr hg) g5
  ·rw [show (s6.a % 2 == 1) = false by simp [hg], cond_false]
   exact j0 q1 hg g5
 simp only [add_bk]
 refine g4.lI 1 (k := 0) rfl rfl ?_
 by_cases h1' : op = 1
 ·rw [show (op != 1) = false by simp [h1'], cond_false]
  refine g4.lI 1 rfl rfl ?_
  refine g4.lI 1 rfl rfl ?_
  refine g4.lI 1 rfl rfl ?_
  refine g4.lI 1 rfl rfl ?_
  refine g4.lI 1 rfl rfl ?_
  refine g4.lI 1 rfl rfl ?_
  exact grp (.inl h1') g4
 ·rw [show (op != 1) = true by simp [h1'], cond_true]
  refine g4.lI 1 (k := 0) rfl rfl ?_
  by_cases h2' : op = 2
  ·rw [show (op != 2) = false by simp [h2'], cond_false]
   refine g4.lI 1 rfl rfl ?_
   refine g4.lI 1 rfl rfl ?_
   refine g4.lI 1 rfl rfl ?_
   refine g4.lI 1 rfl rfl ?_
   refine g4.lI 1 rfl rfl ?_
   refine g4.lI 1 rfl rfl ?_
   exact grp (.inr h2') g4
  ·rw [show (op != 2) = true by simp [h2'], cond_true]
   exact none_ (.inl ⟨h1', h2'⟩) g4
end
end Go.Proofs.YtbbnpmikjdgdpaaGreat

set_option linter.unusedVariables false
set_option maxRecDepth 100000
namespace Go.Proofs.YtbbnpmikjdgdpaaGreat
open Go Go.Hw
noncomputable def B67 : Code := match Tryz.f67.body with | some c => c | none => .skip
noncomputable def N67_r0_t : Ann := .xf (treeT Tryz.prog E Tryz.f67.ntmps (.one 0 (.one 1 (.one 2 (.one 3 (.one 4 (.one 5 (.one 6 (.one 7 (.one 8 (.one 9 (.one 10 (.one 12 (.fork 11 (.fork 13 (.one 14 (.fork 15 (.fork 16 .done .done) .done)) (.fork 15 (.fork 13 (.one 14 (.fork 16 .done .done)) .done) .done)) (.fork 15 (.fork 11 (.fork 13 (.one 14 (.fork 16 .done .done)) .done) .done) .done)))))))))))))) (codeAt B67 [1, 1, 1, 1, 0]))
theorem N67_r0_ok : annOk Tryz.prog Tryz.f67.ntmps N67_r0_t (codeAt B67 [1, 1, 1, 1, 0]) := tree_sound hE hm (by kernel_rfl)
def N67_j1 (x0 : Sl) (x2 x5 : Option Addr) (x40 : Bool) (h : Hp) (Kn : Hp → Prop) (Kr : Int → Hp → Prop) : Prop :=
 bif x40 then
 nn x2 fun a0 =>
 st h a0 (.int .i64 0) fun h0 =>
 st h0 (a0.add 1) (.int .u8 0) fun h1 =>
 st h1 (a0.add 2) (.int .u8 0) fun h2 =>
 st h2 (a0.add 3) (.int .u8 0) fun h3 =>
 st h3 (a0.add 4) (.int .u8 0) fun h4 =>
 st h4 (a0.add 5) (.int .u8 0) fun h5 =>
 st h5 (a0.add 6) (.int .u8 0) fun h6 =>
 st h6 (a0.add 7) (.int .u32 0) fun h7 =>
 st h7 (a0.add 8) (.int .u8 0) fun h8 =>
 st h8 (a0.add 9) (.int .u8 0) fun h9 =>
 st h9 (a0.add 10) (.int .u8 0) fun h10 =>
 st h10 (a0.add 11) (.int .u8 0) fun h11 =>
 st h11 (a0.add 12) (.int .u8 0) fun h12 =>
 st h12 (a0.add 13) (.int .u8 0) fun h13 =>
 st h13 (a0.add 14) (.int .u32 0) fun h14 =>
 Kr 80 h14
 else
 Kn h
noncomputable def N67_j1_t : Xf := pieceT [(0, .c (.slice)), (2, .c (.ptr)), (5, .c (.ptr)), (40, .c (.bool))] (codeAt B67 [1, 1, 1, 1, 1, 0, 1]) fun x h Q => N67_j1 x.1 x.2.1 x.2.2.1 x.2.2.2 h (fun h' => Q .normal (Sg.env [] ()) h') (fun o0 h' => Q .ret (Sg.env [(3, .c (.int .i64))] o0) h')
theorem N67_j1_ok : Sound Tryz.prog Tryz.f67.ntmps N67_j1_t (codeAt B67 [1, 1, 1, 1, 1, 0, 1]) := by
 refine piece_sound (fun e => match e with | .normal => [] | .ret => [3] | _ => []) ?_
 intro x h Q hb
 refine den_sound hE hm _ .leaf _ _ _ (annOk_leaf) ?_
 refine cast ?_ hb
 kernel_rfl
def N67_j2 (x0 : Sl) (x2 x5 : Option Addr) (h : Hp) (Kr : Int → Hp → Prop) : Prop :=
 nn x5 fun a0 =>
 bd 8 x0.n fun k0 =>
 cpK Tryz.prog 5 ⟨sadr (some (a0.add 1)) 6 0 1, 6, 6⟩ (.slice (sadr x0.p x0.c k0 1) (x0.n - k0) (x0.c - k0)) h fun n0 h0 =>
 nn x5 fun a1 =>
 bd 18 x0.n fun k1 =>
 cpK Tryz.prog 5 ⟨sadr (some (a1.add 8)) 6 0 1, 6, 6⟩ (.slice (sadr x0.p x0.c k1 1) (x0.n - k1) (x0.c - k1)) h0 fun n1 h1 =>
 nn x5 fun a2 =>
 xI .i64 (cell h1 a2) fun n2 =>
 xI .u8 (cell h1 (a2.add 1)) fun n3 =>
 xI .u8 (cell h1 (a2.add 2)) fun n4 =>
 xI .u8 (cell h1 (a2.add 3)) fun n5 =>
 xI .u8 (cell h1 (a2.add 4)) fun n6 =>
 xI .u8 (cell h1 (a2.add 5)) fun n7 =>
 xI .u8 (cell h1 (a2.add 6)) fun n8 =>
 xI .u32 (cell h1 (a2.add 7)) fun n9 =>
 xI .u8 (cell h1 (a2.add 8)) fun n10 =>
 xI .u8 (cell h1 (a2.add 9)) fun n11 =>
 xI .u8 (cell h1 (a2.add 10)) fun n12 =>
 xI .u8 (cell h1 (a2.add 11)) fun n13 =>
 xI .u8 (cell h1 (a2.add 12)) fun n14 =>
 xI .u8 (cell h1 (a2.add 13)) fun n15 =>
 xI .u32 (cell h1 (a2.add 14)) fun n16 =>
 nn x2 fun a3 =>
 st h1 a3 (.int .i64 n2) fun h2 =>
 st h2 (a3.add 1) (.int .u8 n3) fun h3 =>
 st h3 (a3.add 2) (.int .u8 n4) fun h4 =>
 st h4 (a3.add 3) (.int .u8 n5) fun h5 =>
 st h5 (a3.add 4) (.int .u8 n6) fun h6 =>
 st h6 (a3.add 5) (.int .u8 n7) fun h7 =>
 st h7 (a3.add 6) (.int .u8 n8) fun h8 =>
 st h8 (a3.add 7) (.int .u32 n9) fun h9 =>
 st h9 (a3.add 8) (.int .u8 n10) fun h10 =>
 st h10 (a3.add 9) (.int .u8 n11) fun h11 =>
 st h11 (a3.add 10) (.int .u8 n12) fun h12 =>
 st h12 (a3.add 11) (.int .u8 n13) fun h13 =>
 st h13 (a3.add 12) (.int .u8 n14) fun h14 =>
 st h14 (a3.add 13) (.int .u8 n15) fun h15 =>
 st h15 (a3.add 14) (.int .u32 n16) fun h16 =>
 Kr 0 h16
noncomputable def N67_j2_t : Xf := pieceT [(0, .c (.slice)), (2, .c (.ptr)), (5, .c (.ptr))] (codeAt B67 [1, 1, 1, 1, 1, 1]) fun x h Q => N67_j2 x.1 x.2.1 x.2.2 h (fun o0 h' => Q .ret (Sg.env [(3, .c (.int .i64))] o0) h')
theorem N67_j2_ok : Sound Tryz.prog Tryz.f67.ntmps N67_j2_t (codeAt B67 [1, 1, 1, 1, 1, 1]) := by
 refine piece_sound (fun e => match e with | .ret => [3] | _ => []) ?_
 intro x h Q hb
 refine den_sound hE hm _ (.two (.ord [0, 1, 2, 3, 4]) (.two (.ord [0, 1, 2, 3, 4]) .leaf)) _ _ _ (⟨trivial, ⟨trivial, annOk_leaf⟩⟩) ?_
 refine cast ?_ hb
 kernel_rfl
def N67_j0 (x0 : Sl) (x2 x4 x5 : Option Addr) (h : Hp) (Kr : Int → Hp → Prop) : Prop :=
 nn x4 fun a0 =>
 xI .u8 (cell h a0) fun n0 =>
 xI .u8 (cell h (a0.add 1)) fun n1 =>
 xI .u8 (cell h (a0.add 2)) fun n2 =>
 xI .u8 (cell h (a0.add 3)) fun n3 =>
 xI .u8 (cell h (a0.add 4)) fun n4 =>
 xI .u8 (cell h (a0.add 5)) fun n5 =>
 C82 h fun n6 n7 n8 n9 n10 n11 h0 =>
 both (nn x4 fun a1 => xI .u8 (cell h0 a1) fun n12 => xI .u8 (cell h0 (a1.add 1)) fun n13 => xI .u8 (cell h0 (a1.add 2)) fun n14 => xI .u8 (cell h0 (a1.add 3)) fun n15 => xI .u8 (cell h0 (a1.add 4)) fun n16 => xI .u8 (cell h0 (a1.add 5)) fun n17 => Only (.agg ⟨[.int .u8 n0, .int .u8 n1, .int .u8 n2, .int .u8 n3, .int .u8 n4, .int .u8 n5]⟩) h0 (.agg ⟨[.int .u8 n12, .int .u8 n13, .int .u8 n14, .int .u8 n15, .int .u8 n16, .int .u8 n17]⟩) h0) <|
 bif (!((n0 == n6) && ((n1 == n7) && ((n2 == n8) && ((n3 == n9) && ((n4 == n10) && ((n5 == n11) && true))))))) then
 N67_j1 x0 x2 x5 true h0
 (fun h1 =>
 N67_j2 x0 x2 x5 h1
 (fun n18 h2 =>
 Kr n18 h2))
 (fun n19 h3 =>
 Kr n19 h3)
 else
 nn x5 fun a2 =>
 xI .i64 (cell h0 a2) fun n20 =>
 bif (n20 != 1) then
 nn x5 fun a3 =>
 xI .i64 (cell h0 a3) fun n21 =>
 N67_j1 x0 x2 x5 (n21 != 2) h0
 (fun h4 =>
 N67_j2 x0 x2 x5 h4
 (fun n22 h5 =>
 Kr n22 h5))
 (fun n23 h6 =>
 Kr n23 h6)
 else
 N67_j1 x0 x2 x5 false h0
 (fun h7 =>
 N67_j2 x0 x2 x5 h7
 (fun n24 h8 =>
 Kr n24 h8))
 (fun n25 h9 =>
 Kr n25 h9)
noncomputable def N67_j0_t : Xf := pieceT [(0, .c (.slice)), (2, .c (.ptr)), (4, .c (.ptr)), (5, .c (.ptr))] (codeAt B67 [1, 1, 1, 1, 1]) fun x h Q => N67_j0 x.1 x.2.1 x.2.2.1 x.2.2.2 h (fun o0 h' => Q .ret (Sg.env [(3, .c (.int .i64))] o0) h')
theorem N67_j0_ok : Sound Tryz.prog Tryz.f67.ntmps N67_j0_t (codeAt B67 [1, 1, 1, 1, 1]) := by
 refine piece_sound (fun e => match e with | .ret => [3] | _ => []) ?_
 intro x h Q hb
 refine den_sound hE hm _ (.two (.two (.ord [0, 1, 2, 3, 4, 5, 6, 7, 8, 9, 10, 11, 12]) (.xf N67_j1_t)) (.xf N67_j2_t)) _ _ _ (⟨⟨trivial, N67_j1_ok⟩, N67_j2_ok⟩) ?_
 refine cast ?_ hb
 kernel_rfl
def N67 (x0 : Sl) (h : Hp) (K : Int → Int → Int → Int → Int → Int → Int → Int → Int → Int → Int → Int → Int → Int → Int → Int → Hp → Prop) : Prop :=
 nw h (.cells ⟨[.int .i64 0, .int .u8 0, .int .u8 0, .int .u8 0, .int .u8 0, .int .u8 0, .int .u8 0, .int .u32 0, .int .u8 0, .int .u8 0, .int .u8 0, .int .u8 0, .int .u8 0, .int .u8 0, .int .u32 0]⟩ 160) fun b0 h0 =>
 bif (decide (((x0.n : Nat) : Int) < 28)) then
 st h0 (bk b0) (.int .i64 0) fun h1 =>
 st h1 ((bk b0).add 1) (.int .u8 0) fun h2 =>
 st h2 ((bk b0).add 2) (.int .u8 0) fun h3 =>
 st h3 ((bk b0).add 3) (.int .u8 0) fun h4 =>
 st h4 ((bk b0).add 4) (.int .u8 0) fun h5 =>
 st h5 ((bk b0).add 5) (.int .u8 0) fun h6 =>
 st h6 ((bk b0).add 6) (.int .u8 0) fun h7 =>
 st h7 ((bk b0).add 7) (.int .u32 0) fun h8 =>
 st h8 ((bk b0).add 8) (.int .u8 0) fun h9 =>
 st h9 ((bk b0).add 9) (.int .u8 0) fun h10 =>
 st h10 ((bk b0).add 10) (.int .u8 0) fun h11 =>
 st h11 ((bk b0).add 11) (.int .u8 0) fun h12 =>
 st h12 ((bk b0).add 12) (.int .u8 0) fun h13 =>
 st h13 ((bk b0).add 13) (.int .u8 0) fun h14 =>
 st h14 ((bk b0).add 14) (.int .u32 0) fun h15 =>
 xI .i64 (cell h15 (bk b0)) fun n0 =>
 xI .u8 (cell h15 ((bk b0).add 1)) fun n1 =>
 xI .u8 (cell h15 ((bk b0).add 2)) fun n2 =>
 xI .u8 (cell h15 ((bk b0).add 3)) fun n3 =>
 xI .u8 (cell h15 ((bk b0).add 4)) fun n4 =>
 xI .u8 (cell h15 ((bk b0).add 5)) fun n5 =>
 xI .u8 (cell h15 ((bk b0).add 6)) fun n6 =>
 xI .u32 (cell h15 ((bk b0).add 7)) fun n7 =>
 xI .u8 (cell h15 ((bk b0).add 8)) fun n8 =>
 xI .u8 (cell h15 ((bk b0).add 9)) fun n9 =>
 xI .u8 (cell h15 ((bk b0).add 10)) fun n10 =>
 xI .u8 (cell h15 ((bk b0).add 11)) fun n11 =>
 xI .u8 (cell h15 ((bk b0).add 12)) fun n12 =>
 xI .u8 (cell h15 ((bk b0).add 13)) fun n13 =>
 xI .u32 (cell h15 ((bk b0).add 14)) fun n14 =>
 K n0 n1 n2 n3 n4 n5 n6 n7 n8 n9 n10 n11 n12 n13 n14 5 h15
 else
 nw h0 (.cells ⟨[.int .u8 0, .int .u8 0, .int .u8 0, .int .u8 0, .int .u8 0, .int .u8 0]⟩ 45) fun b1 h16 =>
 cpK Tryz.prog 5 ⟨sadr (some (bk b1)) 6 0 1, 6, 6⟩ (.slice x0.p x0.n x0.c) h16 fun n15 h17 =>
 idx 6 x0.n <|
 nn x0.p fun a0 =>
 xI .u8 (cell h17 (a0.add ((6 : Int).toNat * 1))) fun n16 =>
 idx 7 x0.n <|
 nn x0.p fun a1 =>
 xI .u8 (cell h17 (a1.add ((7 : Int).toNat * 1))) fun n17 =>
 alt (
 C81 x0 14 h17 fun n18 h18 =>
 both (Only (.int .i64 (IntKind.wrap .i64 n17)) h18 (.int .i64 (IntKind.wrap .i64 n17)) h18) <|
 both (xI .u8 (cell h18 (a1.add ((7 : Int).toNat * 1))) fun n19 => Only (.int .u8 n17) h18 (.int .u8 n19) h18) <|
 both (Only (.int .i64 (IntKind.wrap .i64 n16)) h18 (.int .i64 (IntKind.wrap .i64 n16)) h18) <|
 both (xI .u8 (cell h18 (a0.add ((6 : Int).toNat * 1))) fun n20 => Only (.int .u8 n16) h18 (.int .u8 n20) h18) <|
 alt (
 C81 x0 24 h18 fun n21 h19 =>
 both (Only (.int .i64 (IntKind.wrap .i64 n17)) h19 (.int .i64 (IntKind.wrap .i64 n17)) h19) <|
 both (xI .u8 (cell h19 (a1.add ((7 : Int).toNat * 1))) fun n22 => Only (.int .u8 n17) h19 (.int .u8 n22) h19) <|
 both (Only (.int .i64 (IntKind.wrap .i64 n16)) h19 (.int .i64 (IntKind.wrap .i64 n16)) h19) <|
 both (xI .u8 (cell h19 (a0.add ((6 : Int).toNat * 1))) fun n23 => Only (.int .u8 n16) h19 (.int .u8 n23) h19) <|
 nw h19 (.cells ⟨[.int .i64 0, .int .u8 0, .int .u8 0, .int .u8 0, .int .u8 0, .int .u8 0, .int .u8 0, .int .u32 0, .int .u8 0, .int .u8 0, .int .u8 0, .int .u8 0, .int .u8 0, .int .u8 0, .int .u32 0]⟩ 160) fun b2 h20 =>
 both (Only (.int .i64 (IntKind.wrap .i64 n17)) h20 (.int .i64 (IntKind.wrap .i64 n17)) h20) <|
 both (xI .u8 (cell h20 (a1.add ((7 : Int).toNat * 1))) fun n24 => Only (.int .u8 n17) h20 (.int .u8 n24) h20) <|
 both (Only (.int .i64 (IntKind.wrap .i64 n16)) h20 (.int .i64 (IntKind.wrap .i64 n16)) h20) <|
 both (xI .u8 (cell h20 (a0.add ((6 : Int).toNat * 1))) fun n25 => Only (.int .u8 n16) h20 (.int .u8 n25) h20) <|
 st h20 (bk b2) (.int .i64 (IntKind.wrap .i64 (BitVec.ofInt 64 (IntKind.wrap .i64 ((IntKind.wrap .i64 n16) * 2 ^ 8)) ||| BitVec.ofInt 64 (IntKind.wrap .i64 n17)).toNat)) fun h21 =>
 st h21 ((bk b2).add 1) (.int .u8 0) fun h22 =>
 st h22 ((bk b2).add 2) (.int .u8 0) fun h23 =>
 st h23 ((bk b2).add 3) (.int .u8 0) fun h24 =>
 st h24 ((bk b2).add 4) (.int .u8 0) fun h25 =>
 st h25 ((bk b2).add 5) (.int .u8 0) fun h26 =>
 st h26 ((bk b2).add 6) (.int .u8 0) fun h27 =>
 st h27 ((bk b2).add 7) (.int .u32 n18) fun h28 =>
 st h28 ((bk b2).add 8) (.int .u8 0) fun h29 =>
 st h29 ((bk b2).add 9) (.int .u8 0) fun h30 =>
 st h30 ((bk b2).add 10) (.int .u8 0) fun h31 =>
 st h31 ((bk b2).add 11) (.int .u8 0) fun h32 =>
 st h32 ((bk b2).add 12) (.int .u8 0) fun h33 =>
 st h33 ((bk b2).add 13) (.int .u8 0) fun h34 =>
 st h34 ((bk b2).add 14) (.int .u32 n21) fun h35 =>
 N67_j0 x0 (some (bk b0)) (some (bk b1)) (some (bk b2)) h35
 (fun n26 h36 =>
 xI .i64 (cell h36 (bk b0)) fun n27 =>
 xI .u8 (cell h36 ((bk b0).add 1)) fun n28 =>
 xI .u8 (cell h36 ((bk b0).add 2)) fun n29 =>
 xI .u8 (cell h36 ((bk b0).add 3)) fun n30 =>
 xI .u8 (cell h36 ((bk b0).add 4)) fun n31 =>
 xI .u8 (cell h36 ((bk b0).add 5)) fun n32 =>
 xI .u8 (cell h36 ((bk b0).add 6)) fun n33 =>
 xI .u32 (cell h36 ((bk b0).add 7)) fun n34 =>
 xI .u8 (cell h36 ((bk b0).add 8)) fun n35 =>
 xI .u8 (cell h36 ((bk b0).add 9)) fun n36 =>
 xI .u8 (cell h36 ((bk b0).add 10)) fun n37 =>
 xI .u8 (cell h36 ((bk b0).add 11)) fun n38 =>
 xI .u8 (cell h36 ((bk b0).add 12)) fun n39 =>
 xI .u8 (cell h36 ((bk b0).add 13)) fun n40 =>
 xI .u32 (cell h36 ((bk b0).add 14)) fun n41 =>
 K n27 n28 n29 n30 n31 n32 n33 n34 n35 n36 n37 n38 n39 n40 n41 n26 h36)) <|
 nw h18 (.cells ⟨[.int .i64 0, .int .u8 0, .int .u8 0, .int .u8 0, .int .u8 0, .int .u8 0, .int .u8 0, .int .u32 0, .int .u8 0, .int .u8 0, .int .u8 0, .int .u8 0, .int .u8 0, .int .u8 0, .int .u32 0]⟩ 160) fun b3 h37 =>
 both (Only (.int .i64 (IntKind.wrap .i64 n17)) h37 (.int .i64 (IntKind.wrap .i64 n17)) h37) <|
 both (xI .u8 (cell h37 (a1.add ((7 : Int).toNat * 1))) fun n42 => Only (.int .u8 n17) h37 (.int .u8 n42) h37) <|
 both (Only (.int .i64 (IntKind.wrap .i64 n16)) h37 (.int .i64 (IntKind.wrap .i64 n16)) h37) <|
 both (xI .u8 (cell h37 (a0.add ((6 : Int).toNat * 1))) fun n43 => Only (.int .u8 n16) h37 (.int .u8 n43) h37) <|
 C81 x0 24 h37 fun n44 h38 =>
 both (Only (.int .i64 (IntKind.wrap .i64 n17)) h38 (.int .i64 (IntKind.wrap .i64 n17)) h38) <|
 both (xI .u8 (cell h38 (a1.add ((7 : Int).toNat * 1))) fun n45 => Only (.int .u8 n17) h38 (.int .u8 n45) h38) <|
 both (Only (.int .i64 (IntKind.wrap .i64 n16)) h38 (.int .i64 (IntKind.wrap .i64 n16)) h38) <|
 both (xI .u8 (cell h38 (a0.add ((6 : Int).toNat * 1))) fun n46 => Only (.int .u8 n16) h38 (.int .u8 n46) h38) <|
 st h38 (bk b3) (.int .i64 (IntKind.wrap .i64 (BitVec.ofInt 64 (IntKind.wrap .i64 ((IntKind.wrap .i64 n16) * 2 ^ 8)) ||| BitVec.ofInt 64 (IntKind.wrap .i64 n17)).toNat)) fun h39 =>
 st h39 ((bk b3).add 1) (.int .u8 0) fun h40 =>
 st h40 ((bk b3).add 2) (.int .u8 0) fun h41 =>
 st h41 ((bk b3).add 3) (.int .u8 0) fun h42 =>
 st h42 ((bk b3).add 4) (.int .u8 0) fun h43 =>
 st h43 ((bk b3).add 5) (.int .u8 0) fun h44 =>
 st h44 ((bk b3).add 6) (.int .u8 0) fun h45 =>
 st h45 ((bk b3).add 7) (.int .u32 n18) fun h46 =>
 st h46 ((bk b3).add 8) (.int .u8 0) fun h47 =>
 st h47 ((bk b3).add 9) (.int .u8 0) fun h48 =>
 st h48 ((bk b3).add 10) (.int .u8 0) fun h49 =>
 st h49 ((bk b3).add 11) (.int .u8 0) fun h50 =>
 st h50 ((bk b3).add 12) (.int .u8 0) fun h51 =>
 st h51 ((bk b3).add 13) (.int .u8 0) fun h52 =>
 st h52 ((bk b3).add 14) (.int .u32 n44) fun h53 =>
 N67_j0 x0 (some (bk b0)) (some (bk b1)) (some (bk b3)) h53
 (fun n47 h54 =>
 xI .i64 (cell h54 (bk b0)) fun n48 =>
 xI .u8 (cell h54 ((bk b0).add 1)) fun n49 =>
 xI .u8 (cell h54 ((bk b0).add 2)) fun n50 =>
 xI .u8 (cell h54 ((bk b0).add 3)) fun n51 =>
 xI .u8 (cell h54 ((bk b0).add 4)) fun n52 =>
 xI .u8 (cell h54 ((bk b0).add 5)) fun n53 =>
 xI .u8 (cell h54 ((bk b0).add 6)) fun n54 =>
 xI .u32 (cell h54 ((bk b0).add 7)) fun n55 =>
 xI .u8 (cell h54 ((bk b0).add 8)) fun n56 =>
 xI .u8 (cell h54 ((bk b0).add 9)) fun n57 =>
 xI .u8 (cell h54 ((bk b0).add 10)) fun n58 =>
 xI .u8 (cell h54 ((bk b0).add 11)) fun n59 =>
 xI .u8 (cell h54 ((bk b0).add 12)) fun n60 =>
 xI .u8 (cell h54 ((bk b0).add 13)) fun n61 =>
 xI .u32 (cell h54 ((bk b0).add 14)) fun n62 =>
 K n48 n49 n50 n51 n52 n53 n54 n55 n56 n57 n58 n59 n60 n61 n62 n47 h54)) <|
 nw h17 (.cells ⟨[.int .i64 0, .int .u8 0, .int .u8 0, .int .u8 0, .int .u8 0, .int .u8 0, .int .u8 0, .int .u32 0, .int .u8 0, .int .u8 0, .int .u8 0, .int .u8 0, .int .u8 0, .int .u8 0, .int .u32 0]⟩ 160) fun b4 h55 =>
 both (Only (.int .i64 (IntKind.wrap .i64 n17)) h55 (.int .i64 (IntKind.wrap .i64 n17)) h55) <|
 both (xI .u8 (cell h55 (a1.add ((7 : Int).toNat * 1))) fun n63 => Only (.int .u8 n17) h55 (.int .u8 n63) h55) <|
 both (Only (.int .i64 (IntKind.wrap .i64 n16)) h55 (.int .i64 (IntKind.wrap .i64 n16)) h55) <|
 both (xI .u8 (cell h55 (a0.add ((6 : Int).toNat * 1))) fun n64 => Only (.int .u8 n16) h55 (.int .u8 n64) h55) <|
 C81 x0 14 h55 fun n65 h56 =>
 both (Only (.int .i64 (IntKind.wrap .i64 n17)) h56 (.int .i64 (IntKind.wrap .i64 n17)) h56) <|
 both (xI .u8 (cell h56 (a1.add ((7 : Int).toNat * 1))) fun n66 => Only (.int .u8 n17) h56 (.int .u8 n66) h56) <|
 both (Only (.int .i64 (IntKind.wrap .i64 n16)) h56 (.int .i64 (IntKind.wrap .i64 n16)) h56) <|
 both (xI .u8 (cell h56 (a0.add ((6 : Int).toNat * 1))) fun n67 => Only (.int .u8 n16) h56 (.int .u8 n67) h56) <|
 C81 x0 24 h56 fun n68 h57 =>
 both (Only (.int .i64 (IntKind.wrap .i64 n17)) h57 (.int .i64 (IntKind.wrap .i64 n17)) h57) <|
 both (xI .u8 (cell h57 (a1.add ((7 : Int).toNat * 1))) fun n69 => Only (.int .u8 n17) h57 (.int .u8 n69) h57) <|
 both (Only (.int .i64 (IntKind.wrap .i64 n16)) h57 (.int .i64 (IntKind.wrap .i64 n16)) h57) <|
 both (xI .u8 (cell h57 (a0.add ((6 : Int).toNat * 1))) fun n70 => Only (.int .u8 n16) h57 (.int .u8 n70) h57) <|
 st h57 (bk b4) (.int .i64 (IntKind.wrap .i64 (BitVec.ofInt 64 (IntKind.wrap .i64 ((IntKind.wrap .i64 n16) * 2 ^ 8)) ||| BitVec.ofInt 64 (IntKind.wrap .i64 n17)).toNat)) fun h58 =>
 st h58 ((bk b4).add 1) (.int .u8 0) fun h59 =>
 st h59 ((bk b4).add 2) (.int .u8 0) fun h60 =>
 st h60 ((bk b4).add 3) (.int .u8 0) fun h61 =>
 st h61 ((bk b4).add 4) (.int .u8 0) fun h62 =>
 st h62 ((bk b4).add 5) (.int .u8 0) fun h63 =>
 st h63 ((bk b4).add 6) (.int .u8 0) fun h64 =>
 st h64 ((bk b4).add 7) (.int .u32 n65) fun h65 =>
 st h65 ((bk b4).add 8) (.int .u8 0) fun h66 =>
 st h66 ((bk b4).add 9) (.int .u8 0) fun h67 =>
 st h67 ((bk b4).add 10) (.int .u8 0) fun h68 =>
 st h68 ((bk b4).add 11) (.int .u8 0) fun h69 =>
 st h69 ((bk b4).add 12) (.int .u8 0) fun h70 =>
 st h70 ((bk b4).add 13) (.int .u8 0) fun h71 =>
 st h71 ((bk b4).add 14) (.int .u32 n68) fun h72 =>
 N67_j0 x0 (some (bk b0)) (some (bk b1)) (some (bk b4)) h72
 (fun n71 h73 =>
 xI .i64 (cell h73 (bk b0)) fun n72 =>
 xI .u8 (cell h73 ((bk b0).add 1)) fun n73 =>
 xI .u8 (cell h73 ((bk b0).add 2)) fun n74 =>
 xI .u8 (cell h73 ((bk b0).add 3)) fun n75 =>
 xI .u8 (cell h73 ((bk b0).add 4)) fun n76 =>
 xI .u8 (cell h73 ((bk b0).add 5)) fun n77 =>
 xI .u8 (cell h73 ((bk b0).add 6)) fun n78 =>
 xI .u32 (cell h73 ((bk b0).add 7)) fun n79 =>
 xI .u8 (cell h73 ((bk b0).add 8)) fun n80 =>
 xI .u8 (cell h73 ((bk b0).add 9)) fun n81 =>
 xI .u8 (cell h73 ((bk b0).add 10)) fun n82 =>
 xI .u8 (cell h73 ((bk b0).add 11)) fun n83 =>
 xI .u8 (cell h73 ((bk b0).add 12)) fun n84 =>
 xI .u8 (cell h73 ((bk b0).add 13)) fun n85 =>
 xI .u32 (cell h73 ((bk b0).add 14)) fun n86 =>
 K n72 n73 n74 n75 n76 n77 n78 n79 n80 n81 n82 n83 n84 n85 n86 n71 h73)
theorem S67 {x0 : Sl} {h : Hp} {K : Int → Int → Int → Int → Int → Int → Int → Int → Int → Int → Int → Int → Int → Int → Int → Int → Hp → Prop} (hn : N67 x0 h K) : C67 x0 h K := by
 refine calls_of_M Tryz.func67 (c := B67) rfl (by kernel_rfl) ?_
 refine den_sound hE hm _ (.two .leaf (.two .leaf (.two .leaf (.two .leaf (.two N67_r0_t (.xf N67_j0_t)))))) _ _ _ (⟨annOk_leaf, ⟨annOk_leaf, ⟨annOk_leaf, ⟨annOk_leaf, ⟨N67_r0_ok, N67_j0_ok⟩⟩⟩⟩⟩) ?_
 refine cast ?_ hn
 kernel_rfl
end Go.Proofs.YtbbnpmikjdgdpaaGreat

set_option linter.unusedVariables false
set_option maxRecDepth 100000
namespace Go.Proofs.YtbbnpmikjdgdpaaGreat
open Go Go.Hw
noncomputable def B81 : Code := match Tryz.f81.body with | some c => c | none => .skip
def N81 (x0 : Sl) (x1 : Int) (h : Hp) (K : Int → Hp → Prop) : Prop :=
 C79 x0 x1 4 h fun n0 n1 h0 =>
 K (IntKind.wrap .u32 n0) h0
theorem S81 {x0 : Sl} {x1 : Int} {h : Hp} {K : Int → Hp → Prop} (hn : N81 x0 x1 h K) : C81 x0 x1 h K := by
 refine calls_of_D Tryz.func81 (c := B81) rfl (by kernel_rfl) ?_
 refine den_sound hE hm _ .leaf _ _ _ (annOk_leaf) ?_
 refine cast ?_ hn
 kernel_rfl
end Go.Proofs.YtbbnpmikjdgdpaaGreat

set_option linter.unusedVariables false
set_option maxRecDepth 100000
namespace Go.Proofs.YtbbnpmikjdgdpaaGreat
open Go Go.Hw
noncomputable def B140 : Code := match Tryz.f140.body with | some c => c | none => .skip
def N140 (x0_0 x0_1 x0_2 x0_3 x0_4 x0_5 x1 x2_0 x2_1 x2_2 x2_3 x2_4 x2_5 x2_6 x2_7 x2_8 x2_9 x2_10 x2_11 x2_12 x2_13 x2_14 : Int) (h : Hp) (K : Bool → Hp → Prop) : Prop :=
 nw h (.cells ⟨[.int .u8 x0_0, .int .u8 x0_1, .int .u8 x0_2, .int .u8 x0_3, .int .u8 x0_4, .int .u8 x0_5]⟩ 46) fun b0 h0 =>
 nw h0 (.cells ⟨[.int .i64 x2_0, .int .u8 x2_1, .int .u8 x2_2, .int .u8 x2_3, .int .u8 x2_4, .int .u8 x2_5, .int .u8 x2_6, .int .u32 x2_7, .int .u8 x2_8, .int .u8 x2_9, .int .u8 x2_10, .int .u8 x2_11, .int .u8 x2_12, .int .u8 x2_13, .int .u32 x2_14]⟩ 160) fun b1 h1 =>
 xI .u8 (cell h1 ((bk b1).add 1)) fun n0 =>
 xI .u8 (cell h1 ((bk b1).add 2)) fun n1 =>
 xI .u8 (cell h1 ((bk b1).add 3)) fun n2 =>
 xI .u8 (cell h1 ((bk b1).add 4)) fun n3 =>
 xI .u8 (cell h1 ((bk b1).add 5)) fun n4 =>
 xI .u8 (cell h1 ((bk b1).add 6)) fun n5 =>
 xI .u8 (cell h1 (bk b0)) fun n6 =>
 xI .u8 (cell h1 ((bk b0).add 1)) fun n7 =>
 xI .u8 (cell h1 ((bk b0).add 2)) fun n8 =>
 xI .u8 (cell h1 ((bk b0).add 3)) fun n9 =>
 xI .u8 (cell h1 ((bk b0).add 4)) fun n10 =>
 xI .u8 (cell h1 ((bk b0).add 5)) fun n11 =>
 bif ((n0 == n6) && ((n1 == n7) && ((n2 == n8) && ((n3 == n9) && ((n4 == n10) && ((n5 == n11) && true)))))) then
 K false h1
 else
 xI .u32 (cell h1 ((bk b1).add 7)) fun n12 =>
 bif (n12 == x1) then
 K true h1
 else
 xI .i64 (cell h1 (bk b1)) fun n13 =>
 bif (n13 == 1) then
 xI .u32 (cell h1 ((bk b1).add 7)) fun n14 =>
 bif (n14 == 0) then
 xI .u32 (cell h1 ((bk b1).add 14)) fun n15 =>
 K (n15 == x1) h1
 else
 K false h1
 else
 K false h1
theorem S140 {x0_0 x0_1 x0_2 x0_3 x0_4 x0_5 x1 x2_0 x2_1 x2_2 x2_3 x2_4 x2_5 x2_6 x2_7 x2_8 x2_9 x2_10 x2_11 x2_12 x2_13 x2_14 : Int} {h : Hp} {K : Bool → Hp → Prop} (hn : N140 x0_0 x0_1 x0_2 x0_3 x0_4 x0_5 x1 x2_0 x2_1 x2_2 x2_3 x2_4 x2_5 x2_6 x2_7 x2_8 x2_9 x2_10 x2_11 x2_12 x2_13 x2_14 h K) : C140 x0_0 x0_1 x0_2 x0_3 x0_4 x0_5 x1 x2_0 x2_1 x2_2 x2_3 x2_4 x2_5 x2_6 x2_7 x2_8 x2_9 x2_10 x2_11 x2_12 x2_13 x2_14 h K := by
 refine calls_of_D Tryz.func140 (c := B140) rfl (by kernel_rfl) ?_
 refine den_sound hE hm _ .leaf _ _ _ (annOk_leaf) ?_
 refine cast ?_ hn
 kernel_rfl
end Go.Proofs.YtbbnpmikjdgdpaaGreat

/-
 Messages of the address protocol: read again.
-/
set_option linter.unusedSimpArgs false
set_option linter.unusedVariables false
set_option maxRecDepth 40000
namespace Go.Proofs.YtbbnpmikjdgdpaaGreat
open Go Go.Hw
theorem c_aaddr {x : Sl} {l : List UInt8} {a : Int} {h : Hp} {K : Int → Hp → Prop} (hr : RdB h x l) (hl : l.length ≤ 140737488355328) (hK : K ((getV l a 4 : Nat) : Int) h) : C81 x a h K := by
 apply S81; unfold N81
 refine c_get hr hl ?_
 have := getV_lt l a 4 (by decide)
 have e : IntKind.wrap .u32 ((getV l a 4 : Nat) : Int) = getV l a 4 := by show ((getV l a 4 : Nat) : Int) % 4294967296 = _; omega
 rw [e]; exact hK
def opOf (l : List UInt8) : Int := bAt l 6 * 256 + bAt l 7
def arpDE (l : List UInt8) : Int := if l.length < 28 then 5 else if macOf l 0 = ⟨0, 1, 8, 0, 6, 4⟩ ∧ (opOf l = 1 ∨ opOf l = 2) then 0 else 80
theorem or8 {a b : Int} (ha : 0 ≤ a ∧ a < 256) (hb : 0 ≤ b ∧ b < 256) : IntKind.wrap .i64 (BitVec.ofInt 64 (IntKind.wrap .i64 (a * 2 ^ 8)) ||| BitVec.ofInt 64 (IntKind.wrap .i64 b)).toNat = a * 256 + b := by
 obtain ⟨m, rfl⟩ := Int.eq_ofNat_of_zero_le ha.1
 obtain ⟨n, rfl⟩ := Int.eq_ofNat_of_zero_le hb.1
 have := get_step (m := m) (b := UInt8.ofNat n) (by omega)
 have e1 : (((UInt8.ofNat n).toNat : Nat) : Int) = n := by rw [UInt8.toNat_ofNat']; omega
 rw [e1] at this
 have e0 : (UInt8.ofNat n).toNat = n := by omega
 rw [e0] at this
 have w1 : IntKind.wrap .i64 ((m : Int) * 2 ^ 8) = IntKind.wrap .u64 ((m : Int) * 2 ^ 8) := by rw [wi64i (by omega) (by omega), wu64i (by omega) (by omega)]
 have w2 : IntKind.wrap .i64 (n : Int) = IntKind.wrap .u64 (n : Int) := by rw [wi64i (by omega) (by omega), wu64i (by omega) (by omega)]
 rw [w1, w2]
 generalize (BitVec.ofInt 64 (IntKind.wrap .u64 ((m : Int) * 2 ^ 8)) ||| BitVec.ofInt 64 (IntKind.wrap .u64 (n : Int))) = v at this
 have hv := v.isLt
 rw [wu64i (by omega) (by omega)] at this
 rw [wi64i (by omega) (by omega), this]
 omega
theorem c_adec {l : List UInt8} {x : Sl} {h : Hp} {K : Int → Int → Int → Int → Int → Int → Int → Int → Int → Int → Int → Int → Int → Int → Int → Int → Hp → Prop} (hr : RdB h x l) (hl : l.length ≤ 1099511627776)
  (hbad : arpDE l ≠ 0 → ∀ h', Ext none' h h' → K 0 0 0 0 0 0 0 0 0 0 0 0 0 0 0 (arpDE l) h')
  (hok : arpDE l = 0 → ∀ h', Ext none' h h' → K (opOf l) (macOf l 8).a (macOf l 8).b (macOf l 8).c (macOf l 8).d (macOf l 8).e (macOf l 8).f (getV l 14 4) (macOf l 18).a (macOf l 18).b (macOf l 18).c (macOf l 18).d (macOf l 18).e (macOf l 18).f (getV l 24 4) 0 h') : C67 x h K := by
 apply S67; unfold N67
 have xn := hr.n
 have xc := hr.c
 have hs0 : Sat ([] ++ [Hw.was h]) h := Sat.start
 refine hs0.nw ?_
 intro z h1 g0 _
 have g : Sat ([] ++ [Hw.was h, row z 160 (arpC 0 mac0 0 mac0 0)]) h1 := g0
 clear g0
 have was_ : ∀ {M : List Asn} {h' : Hp}, Sat ([] ++ (Hw.was h :: M)) h' → Ext none' h h' := fun g => g.was 0 rfl
 by_cases k1 : l.length < 28
 ·rw [show decide (((x.n : Nat) : Int) < 28) = true from decide_eq_true (by omega), cond_true]
  have he : arpDE l = 5 := by unfold arpDE; rw [if_pos k1]
  rw [he] at hbad
  have hs := g
  unfold arpC at hs
  simp only [add_bk]
  refine Sat.st hs 1 (k := 0) rfl (by simp) rfl fun h7 hs => ?_
  simp only [List.set_cons_zero, List.set_cons_succ] at hs
  refine Sat.st hs 1 rfl (by simp) rfl fun h7 hs => ?_
  simp only [List.set_cons_zero, List.set_cons_succ] at hs
  refine Sat.st hs 1 rfl (by simp) rfl fun h7 hs => ?_
  simp only [List.set_cons_zero, List.set_cons_succ] at hs
  refine Sat.st hs 1 rfl (by simp) rfl fun h7 hs => ?_
  simp only [List.set_cons_zero, List.set_cons_succ] at hs
  refine Sat.st hs 1 rfl (by simp) rfl fun h7 hs => ?_
  simp only [List.set_cons_zero, List.set_cons_succ] at hs
  refine Sat.st hs 1 rfl (by simp) rfl fun h7 hs => ?_
  simp only [List.set_cons_zero, List.set_cons_succ] at hs
  refine Sat.st hs 1 rfl (by simp) rfl fun h7 hs => ?_
  simp only [List.set_cons_zero, List.set_cons_succ] at hs
  refine Sat.st hs 1 rfl (by simp) rfl fun h7 hs => ?_
  simp only [List.set_cons_zero, List.set_cons_succ] at hs
  refine Sat.st hs 1 rfl (by simp) rfl fun h7 hs => ?_
  simp only [List.set_cons_zero, List.set_cons_succ] at hs
  refine Sat.st hs 1 rfl (by simp) rfl fun h7 hs => ?_
  simp only [List.set_cons_zero, List.set_cons_succ] at hs
  refine Sat.st hs 1 rfl (by simp) rfl fun h7 hs => ?_
  simp only [List.set_cons_zero, List.set_cons_succ] at hs
  refine Sat.st hs 1 rfl (by simp) rfl fun h7 hs => ?_
  simp only [List.set_cons_zero, List.set_cons_succ] at hs
  refine Sat.st hs 1 rfl (by simp) rfl fun h7 hs => ?_
  simp only [List.set_cons_zero, List.set_cons_succ] at hs
  refine Sat.st hs 1 rfl (by simp) rfl fun h7 hs => ?_
  simp only [List.set_cons_zero, List.set_cons_succ] at hs
  refine Sat.st hs 1 rfl (by simp) rfl fun h7 hs => ?_
  simp only [List.set_cons_zero, List.set_cons_succ] at hs
  refine Sat.lI hs 1 (k := 0) rfl rfl ?_
  refine Sat.lI hs 1 rfl rfl ?_
  refine Sat.lI hs 1 rfl rfl ?_
  refine Sat.lI hs 1 rfl rfl ?_
  refine Sat.lI hs 1 rfl rfl ?_
  refine Sat.lI hs 1 rfl rfl ?_
  refine Sat.lI hs 1 rfl rfl ?_
  refine Sat.lI hs 1 rfl rfl ?_
  refine Sat.lI hs 1 rfl rfl ?_
  refine Sat.lI hs 1 rfl rfl ?_
  refine Sat.lI hs 1 rfl rfl ?_
  refine Sat.lI hs 1 rfl rfl ?_
  refine Sat.lI hs 1 rfl rfl ?_
  refine Sat.lI hs 1 rfl rfl ?_
  refine Sat.lI hs 1 rfl rfl ?_
  exact hbad (by decide) _ (was_ hs)
 ·rw [show decide (((x.n : Nat) : Int) < 28) = false from decide_eq_false (by omega), cond_false]
  obtain ⟨p, n, c⟩ := x
  obtain ⟨a, hpa, _⟩ := hr.get (i := 0) (by omega)
  have hpa : p = some a := hpa
  subst hpa
  simp only at xn xc
  have rd : ∀ {h' : Hp} {M : List Asn}, Sat ([] ++ (Hw.was h :: M)) h' → RdB h' ⟨some a, n, c⟩ l := fun g => hr.ext (was_ g)
  have at_ : ∀ {h' : Hp} {M : List Asn} (i : Nat), i < l.length → Sat ([] ++ (Hw.was h :: M)) h' → cell h' (a.add i) = some (.int .u8 (bAt l i)) := by
   intro h' M i hi g
   obtain ⟨a', e1, e2⟩ := (rd g).get hi
   cases e1
   rw [e2]
   unfold bAt
   rw [List.getD_eq_getElem?_getD, List.getElem?_eq_getElem hi]; rfl
  have b255 : ∀ i, 0 ≤ bAt l i ∧ bAt l i < 256 := fun i => u8r _
  -- an error
  have err : ∀ {v w : Nat} {h' : Hp} {Kn : Hp → Prop}, arpDE l = 80 → Sat ([] ++ [Hw.was h, row z 160 (arpC 0 mac0 0 mac0 0), row w 45 (macC (macOf l 0)), row v 160 (arpC (opOf l) mac0 (getV l 14 4) mac0 (getV l 24 4))]) h' →
    N67_j1 ⟨some a, n, c⟩ (some (bk z)) (some (bk v)) true h' Kn (fun n h7 => xI .i64 (cell h7 (bk z)) fun m0 => xI .u8 (cell h7 ⟨z, 1, none⟩) fun m1 => xI .u8 (cell h7 ⟨z, 2, none⟩) fun m2 => xI .u8 (cell h7 ⟨z, 3, none⟩) fun m3 => xI .u8 (cell h7 ⟨z, 4, none⟩) fun m4 => xI .u8 (cell h7 ⟨z, 5, none⟩) fun m5 => xI .u8 (cell h7 ⟨z, 6, none⟩) fun m6 => xI .u32 (cell h7 ⟨z, 7, none⟩) fun m7 => xI .u8 (cell h7 ⟨z, 8, none⟩) fun m8 => xI .u8 (cell h7 ⟨z, 9, none⟩) fun m9 => xI .u8 (cell h7 ⟨z, 10, none⟩) fun m10 => xI .u8 (cell h7 ⟨z, 11, none⟩) fun m11 => xI .u8 (cell h7 ⟨z, 12, none⟩) fun m12 => xI .u8 (cell h7 ⟨z, 13, none⟩) fun m13 => xI .u32 (cell h7 ⟨z, 14, none⟩) fun m14 => K m0 m1 m2 m3 m4 m5 m6 m7 m8 m9 m10 m11 m12 m13 m14 n h7) := by
   intro v w h' Kn he hs
   rw [he] at hbad
   unfold N67_j1
   rw [cond_true]
   simp only [nn_some', add_bk]
   unfold arpC at hs
   refine Sat.st hs 1 (k := 0) rfl (by simp) rfl fun h7 hs => ?_
   simp only [List.set_cons_zero, List.set_cons_succ] at hs
   refine Sat.st hs 1 rfl (by simp) rfl fun h7 hs => ?_
   simp only [List.set_cons_zero, List.set_cons_succ] at hs
   refine Sat.st hs 1 rfl (by simp) rfl fun h7 hs => ?_
   simp only [List.set_cons_zero, List.set_cons_succ] at hs
   refine Sat.st hs 1 rfl (by simp) rfl fun h7 hs => ?_
   simp only [List.set_cons_zero, List.set_cons_succ] at hs
   refine Sat.st hs 1 rfl (by simp) rfl fun h7 hs => ?_
   simp only [List.set_cons_zero, List.set_cons_succ] at hs
   refine Sat.st hs 1 rfl (by simp) rfl fun h7 hs => ?_
   simp only [List.set_cons_zero, List.set_cons_succ] at hs
   refine Sat.st hs 1 rfl (by simp) rfl fun h7 hs => ?_
   simp only [List.set_cons_zero, List.set_cons_succ] at hs
   refine Sat.st hs 1 rfl (by simp) rfl fun h7 hs => ?_
   simp only [List.set_cons_zero, List.set_cons_succ] at hs
   refine Sat.st hs 1 rfl (by simp) rfl fun h7 hs => ?_
   simp only [List.set_cons_zero, List.set_cons_succ] at hs
   refine Sat.st hs 1 rfl (by simp) rfl fun h7 hs => ?_
   simp only [List.set_cons_zero, List.set_cons_succ] at hs
   refine Sat.st hs 1 rfl (by simp) rfl fun h7 hs => ?_
   simp only [List.set_cons_zero, List.set_cons_succ] at hs
   refine Sat.st hs 1 rfl (by simp) rfl fun h7 hs => ?_
   simp only [List.set_cons_zero, List.set_cons_succ] at hs
   refine Sat.st hs 1 rfl (by simp) rfl fun h7 hs => ?_
   simp only [List.set_cons_zero, List.set_cons_succ] at hs
   refine Sat.st hs 1 rfl (by simp) rfl fun h7 hs => ?_
   simp only [List.set_cons_zero, List.set_cons_succ] at hs
   refine Sat.st hs 1 rfl (by simp) rfl fun h7 hs => ?_
   simp only [List.set_cons_zero, List.set_cons_succ] at hs
   refine Sat.lI hs 1 (k := 0) rfl rfl ?_
   refine Sat.lI hs 1 rfl rfl ?_
   refine Sat.lI hs 1 rfl rfl ?_
   refine Sat.lI hs 1 rfl rfl ?_
   refine Sat.lI hs 1 rfl rfl ?_
   refine Sat.lI hs 1 rfl rfl ?_
   refine Sat.lI hs 1 rfl rfl ?_
   refine Sat.lI hs 1 rfl rfl ?_
   refine Sat.lI hs 1 rfl rfl ?_
   refine Sat.lI hs 1 rfl rfl ?_
   refine Sat.lI hs 1 rfl rfl ?_
   refine Sat.lI hs 1 rfl rfl ?_
   refine Sat.lI hs 1 rfl rfl ?_
   refine Sat.lI hs 1 rfl rfl ?_
   refine Sat.lI hs 1 rfl rfl ?_
   exact hbad (by decide) _ (was_ hs)
  -- all is well
  have good : ∀ {v w : Nat} {h' : Hp}, arpDE l = 0 → Sat ([] ++ [Hw.was h, row z 160 (arpC 0 mac0 0 mac0 0), row w 45 (macC (macOf l 0)), row v 160 (arpC (opOf l) mac0 (getV l 14 4) mac0 (getV l 24 4))]) h' → N67_j2 ⟨some a, n, c⟩ (some (bk z)) (some (bk v)) h' (fun n h7 => xI .i64 (cell h7 (bk z)) fun m0 => xI .u8 (cell h7 ⟨z, 1, none⟩) fun m1 => xI .u8 (cell h7 ⟨z, 2, none⟩) fun m2 => xI .u8 (cell h7 ⟨z, 3, none⟩) fun m3 => xI .u8 (cell h7 ⟨z, 4, none⟩) fun m4 => xI .u8 (cell h7 ⟨z, 5, none⟩) fun m5 => xI .u8 (cell h7 ⟨z, 6, none⟩) fun m6 => xI .u32 (cell h7 ⟨z, 7, none⟩) fun m7 => xI .u8 (cell h7 ⟨z, 8, none⟩) fun m8 => xI .u8 (cell h7 ⟨z, 9, none⟩) fun m9 => xI .u8 (cell h7 ⟨z, 10, none⟩) fun m10 => xI .u8 (cell h7 ⟨z, 11, none⟩) fun m11 => xI .u8 (cell h7 ⟨z, 12, none⟩) fun m12 => xI .u8 (cell h7 ⟨z, 13, none⟩) fun m13 => xI .u32 (cell h7 ⟨z, 14, none⟩) fun m14 => K m0 m1 m2 m3 m4 m5 m6 m7 m8 m9 m10 m11 m12 m13 m14 n h7) := by
   intro v w h' he g
   unfold N67_j2
   simp only [nn_some', add_bk]
   refine bd_nat (i := 8) (by omega) ?_
   simp only [sadr_zero]
   have m1 : RdB h' ⟨sadr (some a) c 8 1, n - 8, c - 8⟩ (l.drop 8) := by
    have := (rd g).sub (lo := 8) (hi := n) (by omega) (by omega)
    rw [List.take_of_length_le (by rw [List.length_drop]; omega)] at this
    exact this
   have mn : Nat.min (n - 8) 6 = 6 := Nat.min_eq_right (by omega)
   refine g.cpRow (T2 := 160) (ns := bc ((l.drop 8).take 6)) (ln := n - 8) 3 rfl y_a (fun _ => rfl) (fun G hG => by rw [mn]; exact m1.srcK (n := 6) (by rw [List.length_drop]; omega) hG) (by rw [mn, bc_len, List.length_take, List.length_drop]; omega) (by rw [bc_len, List.length_take, List.length_drop]; simp [arpC]; omega) bc_plain ?_
   intro h2 g2
   rw [bc6 (l := l) (k := 8) (by omega)] at g2
   have g2 : Sat ([] ++ [Hw.was h, row z 160 (arpC 0 mac0 0 mac0 0), row w 45 (macC (macOf l 0)), row v 160 (arpC (opOf l) (macOf l 8) (getV l 14 4) mac0 (getV l 24 4))]) h2 := g2
   refine bd_nat (i := 18) (by omega) ?_
   have m2 : RdB h2 ⟨sadr (some a) c 18 1, n - 18, c - 18⟩ (l.drop 18) := by
    have := (rd g2).sub (lo := 18) (hi := n) (by omega) (by omega)
    rw [List.take_of_length_le (by rw [List.length_drop]; omega)] at this
    exact this
   have mn2 : Nat.min (n - 18) 6 = 6 := Nat.min_eq_right (by omega)
   refine g2.cpRow (T2 := 160) (ns := bc ((l.drop 18).take 6)) (ln := n - 18) 3 rfl y_a (fun _ => rfl) (fun G hG => by rw [mn2]; exact m2.srcK (n := 6) (by rw [List.length_drop]; omega) hG) (by rw [mn2, bc_len, List.length_take, List.length_drop]; omega) (by rw [bc_len, List.length_take, List.length_drop]; simp [arpC]; omega) bc_plain ?_
   intro h3 g3
   rw [bc6 (l := l) (k := 18) (by omega)] at g3
   have hs : Sat ([] ++ [Hw.was h, row z 160 (arpC 0 mac0 0 mac0 0), row w 45 (macC (macOf l 0)), row v 160 (arpC (opOf l) (macOf l 8) (getV l 14 4) (macOf l 18) (getV l 24 4))]) h3 := g3
   unfold arpC at hs
   refine Sat.lI hs 3 (k := 0) rfl rfl ?_
   refine Sat.lI hs 3 rfl rfl ?_
   refine Sat.lI hs 3 rfl rfl ?_
   refine Sat.lI hs 3 rfl rfl ?_
   refine Sat.lI hs 3 rfl rfl ?_
   refine Sat.lI hs 3 rfl rfl ?_
   refine Sat.lI hs 3 rfl rfl ?_
   refine Sat.lI hs 3 rfl rfl ?_
   refine Sat.lI hs 3 rfl rfl ?_
   refine Sat.lI hs 3 rfl rfl ?_
   refine Sat.lI hs 3 rfl rfl ?_
   refine Sat.lI hs 3 rfl rfl ?_
   refine Sat.lI hs 3 rfl rfl ?_
   refine Sat.lI hs 3 rfl rfl ?_
   refine Sat.lI hs 3 rfl rfl ?_
   refine Sat.st hs 1 (k := 0) rfl (by simp) rfl fun h7 hs => ?_
   simp only [List.set_cons_zero, List.set_cons_succ] at hs
   refine Sat.st hs 1 rfl (by simp) rfl fun h7 hs => ?_
   simp only [List.set_cons_zero, List.set_cons_succ] at hs
   refine Sat.st hs 1 rfl (by simp) rfl fun h7 hs => ?_
   simp only [List.set_cons_zero, List.set_cons_succ] at hs
   refine Sat.st hs 1 rfl (by simp) rfl fun h7 hs => ?_
   simp only [List.set_cons_zero, List.set_cons_succ] at hs
   refine Sat.st hs 1 rfl (by simp) rfl fun h7 hs => ?_
   simp only [List.set_cons_zero, List.set_cons_succ] at hs
   refine Sat.st hs 1 rfl (by simp) rfl fun h7 hs => ?_
   simp only [List.set_cons_zero, List.set_cons_succ] at hs
   refine Sat.st hs 1 rfl (by simp) rfl fun h7 hs => ?_
   simp only [List.set_cons_zero, List.set_cons_succ] at hs
   refine Sat.st hs 1 rfl (by simp) rfl fun h7 hs => ?_
   simp only [List.set_cons_zero, List.set_cons_succ] at hs
   refine Sat.st hs 1 rfl (by simp) rfl fun h7 hs => ?_
   simp only [List.set_cons_zero, List.set_cons_succ] at hs
   refine Sat.st hs 1 rfl (by simp) rfl fun h7 hs => ?_
   simp only [List.set_cons_zero, List.set_cons_succ] at hs
   refine Sat.st hs 1 rfl (by simp) rfl fun h7 hs => ?_
   simp only [List.set_cons_zero, List.set_cons_succ] at hs
   refine Sat.st hs 1 rfl (by simp) rfl fun h7 hs => ?_
   simp only [List.set_cons_zero, List.set_cons_succ] at hs
   refine Sat.st hs 1 rfl (by simp) rfl fun h7 hs => ?_
   simp only [List.set_cons_zero, List.set_cons_succ] at hs
   refine Sat.st hs 1 rfl (by simp) rfl fun h7 hs => ?_
   simp only [List.set_cons_zero, List.set_cons_succ] at hs
   refine Sat.st hs 1 rfl (by simp) rfl fun h7 hs => ?_
   simp only [List.set_cons_zero, List.set_cons_succ] at hs
   refine Sat.lI hs 1 (k := 0) rfl rfl ?_
   refine Sat.lI hs 1 rfl rfl ?_
   refine Sat.lI hs 1 rfl rfl ?_
   refine Sat.lI hs 1 rfl rfl ?_
   refine Sat.lI hs 1 rfl rfl ?_
   refine Sat.lI hs 1 rfl rfl ?_
   refine Sat.lI hs 1 rfl rfl ?_
   refine Sat.lI hs 1 rfl rfl ?_
   refine Sat.lI hs 1 rfl rfl ?_
   refine Sat.lI hs 1 rfl rfl ?_
   refine Sat.lI hs 1 rfl rfl ?_
   refine Sat.lI hs 1 rfl rfl ?_
   refine Sat.lI hs 1 rfl rfl ?_
   refine Sat.lI hs 1 rfl rfl ?_
   refine Sat.lI hs 1 rfl rfl ?_
   exact hok he _ (was_ hs)
  have j0 : ∀ {v w : Nat} {h' : Hp}, Sat ([] ++ [Hw.was h, row z 160 (arpC 0 mac0 0 mac0 0), row w 45 (macC (macOf l 0)), row v 160 (arpC (opOf l) mac0 (getV l 14 4) mac0 (getV l 24 4))]) h' → N67_j0 ⟨some a, n, c⟩ (some (bk z)) (some (bk w)) (some (bk v)) h' (fun n h7 => xI .i64 (cell h7 (bk z)) fun m0 => xI .u8 (cell h7 ⟨z, 1, none⟩) fun m1 => xI .u8 (cell h7 ⟨z, 2, none⟩) fun m2 => xI .u8 (cell h7 ⟨z, 3, none⟩) fun m3 => xI .u8 (cell h7 ⟨z, 4, none⟩) fun m4 => xI .u8 (cell h7 ⟨z, 5, none⟩) fun m5 => xI .u8 (cell h7 ⟨z, 6, none⟩) fun m6 => xI .u32 (cell h7 ⟨z, 7, none⟩) fun m7 => xI .u8 (cell h7 ⟨z, 8, none⟩) fun m8 => xI .u8 (cell h7 ⟨z, 9, none⟩) fun m9 => xI .u8 (cell h7 ⟨z, 10, none⟩) fun m10 => xI .u8 (cell h7 ⟨z, 11, none⟩) fun m11 => xI .u8 (cell h7 ⟨z, 12, none⟩) fun m12 => xI .u8 (cell h7 ⟨z, 13, none⟩) fun m13 => xI .u32 (cell h7 ⟨z, 14, none⟩) fun m14 => K m0 m1 m2 m3 m4 m5 m6 m7 m8 m9 m10 m11 m12 m13 m14 n h7) := by
   intro v w h' g
   unfold N67_j0
   simp only [nn_some', add_bk]
   refine Sat.lI g 2 (k := 0) rfl rfl ?_
   refine Sat.lI g 2 rfl rfl ?_
   refine Sat.lI g 2 rfl rfl ?_
   refine Sat.lI g 2 rfl rfl ?_
   refine Sat.lI g 2 rfl rfl ?_
   refine Sat.lI g 2 rfl rfl ?_
   refine c_ahead fun h2 he => ?_
   have g2 := g.ext he
   refine ⟨?_, ?_⟩
   ·refine Sat.lI g2 2 (k := 0) rfl rfl ?_
    refine Sat.lI g2 2 rfl rfl ?_
    refine Sat.lI g2 2 rfl rfl ?_
    refine Sat.lI g2 2 rfl rfl ?_
    refine Sat.lI g2 2 rfl rfl ?_
    refine Sat.lI g2 2 rfl rfl ?_
    exact ⟨rfl, rfl⟩
   ·show bif !(m6eq (macOf l 0) ⟨0, 1, 8, 0, 6, 4⟩) then _ else _
    cases hm : m6eq (macOf l 0) ⟨0, 1, 8, 0, 6, 4⟩ with
    | false =>
     rw [Bool.not_false, cond_true]
     exact err (by unfold arpDE; rw [if_neg k1, if_neg (fun q => by rw [m6eq_iff.2 q.1] at hm; cases hm)]) g2
    | true =>
     rw [Bool.not_true, cond_false]
     have hm := m6eq_iff.1 hm
     refine g2.lI 3 (k := 0) rfl rfl ?_
     by_cases o1 : opOf l = 1
     ·rw [show (opOf l != 1) = false by simp [o1], cond_false]
      unfold N67_j1
      rw [cond_false]
      exact good (by unfold arpDE; rw [if_neg k1, if_pos ⟨hm, .inl o1⟩]) g2
     ·rw [show (opOf l != 1) = true by simp [o1], cond_true]
      refine g2.lI 3 (k := 0) rfl rfl ?_
      by_cases o2 : opOf l = 2
      ·rw [show (opOf l != 2) = false by simp [o2]]
       unfold N67_j1
       rw [cond_false]
       exact good (by unfold arpDE; rw [if_neg k1, if_pos ⟨hm, .inr o2⟩]) g2
      ·rw [show (opOf l != 2) = true by simp [o2]]
       exact err (by unfold arpDE; rw [if_neg k1, if_neg (by rintro ⟨_, q | q⟩; exact o1 q; exact o2 q)]) g2
  refine g.nw ?_
  intro w h2 g2 _
  have g2 : Sat ([] ++ [Hw.was h, row z 160 (arpC 0 mac0 0 mac0 0), row w 45 (macC mac0)]) h2 := g2
  simp only [sadr_zero, add_bk]
  have mn : Nat.min n 6 = 6 := Nat.min_eq_right (by omega)
  refine g2.cpRow (T2 := 45) (ns := bc (l.take 6)) (ln := n) (o := 0) 2 rfl y_a (fun _ => rfl) (fun G hG => by rw [mn]; exact (rd g2).srcK (n := 6) (by omega) hG) (by rw [mn, bc_len, List.length_take]; omega) (by rw [bc_len, List.length_take]; simp [macC]; omega) bc_plain ?_
  intro h3 g3
  have e0 := bc6 (l := l) (k := 0) (by omega)
  rw [List.drop_zero] at e0
  rw [e0] at g3
  have g3 : Sat ([] ++ [Hw.was h, row z 160 (arpC 0 mac0 0 mac0 0), row w 45 (macC (macOf l 0))]) h3 := g3
  refine idx_of (by omega) (show (6 : Int) < (n : Nat) by omega) ?_
  simp only [nn_some']
  refine xI_of (at_ 6 (by omega) g3) ?_
  refine idx_of (by omega) (show (7 : Int) < (n : Nat) by omega) ?_
  try simp only [nn_some']
  refine xI_of (at_ 7 (by omega) g3) ?_
  have ag : ∀ {h' : Hp} {M : List Asn} {i : Nat}, i < l.length → Sat ([] ++ (Hw.was h :: M)) h' → xI .u8 (cell h' (a.add ((i : Int).toNat * 1))) fun m => Only (.int .u8 (bAt l i)) h' (.int .u8 m) h' := fun {h' M i} hi g => by
   rw [Int.toNat_natCast, Nat.mul_one]
   exact xI_of (at_ i hi g) ⟨rfl, rfl⟩
  have w8 : ∀ i, IntKind.wrap .i64 (bAt l i) = bAt l i := fun i => by have := b255 i; exact wi64i (by omega) (by omega)
  have eo : IntKind.wrap .i64 (BitVec.ofInt 64 (IntKind.wrap .i64 (bAt l 6 * 2 ^ 8)) ||| BitVec.ofInt 64 (bAt l 7)).toNat = opOf l := by
   have := or8 (b255 6) (b255 7)
   rw [w8 7] at this
   exact this
  simp only [w8, eo]
  have rl : l.length ≤ 140737488355328 := by omega
  have fin : ∀ {v : Nat} {h' : Hp}, Sat ([] ++ [Hw.was h, row z 160 (arpC 0 mac0 0 mac0 0), row w 45 (macC (macOf l 0)), row v 160 (arpC 0 mac0 0 mac0 0)]) h' →
    Sat ([] ++ [Hw.was h, row z 160 (arpC 0 mac0 0 mac0 0), row w 45 (macC (macOf l 0)), row v 160 [.int .i64 0, .int .u8 0, .int .u8 0, .int .u8 0, .int .u8 0, .int .u8 0, .int .u8 0, .int .u32 0, .int .u8 0, .int .u8 0, .int .u8 0, .int .u8 0, .int .u8 0, .int .u8 0, .int .u32 0]]) h' := fun g => g
  refine ⟨?_, ?_⟩
  ·refine c_aaddr (rd g3) rl ?_
   refine ⟨⟨rfl, rfl⟩, ag (i := 7) (by omega) g3, ⟨rfl, rfl⟩, ag (i := 6) (by omega) g3, ?_⟩
   refine ⟨?_, ?_⟩
   ·refine c_aaddr (rd g3) rl ?_
    refine ⟨⟨rfl, rfl⟩, ag (i := 7) (by omega) g3, ⟨rfl, rfl⟩, ag (i := 6) (by omega) g3, ?_⟩
    refine g3.nw ?_
    intro v h4 g4 _
    refine ⟨⟨rfl, rfl⟩, ag (i := 7) (by omega) g4, ⟨rfl, rfl⟩, ag (i := 6) (by omega) g4, ?_⟩
    have hs := fin (v := v) g4
    refine Sat.st hs 3 (k := 0) rfl (by simp) rfl fun h7 hs => ?_
    simp only [List.set_cons_zero, List.set_cons_succ] at hs
    refine Sat.st hs 3 rfl (by simp) rfl fun h7 hs => ?_
    simp only [List.set_cons_zero, List.set_cons_succ] at hs
    refine Sat.st hs 3 rfl (by simp) rfl fun h7 hs => ?_
    simp only [List.set_cons_zero, List.set_cons_succ] at hs
    refine Sat.st hs 3 rfl (by simp) rfl fun h7 hs => ?_
    simp only [List.set_cons_zero, List.set_cons_succ] at hs
    refine Sat.st hs 3 rfl (by simp) rfl fun h7 hs => ?_
    simp only [List.set_cons_zero, List.set_cons_succ] at hs
    refine Sat.st hs 3 rfl (by simp) rfl fun h7 hs => ?_
    simp only [List.set_cons_zero, List.set_cons_succ] at hs
    refine Sat.st hs 3 rfl (by simp) rfl fun h7 hs => ?_
    simp only [List.set_cons_zero, List.set_cons_succ] at hs
    refine Sat.st hs 3 rfl (by simp) rfl fun h7 hs => ?_
    simp only [List.set_cons_zero, List.set_cons_succ] at hs
    refine Sat.st hs 3 rfl (by simp) rfl fun h7 hs => ?_
    simp only [List.set_cons_zero, List.set_cons_succ] at hs
    refine Sat.st hs 3 rfl (by simp) rfl fun h7 hs => ?_
    simp only [List.set_cons_zero, List.set_cons_succ] at hs
    refine Sat.st hs 3 rfl (by simp) rfl fun h7 hs => ?_
    simp only [List.set_cons_zero, List.set_cons_succ] at hs
    refine Sat.st hs 3 rfl (by simp) rfl fun h7 hs => ?_
    simp only [List.set_cons_zero, List.set_cons_succ] at hs
    refine Sat.st hs 3 rfl (by simp) rfl fun h7 hs => ?_
    simp only [List.set_cons_zero, List.set_cons_succ] at hs
    refine Sat.st hs 3 rfl (by simp) rfl fun h7 hs => ?_
    simp only [List.set_cons_zero, List.set_cons_succ] at hs
    refine Sat.st hs 3 rfl (by simp) rfl fun h7 hs => ?_
    simp only [List.set_cons_zero, List.set_cons_succ] at hs
    exact j0 hs
   ·refine g3.nw ?_
    intro v h4 g4 _
    refine ⟨⟨rfl, rfl⟩, ag (i := 7) (by omega) g4, ⟨rfl, rfl⟩, ag (i := 6) (by omega) g4, ?_⟩
    refine c_aaddr (rd g4) rl ?_
    refine ⟨⟨rfl, rfl⟩, ag (i := 7) (by omega) g4, ⟨rfl, rfl⟩, ag (i := 6) (by omega) g4, ?_⟩
    have hs := fin (v := v) g4
    refine Sat.st hs 3 (k := 0) rfl (by simp) rfl fun h7 hs => ?_
    simp only [List.set_cons_zero, List.set_cons_succ] at hs
    refine Sat.st hs 3 rfl (by simp) rfl fun h7 hs => ?_
    simp only [List.set_cons_zero, List.set_cons_succ] at hs
    refine Sat.st hs 3 rfl (by simp) rfl fun h7 hs => ?_
    simp only [List.set_cons_zero, List.set_cons_succ] at hs
    refine Sat.st hs 3 rfl (by simp) rfl fun h7 hs => ?_
    simp only [List.set_cons_zero, List.set_cons_succ] at hs
    refine Sat.st hs 3 rfl (by simp) rfl fun h7 hs => ?_
    simp only [List.set_cons_zero, List.set_cons_succ] at hs
    refine Sat.st hs 3 rfl (by simp) rfl fun h7 hs => ?_
    simp only [List.set_cons_zero, List.set_cons_succ] at hs
    refine Sat.st hs 3 rfl (by simp) rfl fun h7 hs => ?_
    simp only [List.set_cons_zero, List.set_cons_succ] at hs
    refine Sat.st hs 3 rfl (by simp) rfl fun h7 hs => ?_
    simp only [List.set_cons_zero, List.set_cons_succ] at hs
    refine Sat.st hs 3 rfl (by simp) rfl fun h7 hs => ?_
    simp only [List.set_cons_zero, List.set_cons_succ] at hs
    refine Sat.st hs 3 rfl (by simp) rfl fun h7 hs => ?_
    simp only [List.set_cons_zero, List.set_cons_succ] at hs
    refine Sat.st hs 3 rfl (by simp) rfl fun h7 hs => ?_
    simp only [List.set_cons_zero, List.set_cons_succ] at hs
    refine Sat.st hs 3 rfl (by simp) rfl fun h7 hs => ?_
    simp only [List.set_cons_zero, List.set_cons_succ] at hs
    refine Sat.st hs 3 rfl (by simp) rfl fun h7 hs => ?_
    simp only [List.set_cons_zero, List.set_cons_succ] at hs
    refine Sat.st hs 3 rfl (by simp) rfl fun h7 hs => ?_
    simp only [List.set_cons_zero, List.set_cons_succ] at hs
    refine Sat.st hs 3 rfl (by simp) rfl fun h7 hs => ?_
    simp only [List.set_cons_zero, List.set_cons_succ] at hs
    exact j0 hs
  ·refine g3.nw ?_
   intro v h4 g4 _
   refine ⟨⟨rfl, rfl⟩, ag (i := 7) (by omega) g4, ⟨rfl, rfl⟩, ag (i := 6) (by omega) g4, ?_⟩
   refine c_aaddr (rd g4) rl ?_
   refine ⟨⟨rfl, rfl⟩, ag (i := 7) (by omega) g4, ⟨rfl, rfl⟩, ag (i := 6) (by omega) g4, ?_⟩
   refine c_aaddr (rd g4) rl ?_
   refine ⟨⟨rfl, rfl⟩, ag (i := 7) (by omega) g4, ⟨rfl, rfl⟩, ag (i := 6) (by omega) g4, ?_⟩
   have hs := fin (v := v) g4
   refine Sat.st hs 3 (k := 0) rfl (by simp) rfl fun h7 hs => ?_
   simp only [List.set_cons_zero, List.set_cons_succ] at hs
   refine Sat.st hs 3 rfl (by simp) rfl fun h7 hs => ?_
   simp only [List.set_cons_zero, List.set_cons_succ] at hs
   refine Sat.st hs 3 rfl (by simp) rfl fun h7 hs => ?_
   simp only [List.set_cons_zero, List.set_cons_succ] at hs
   refine Sat.st hs 3 rfl (by simp) rfl fun h7 hs => ?_
   simp only [List.set_cons_zero, List.set_cons_succ] at hs
   refine Sat.st hs 3 rfl (by simp) rfl fun h7 hs => ?_
   simp only [List.set_cons_zero, List.set_cons_succ] at hs
   refine Sat.st hs 3 rfl (by simp) rfl fun h7 hs => ?_
   simp only [List.set_cons_zero, List.set_cons_succ] at hs
   refine Sat.st hs 3 rfl (by simp) rfl fun h7 hs => ?_
   simp only [List.set_cons_zero, List.set_cons_succ] at hs
   refine Sat.st hs 3 rfl (by simp) rfl fun h7 hs => ?_
   simp only [List.set_cons_zero, List.set_cons_succ] at hs
   refine Sat.st hs 3 rfl (by simp) rfl fun h7 hs => ?_
   simp only [List.set_cons_zero, List.set_cons_succ] at hs
   refine Sat.st hs 3 rfl (by simp) rfl fun h7 hs => ?_
   simp only [List.set_cons_zero, List.set_cons_succ] at hs
   refine Sat.st hs 3 rfl (by simp) rfl fun h7 hs => ?_
   simp only [List.set_cons_zero, List.set_cons_succ] at hs
   refine Sat.st hs 3 rfl (by simp) rfl fun h7 hs => ?_
   simp only [List.set_cons_zero, List.set_cons_succ] at hs
   refine Sat.st hs 3 rfl (by simp) rfl fun h7 hs => ?_
   simp only [List.set_cons_zero, List.set_cons_succ] at hs
   refine Sat.st hs 3 rfl (by simp) rfl fun h7 hs => ?_
   simp only [List.set_cons_zero, List.set_cons_succ] at hs
   refine Sat.st hs 3 rfl (by simp) rfl fun h7 hs => ?_
   simp only [List.set_cons_zero, List.set_cons_succ] at hs
   exact j0 hs
def clashB (own : M6) (ip op : Int) (s : M6) (si di : Int) : Bool := !m6eq s own && (si == ip || (op == 1 && (si == 0 && di == ip)))
theorem c_aclash {own s d : M6} {ip op si di : Int} {h : Hp} {K : Bool → Hp → Prop} (hK : ∀ h', Ext none' h h' → K (clashB own ip op s si di) h') :
  C140 own.a own.b own.c own.d own.e own.f ip op s.a s.b s.c s.d s.e s.f si d.a d.b d.c d.d d.e d.f di h K := by
 apply S140; unfold N140
 have hs0 : Sat ([] ++ [Hw.was h]) h := Sat.start
 refine hs0.nw ?_
 intro z1 h1 g0 _
 have g0 : Sat ([] ++ [Hw.was h, row z1 46 (macC own)]) h1 := g0
 refine g0.nw ?_
 intro z2 h2 g1 _
 have g : Sat ([] ++ [Hw.was h, row z1 46 (macC own), row z2 160 (arpC op s si d di)]) h2 := g1
 have fin : ∀ {v : Bool}, v = clashB own ip op s si di → K v h2 := by
  rintro v rfl; exact hK h2 (g.was 0 rfl)
 simp only [add_bk]
 refine g.lI 2 rfl rfl ?_
 refine g.lI 2 rfl rfl ?_
 refine g.lI 2 rfl rfl ?_
 refine g.lI 2 rfl rfl ?_
 refine g.lI 2 rfl rfl ?_
 refine g.lI 2 rfl rfl ?_
 refine g.lI 1 (k := 0) rfl rfl ?_
 refine g.lI 1 rfl rfl ?_
 refine g.lI 1 rfl rfl ?_
 refine g.lI 1 rfl rfl ?_
 refine g.lI 1 rfl rfl ?_
 refine g.lI 1 rfl rfl ?_
 show bif m6eq s own then _ else _
 cases e1 : m6eq s own with
 | true => rw [cond_true]; exact fin (by simp only [clashB, e1]; rfl)
 | false =>
  rw [cond_false]
  refine g.lI 2 rfl rfl ?_
  cases e2 : (si == ip) with
  | true => rw [cond_true]; exact fin (by simp only [clashB, e1, e2]; rfl)
  | false =>
   rw [cond_false]
   refine g.lI 2 (k := 0) rfl rfl ?_
   cases e3 : (op == 1) with
   | false => rw [cond_false]; exact fin (by simp only [clashB, e1, e2, e3]; rfl)
   | true =>
    rw [cond_true]
    refine g.lI 2 rfl rfl ?_
    cases e4 : (si == 0) with
    | false => rw [cond_false]; exact fin (by simp only [clashB, e1, e2, e3, e4]; rfl)
    | true =>
     rw [cond_true]
     refine g.lI 2 rfl rfl ?_
     exact fin (by simp only [clashB, e1, e2, e3, e4, Bool.not_false, Bool.true_and, Bool.false_or])
theorem arp_back {op si di : Int} {s d : M6} {pad : List UInt8} (ho : op = 1 ∨ op = 2) (hs : s.ok) (hd : d.ok) (hsi : 0 ≤ si ∧ si < 4294967296) (hdi : 0 ≤ di ∧ di < 4294967296) :
  arpDE (arpL op s si d di ++ pad) = 0 ∧ opOf (arpL op s si d di ++ pad) = op ∧ macOf (arpL op s si d di ++ pad) 8 = s ∧ ((getV (arpL op s si d di ++ pad) 14 4 : Nat) : Int) = si ∧ macOf (arpL op s si d di ++ pad) 18 = d ∧ ((getV (arpL op s si d di ++ pad) 24 4 : Nat) : Int) = di := by
 have e0 : arpL op s si d di ++ pad = [0, 1, 8, 0, 6, 4, 0, UInt8.ofNat op.toNat] ++ mb s ++ (be si.toNat 4 ++ mb d ++ be di.toNat 4 ++ pad) := by simp [arpL, arpH]
 have e1 : arpL op s si d di ++ pad = ([0, 1, 8, 0, 6, 4, 0, UInt8.ofNat op.toNat] ++ mb s) ++ be si.toNat 4 ++ (mb d ++ be di.toNat 4 ++ pad) := by rw [e0]; simp
 have e2 : arpL op s si d di ++ pad = ([0, 1, 8, 0, 6, 4, 0, UInt8.ofNat op.toNat] ++ mb s ++ be si.toNat 4) ++ mb d ++ (be di.toNat 4 ++ pad) := by rw [e0]; simp
 have e3 : arpL op s si d di ++ pad = ([0, 1, 8, 0, 6, 4, 0, UInt8.ofNat op.toNat] ++ mb s ++ be si.toNat 4 ++ mb d) ++ be di.toNat 4 ++ pad := by rw [e0]; simp
 have m8 : macOf (arpL op s si d di ++ pad) 8 = s := by rw [e0]; exact mac_mid (A := [0, 1, 8, 0, 6, 4, 0, UInt8.ofNat op.toNat]) hs
 have v14 : getV (arpL op s si d di ++ pad) 14 4 = si.toNat := by rw [e1]; exact getV_mid (w := 4) rfl (by omega) (by omega) (by omega)
 have m18 : macOf (arpL op s si d di ++ pad) 18 = d := by rw [e2]; exact mac_mid (A := [0, 1, 8, 0, 6, 4, 0, UInt8.ofNat op.toNat] ++ mb s ++ be si.toNat 4) hd
 have v24 : getV (arpL op s si d di ++ pad) 24 4 = di.toNat := by rw [e3]; exact getV_mid (w := 4) rfl (by omega) (by omega) (by omega)
 have ho2 : opOf (arpL op s si d di ++ pad) = op := by
  rw [e0]
  rcases ho with rfl | rfl <;> rfl
 have m0 : macOf (arpL op s si d di ++ pad) 0 = ⟨0, 1, 8, 0, 6, 4⟩ := by rw [e0]; rfl
 refine ⟨?_, ho2, m8, by rw [v14]; omega, m18, by rw [v24]; omega⟩
 unfold arpDE
 rw [if_neg (by rw [List.length_append, arpL_len]; omega), if_pos ⟨m0, by rw [ho2]; exact ho⟩]
end Go.Proofs.YtbbnpmikjdgdpaaGreat

set_option linter.unusedVariables false
set_option maxRecDepth 100000
namespace Go.Proofs.YtbbnpmikjdgdpaaGreat
open Go Go.Hw
noncomputable def B92 : Code := match Tryz.f92.body with | some c => c | none => .skip
def N92_j1 (x0 x2 : Int) (h : Hp) (Kr : Int → Hp → Prop) : Prop :=
 idx (IntKind.wrap .u8 x0) (⟨⟨[0, 1, 2, 2, 3, 3, 3, 3, 4, 4, 4, 4, 4, 4, 4, 4, 5, 5, 5, 5, 5, 5, 5, 5, 5, 5, 5, 5, 5, 5, 5, 5, 6, 6, 6, 6, 6, 6, 6, 6, 6, 6, 6, 6, 6, 6, 6, 6, 6, 6, 6, 6, 6, 6, 6, 6, 6, 6, 6, 6, 6, 6, 6, 6, 7, 7, 7, 7, 7, 7, 7, 7, 7, 7, 7, 7, 7, 7, 7, 7, 7, 7, 7, 7, 7, 7, 7, 7, 7, 7, 7, 7, 7, 7, 7, 7, 7, 7, 7, 7, 7, 7, 7, 7, 7, 7, 7, 7, 7, 7, 7, 7, 7, 7, 7, 7, 7, 7, 7, 7, 7, 7, 7, 7, 7, 7, 7, 7, 8, 8, 8, 8, 8, 8, 8, 8, 8, 8, 8, 8, 8, 8, 8, 8, 8, 8, 8, 8, 8, 8, 8, 8, 8, 8, 8, 8, 8, 8, 8, 8, 8, 8, 8, 8, 8, 8, 8, 8, 8, 8, 8, 8, 8, 8, 8, 8, 8, 8, 8, 8, 8, 8, 8, 8, 8, 8, 8, 8, 8, 8, 8, 8, 8, 8, 8, 8, 8, 8, 8, 8, 8, 8, 8, 8, 8, 8, 8, 8, 8, 8, 8, 8, 8, 8, 8, 8, 8, 8, 8, 8, 8, 8, 8, 8, 8, 8, 8, 8, 8, 8, 8, 8, 8, 8, 8, 8, 8, 8, 8, 8, 8, 8, 8, 8, 8, 8, 8, 8, 8, 8, 8, 8, 8, 8, 8, 8]⟩⟩ : ByteArray).size <|
 Kr (IntKind.wrap .i64 (x2 + (IntKind.wrap .i64 (sbyte (⟨⟨[0, 1, 2, 2, 3, 3, 3, 3, 4, 4, 4, 4, 4, 4, 4, 4, 5, 5, 5, 5, 5, 5, 5, 5, 5, 5, 5, 5, 5, 5, 5, 5, 6, 6, 6, 6, 6, 6, 6, 6, 6, 6, 6, 6, 6, 6, 6, 6, 6, 6, 6, 6, 6, 6, 6, 6, 6, 6, 6, 6, 6, 6, 6, 6, 7, 7, 7, 7, 7, 7, 7, 7, 7, 7, 7, 7, 7, 7, 7, 7, 7, 7, 7, 7, 7, 7, 7, 7, 7, 7, 7, 7, 7, 7, 7, 7, 7, 7, 7, 7, 7, 7, 7, 7, 7, 7, 7, 7, 7, 7, 7, 7, 7, 7, 7, 7, 7, 7, 7, 7, 7, 7, 7, 7, 7, 7, 7, 7, 8, 8, 8, 8, 8, 8, 8, 8, 8, 8, 8, 8, 8, 8, 8, 8, 8, 8, 8, 8, 8, 8, 8, 8, 8, 8, 8, 8, 8, 8, 8, 8, 8, 8, 8, 8, 8, 8, 8, 8, 8, 8, 8, 8, 8, 8, 8, 8, 8, 8, 8, 8, 8, 8, 8, 8, 8, 8, 8, 8, 8, 8, 8, 8, 8, 8, 8, 8, 8, 8, 8, 8, 8, 8, 8, 8, 8, 8, 8, 8, 8, 8, 8, 8, 8, 8, 8, 8, 8, 8, 8, 8, 8, 8, 8, 8, 8, 8, 8, 8, 8, 8, 8, 8, 8, 8, 8, 8, 8, 8, 8, 8, 8, 8, 8, 8, 8, 8, 8, 8, 8, 8, 8, 8, 8, 8, 8, 8]⟩⟩ : ByteArray) (IntKind.wrap .u8 x0))))) h
noncomputable def N92_j1_t : Xf := pieceT [(0, .c (.int .u32)), (2, .c (.int .i64))] (codeAt B92 [1, 1, 1]) fun x h Q => N92_j1 x.1 x.2 h (fun o0 h' => Q .ret (Sg.env [(2, .c (.int .i64))] o0) h')
theorem N92_j1_ok : Sound Tryz.prog Tryz.f92.ntmps N92_j1_t (codeAt B92 [1, 1, 1]) := by
 refine piece_sound (fun e => match e with | .ret => [2] | _ => []) ?_
 intro x h Q hb
 refine den_sound hE hm _ .leaf _ _ _ (annOk_leaf) ?_
 refine cast ?_ hb
 kernel_rfl
def N92_j0 (x0 x2 : Int) (h : Hp) (Kr : Int → Hp → Prop) : Prop :=
 bif (decide (x0 ≥ 256)) then
 N92_j1 (Int.fdiv x0 (2 ^ 8)) (IntKind.wrap .i64 (x2 + 8)) h
 (fun n0 h0 =>
 Kr n0 h0)
 else
 N92_j1 x0 x2 h
 (fun n1 h1 =>
 Kr n1 h1)
noncomputable def N92_j0_t : Xf := pieceT [(0, .c (.int .u32)), (2, .c (.int .i64))] (codeAt B92 [1, 1]) fun x h Q => N92_j0 x.1 x.2 h (fun o0 h' => Q .ret (Sg.env [(2, .c (.int .i64))] o0) h')
theorem N92_j0_ok : Sound Tryz.prog Tryz.f92.ntmps N92_j0_t (codeAt B92 [1, 1]) := by
 refine piece_sound (fun e => match e with | .ret => [2] | _ => []) ?_
 intro x h Q hb
 refine den_sound hE hm _ (.two .leaf (.xf N92_j1_t)) _ _ _ (⟨annOk_leaf, N92_j1_ok⟩) ?_
 refine cast ?_ hb
 kernel_rfl
def N92 (x0 : Int) (h : Hp) (K : Int → Hp → Prop) : Prop :=
 bif (decide (x0 ≥ 65536)) then
 N92_j0 (Int.fdiv x0 (2 ^ 16)) 16 h
 (fun n0 h0 =>
 K n0 h0)
 else
 N92_j0 x0 0 h
 (fun n1 h1 =>
 K n1 h1)
theorem S92 {x0 : Int} {h : Hp} {K : Int → Hp → Prop} (hn : N92 x0 h K) : C92 x0 h K := by
 refine calls_of_D Tryz.func92 (c := B92) rfl (by kernel_rfl) ?_
 refine den_sound hE hm _ (.two .leaf (.two .leaf (.xf N92_j0_t))) _ _ _ (⟨annOk_leaf, ⟨annOk_leaf, N92_j0_ok⟩⟩) ?_
 refine cast ?_ hn
 kernel_rfl
end Go.Proofs.YtbbnpmikjdgdpaaGreat

set_option linter.unusedVariables false
set_option maxRecDepth 100000
namespace Go.Proofs.YtbbnpmikjdgdpaaGreat
open Go Go.Hw
noncomputable def B88 : Code := match Tryz.f88.body with | some c => c | none => .skip
def N88 (x0 : Int) (h : Hp) (K : Int → Hp → Prop) : Prop :=
 C92 x0 h fun n0 h0 =>
 K (IntKind.wrap .i64 (32 - n0)) h0
theorem S88 {x0 : Int} {h : Hp} {K : Int → Hp → Prop} (hn : N88 x0 h K) : C88 x0 h K := by
 refine calls_of_D Tryz.func88 (c := B88) rfl (by kernel_rfl) ?_
 refine den_sound hE hm _ .leaf _ _ _ (annOk_leaf) ?_
 refine cast ?_ hn
 kernel_rfl
end Go.Proofs.YtbbnpmikjdgdpaaGreat

/-
 bits.LeadingZeros32, walked.
-/
set_option linter.unusedSimpArgs false
set_option linter.unusedVariables false
set_option maxRecDepth 100000
namespace Go.Proofs.YtbbnpmikjdgdpaaGreat
open Go Go.Hw
theorem len_byte : ∀ n < 256, sbyte (⟨⟨[0, 1, 2, 2, 3, 3, 3, 3, 4, 4, 4, 4, 4, 4, 4, 4, 5, 5, 5, 5, 5, 5, 5, 5, 5, 5, 5, 5, 5, 5, 5, 5, 6, 6, 6, 6, 6, 6, 6, 6, 6, 6, 6, 6, 6, 6, 6, 6, 6, 6, 6, 6, 6, 6, 6, 6, 6, 6, 6, 6, 6, 6, 6, 6, 7, 7, 7, 7, 7, 7, 7, 7, 7, 7, 7, 7, 7, 7, 7, 7, 7, 7, 7, 7, 7, 7, 7, 7, 7, 7, 7, 7, 7, 7, 7, 7, 7, 7, 7, 7, 7, 7, 7, 7, 7, 7, 7, 7, 7, 7, 7, 7, 7, 7, 7, 7, 7, 7, 7, 7, 7, 7, 7, 7, 7, 7, 7, 7, 8, 8, 8, 8, 8, 8, 8, 8, 8, 8, 8, 8, 8, 8, 8, 8, 8, 8, 8, 8, 8, 8, 8, 8, 8, 8, 8, 8, 8, 8, 8, 8, 8, 8, 8, 8, 8, 8, 8, 8, 8, 8, 8, 8, 8, 8, 8, 8, 8, 8, 8, 8, 8, 8, 8, 8, 8, 8, 8, 8, 8, 8, 8, 8, 8, 8, 8, 8, 8, 8, 8, 8, 8, 8, 8, 8, 8, 8, 8, 8, 8, 8, 8, 8, 8, 8, 8, 8, 8, 8, 8, 8, 8, 8, 8, 8, 8, 8, 8, 8, 8, 8, 8, 8, 8, 8, 8, 8, 8, 8, 8, 8, 8, 8, 8, 8, 8, 8, 8, 8, 8, 8, 8, 8, 8, 8, 8, 8]⟩⟩ : ByteArray) (n : Nat) = (Lib.bitLen n : Nat) ∧ n < (⟨⟨[0, 1, 2, 2, 3, 3, 3, 3, 4, 4, 4, 4, 4, 4, 4, 4, 5, 5, 5, 5, 5, 5, 5, 5, 5, 5, 5, 5, 5, 5, 5, 5, 6, 6, 6, 6, 6, 6, 6, 6, 6, 6, 6, 6, 6, 6, 6, 6, 6, 6, 6, 6, 6, 6, 6, 6, 6, 6, 6, 6, 6, 6, 6, 6, 7, 7, 7, 7, 7, 7, 7, 7, 7, 7, 7, 7, 7, 7, 7, 7, 7, 7, 7, 7, 7, 7, 7, 7, 7, 7, 7, 7, 7, 7, 7, 7, 7, 7, 7, 7, 7, 7, 7, 7, 7, 7, 7, 7, 7, 7, 7, 7, 7, 7, 7, 7, 7, 7, 7, 7, 7, 7, 7, 7, 7, 7, 7, 7, 8, 8, 8, 8, 8, 8, 8, 8, 8, 8, 8, 8, 8, 8, 8, 8, 8, 8, 8, 8, 8, 8, 8, 8, 8, 8, 8, 8, 8, 8, 8, 8, 8, 8, 8, 8, 8, 8, 8, 8, 8, 8, 8, 8, 8, 8, 8, 8, 8, 8, 8, 8, 8, 8, 8, 8, 8, 8, 8, 8, 8, 8, 8, 8, 8, 8, 8, 8, 8, 8, 8, 8, 8, 8, 8, 8, 8, 8, 8, 8, 8, 8, 8, 8, 8, 8, 8, 8, 8, 8, 8, 8, 8, 8, 8, 8, 8, 8, 8, 8, 8, 8, 8, 8, 8, 8, 8, 8, 8, 8, 8, 8, 8, 8, 8, 8, 8, 8, 8, 8, 8, 8, 8, 8, 8, 8, 8, 8]⟩⟩ : ByteArray).size := by decide +kernel
theorem len_j1 {n a : Nat} (hn : n < 256) (ha : a ≤ 24) {h : Hp} {K : Int → Hp → Prop} (hK : K ((a + Lib.bitLen n : Nat) : Int) h) : N92_j1 ((n : Nat) : Int) ((a : Nat) : Int) h K := by
 unfold N92_j1
 obtain ⟨k1, k2⟩ := len_byte n hn
 have hb := Lib.bitLen_le8' (n : Int) (by omega) (by omega)
 rw [Int.toNat_natCast] at hb
 have e1 : IntKind.wrap .u8 (n : Int) = n := by show (n : Int) % 256 = n; omega
 rw [e1]
 refine idx_of (by omega) (by omega) ?_
 have e3 : IntKind.wrap .i64 ((Lib.bitLen n : Nat) : Int) = (Lib.bitLen n : Nat) := wi64i (by omega) (by omega)
 rw [k1, e3, wi64i (by omega) (by omega)]
 have e2 : (a : Int) + ((Lib.bitLen n : Nat) : Int) = ((a + Lib.bitLen n : Nat) : Int) := by omega
 rw [e2]; exact hK
theorem len_j0 {n a : Nat} (hn : n < 65536) (ha : a ≤ 16) {h : Hp} {K : Int → Hp → Prop} (hK : K ((a + Lib.bitLen n : Nat) : Int) h) : N92_j0 ((n : Nat) : Int) ((a : Nat) : Int) h K := by
 unfold N92_j0
 by_cases hb : 256 ≤ n
 ·rw [show decide ((n : Int) ≥ 256) = true from decide_eq_true (by omega), cond_true]
  have e1 : Int.fdiv (n : Int) (2 ^ 8) = ((n / 256 : Nat) : Int) := by rw [Int.fdiv_eq_ediv_of_nonneg _ (by decide)]; rfl
  have e2 : IntKind.wrap .i64 ((a : Int) + 8) = ((a + 8 : Nat) : Int) := by rw [wi64i (by omega) (by omega)]; omega
  rw [e1, e2]
  refine len_j1 (by omega) (by omega) ?_
  have := Lib.bitLen_shift8 n hb (by omega)
  rw [show a + 8 + Lib.bitLen (n / 256) = a + Lib.bitLen n by omega]
  exact hK
 ·rw [show decide ((n : Int) ≥ 256) = false from decide_eq_false (by omega), cond_false]
  exact len_j1 (by omega) (by omega) hK
theorem c_leading {x : Int} {h : Hp} {K : Int → Hp → Prop} (h0 : 0 ≤ x) (h1 : x ≤ 4294967295) (hK : K (32 - (Lib.bitLen x.toNat : Int)) h) : C88 x h K := by
 obtain ⟨n, rfl⟩ := Int.eq_ofNat_of_zero_le h0
 rw [Int.toNat_natCast] at hK
 apply S88; unfold N88
 apply S92; unfold N92
 have hb := Lib.bitLen_le n 32 (by omega) (by omega)
 have fin : ∀ {m : Nat}, m = Lib.bitLen n → K (IntKind.wrap .i64 (32 - (m : Int))) h := by
  rintro m rfl
  rw [wi64i (by omega) (by omega)]; exact hK
 by_cases hb : 65536 ≤ n
 ·rw [show decide ((n : Int) ≥ 65536) = true from decide_eq_true (by omega), cond_true]
  have e1 : Int.fdiv (n : Int) (2 ^ 16) = ((n / 65536 : Nat) : Int) := by rw [Int.fdiv_eq_ediv_of_nonneg _ (by decide)]; rfl
  rw [e1]
  refine len_j0 (a := 16) (by omega) (by omega) (fin ?_)
  have := Lib.bitLen_shift16 n hb (by omega)
  omega
 ·rw [show decide ((n : Int) ≥ 65536) = false from decide_eq_false (by omega), cond_false]
  exact len_j0 (a := 0) (by omega) (by omega) (fin (by omega))
end Go.Proofs.YtbbnpmikjdgdpaaGreat

set_option linter.unusedVariables false
set_option maxRecDepth 100000
namespace Go.Proofs.YtbbnpmikjdgdpaaGreat
open Go Go.Hw
noncomputable def B72 : Code := match Tryz.f72.body with | some c => c | none => .skip
def N72 (x0 : Int) (h : Hp) (K : Int → Hp → Prop) : Prop :=
 C88 (IntKind.wrap .u32 (BitVec.ofInt 32 4294967295 ^^^ BitVec.ofInt 32 x0).toNat) h fun n0 h0 =>
 bif (decide (n0 < 32)) then
 bif decide (n0 < 0) then False else
 bif ((IntKind.wrap .u32 (x0 * 2 ^ (min n0.toNat 32))) != 0) then
 K (-1) h0
 else
 K n0 h0
 else
 K n0 h0
theorem S72 {x0 : Int} {h : Hp} {K : Int → Hp → Prop} (hn : N72 x0 h K) : C72 x0 h K := by
 refine calls_of_D Tryz.func72 (c := B72) rfl (by kernel_rfl) ?_
 refine den_sound hE hm _ .leaf _ _ _ (annOk_leaf) ?_
 refine cast ?_ hn
 kernel_rfl
end Go.Proofs.YtbbnpmikjdgdpaaGreat

set_option linter.unusedVariables false
set_option maxRecDepth 100000
namespace Go.Proofs.YtbbnpmikjdgdpaaGreat
open Go Go.Hw
noncomputable def B48 : Code := match Tryz.f48.body with | some c => c | none => .skip
def N48 (x0 : Int) (h : Hp) (K : Bool → Hp → Prop) : Prop :=
 C72 x0 h fun n0 h0 =>
 K (decide (n0 ≥ 0)) h0
theorem S48 {x0 : Int} {h : Hp} {K : Bool → Hp → Prop} (hn : N48 x0 h K) : C48 x0 h K := by
 refine calls_of_D Tryz.func48 (c := B48) rfl (by kernel_rfl) ?_
 refine den_sound hE hm _ .leaf _ _ _ (annOk_leaf) ?_
 refine cast ?_ hn
 kernel_rfl
end Go.Proofs.YtbbnpmikjdgdpaaGreat

/-
  Ones of a mask: the program's and the document's.
-/
-- (no ref01.Ones)
set_option linter.unusedSimpArgs false
set_option linter.unusedVariables false
namespace Go.Proofs.YtbbnpmikjdgdpaaGreat
open Go Go.Hw
def IsOnes (m n : Nat) : Prop := n ≤ 32 ∧ m + 2 ^ (32 - n) = 4294967296
theorem pow_split {a b : Nat} (h : a ≤ b) : 2 ^ b = 2 ^ a * 2 ^ (b - a) := by rw [← Nat.pow_add]; congr 1; omega
theorem isOnes_one {m a b : Nat} (h1 : IsOnes m a) (h2 : IsOnes m b) : a = b := by
  obtain ⟨ha, ea⟩ := h1
  obtain ⟨hb, eb⟩ := h2
  have : 2 ^ (32 - a) = 2 ^ (32 - b) := by omega
  have h1 : ¬ 32 - a < 32 - b := fun q => by have := Nat.pow_lt_pow_right (a := 2) (by omega) q; omega
  have h2 : ¬ 32 - b < 32 - a := fun q => by have := Nat.pow_lt_pow_right (a := 2) (by omega) q; omega
  omega
open Classical in
noncomputable def onesOf (m : Nat) : Int := if h : ∃ n, IsOnes m n then ((Classical.choose h : Nat) : Int) else -1
theorem onesOf_is {m n : Nat} (h : IsOnes m n) : onesOf m = n := by
  unfold onesOf
  have hx : ∃ n, IsOnes m n := ⟨n, h⟩
  rw [dif_pos hx, isOnes_one (Classical.choose_spec hx) h]
theorem onesOf_no {m : Nat} (h : ∀ n, ¬ IsOnes m n) : onesOf m = -1 := by
  unfold onesOf
  rw [dif_neg (fun ⟨n, hn⟩ => h n hn)]
theorem bitLen_spec {x : Nat} (h : x < 4294967296) : x < 2 ^ Lib.bitLen x ∧ Lib.bitLen x ≤ 32 ∧ (x ≠ 0 → 2 ^ (Lib.bitLen x - 1) ≤ x ∧ 1 ≤ Lib.bitLen x) := by
  unfold Lib.bitLen
  by_cases h0 : x = 0
  · subst h0; rw [Lib.bitLenAux_zero]; exact ⟨by decide, by omega, fun h => absurd rfl h⟩
  · obtain ⟨a, b, c⟩ := Lib.bitLenAux_bounds 64 x (by omega) h0
    refine ⟨c, ?_, fun _ => ⟨b, a⟩⟩
    by_cases hl : Lib.bitLenAux 64 x ≤ 32
    · exact hl
    · have : 2 ^ 32 ≤ 2 ^ (Lib.bitLenAux 64 x - 1) := Nat.pow_le_pow_right (by omega) (by omega)
      omega
theorem c_ones {m : Int} {h : Hp} {K : Int → Hp → Prop} (h0 : 0 ≤ m) (h1 : m < 4294967296) (hK : K (onesOf m.toNat) h) : C72 m h K := by
  apply S72; unfold N72
  obtain ⟨x, rfl⟩ := Int.eq_ofNat_of_zero_le h0
  simp only [Int.toNat_natCast] at hK
  rw [not32 h0 h1]
  refine c_leading (by omega) (by omega) ?_
  have ec : (4294967295 - (x : Int)).toNat = 4294967295 - x := by omega
  rw [ec]
  have b0 : 4294967295 - x = 0 → Lib.bitLen (4294967295 - x) = 0 := fun e => by rw [e]; rfl
  obtain ⟨b1, b2, b3⟩ := bitLen_spec (x := 4294967295 - x) (by omega)
  generalize Lib.bitLen (4294967295 - x) = L at b0 b1 b2 b3
  have hp1 : 1 ≤ 2 ^ L := Nat.one_le_two_pow
  have hpq : 4294967296 = 2 ^ L * 2 ^ (32 - L) := (pow_split b2).symm ▸ rfl
  have h2c : 4294967295 - x ≠ 0 → 2 ^ L ≤ 2 * (4294967295 - x) := by
    intro hc
    obtain ⟨c1, c2⟩ := b3 hc
    have : 2 ^ L = 2 ^ (L - 1) * 2 := by rw [← Nat.pow_succ]; congr 1; omega
    omega
  have only : ∀ n, IsOnes x n → n = 32 - L := by
    rintro n ⟨hn, en⟩
    have hr : 1 ≤ 2 ^ (32 - n) := Nat.one_le_two_pow
    have h1 : ¬ L < 32 - n := fun q => by have := Nat.pow_lt_pow_right (a := 2) (by omega) q; omega
    have h2 : ¬ 32 - n < L := fun q => by
      have q2 : 2 ^ (32 - n + 1) ≤ 2 ^ L := Nat.pow_le_pow_right (by omega) q
      rw [Nat.pow_succ] at q2
      by_cases hc : 4294967295 - x = 0
      · have := b0 hc; omega
      · have := h2c hc; omega
    omega
  have e32 : (32 : Int) - (L : Int) = ((32 - L : Nat) : Int) := by omega
  rw [e32]
  -- ones, then zeros, just where the rest divides
  have hdiv : IsOnes x (32 - L) ↔ x % 2 ^ L = 0 := by
    unfold IsOnes
    rw [show 32 - (32 - L) = L by omega]
    generalize 2 ^ L = p at *
    generalize 2 ^ (32 - L) = q at *
    have hx : x = p * (q - 1) + (p - 1 - (4294967295 - x)) := by
      have : 1 ≤ q := by rcases q with _ | q; · omega
                         · omega
      have : p * q = p * (q - 1) + p := by rw [← Nat.mul_succ]; congr 1; omega
      omega
    have hm : x % p = p - 1 - (4294967295 - x) := by
      conv => lhs; rw [hx]
      rw [Nat.mul_add_mod]
      exact Nat.mod_eq_of_lt (by omega)
    rw [hm]
    constructor
    · rintro ⟨_, h⟩; omega
    · intro h; exact ⟨by omega, by omega⟩
  by_cases hL : L = 0
  · have : decide (((32 - L : Nat) : Int) < 32) = false := decide_eq_false (by omega)
    rw [this, cond_false]
    have hx : IsOnes x (32 - L) := by rw [hdiv]; subst hL; omega
    rw [onesOf_is hx] at hK
    exact hK
  · have : decide (((32 - L : Nat) : Int) < 32) = true := decide_eq_true (by omega)
    rw [this, cond_true]
    have : decide (((32 - L : Nat) : Int) < 0) = false := decide_eq_false (by omega)
    rw [this, cond_false]
    have em : min (((32 - L : Nat) : Int)).toNat 32 = 32 - L := by omega
    rw [em, wu32]
    have ev : ((x : Int) * 2 ^ (32 - L)) % 4294967296 = ((2 ^ (32 - L) * (x % 2 ^ L) : Nat) : Int) := by
      have : ((x : Int) * 2 ^ (32 - L)) = ((x * 2 ^ (32 - L) : Nat) : Int) := by push_cast; rfl
      rw [this]
      have h3 : x * 2 ^ (32 - L) % 4294967296 = 2 ^ (32 - L) * (x % 2 ^ L) := by
        rw [hpq, Nat.mul_comm x, Nat.mul_comm (2 ^ L), Nat.mul_mod_mul_left]
      rw [← h3]; omega
    rw [ev]
    by_cases hz : x % 2 ^ L = 0
    · have : (((2 ^ (32 - L) * (x % 2 ^ L) : Nat) : Int) != 0) = false := by rw [hz]; simp
      rw [this, cond_false]
      rw [onesOf_is (hdiv.2 hz)] at hK
      exact hK
    · have hpos : 0 < 2 ^ (32 - L) * (x % 2 ^ L) := Nat.mul_pos (Nat.two_pow_pos _) (by omega)
      have : (((2 ^ (32 - L) * (x % 2 ^ L) : Nat) : Int) != 0) = true := by
        simp only [bne_iff_ne, ne_eq]
        omega
      rw [this, cond_true]
      rw [onesOf_no (fun n hn => hz (hdiv.1 (by rw [← only n hn]; exact hn)))] at hK
      exact hK
theorem c_isMask {m : Int} {h : Hp} {K : Bool → Hp → Prop} (h0 : 0 ≤ m) (h1 : m < 4294967296) (hK : K (decide (onesOf m.toNat ≥ 0)) h) : C48 m h K := by
  apply S48; unfold N48
  exact c_ones h0 h1 hK
end Go.Proofs.YtbbnpmikjdgdpaaGreat

set_option linter.unusedVariables false
set_option maxRecDepth 100000
namespace Go.Proofs.YtbbnpmikjdgdpaaGreat
open Go Go.Hw
noncomputable def B21 : Code := match Tryz.f21.body with | some c => c | none => .skip
def N21  (h : Hp) (K : Option Addr → Hp → Prop) : Prop :=
 nw h (.cells ⟨[.int .u32 0, .int .u32 0, .int .u32 0]⟩ 135) fun b0 h0 =>
 K (some (bk b0)) h0
theorem S21 {h : Hp} {K : Option Addr → Hp → Prop} (hn : N21 h K) : C21 h K := by
 refine calls_of_D Tryz.func21 (c := B21) rfl (by kernel_rfl) ?_
 refine den_sound hE hm _ .leaf _ _ _ (annOk_leaf) ?_
 refine cast ?_ hn
 kernel_rfl
end Go.Proofs.YtbbnpmikjdgdpaaGreat

set_option linter.unusedVariables false
set_option maxRecDepth 100000
namespace Go.Proofs.YtbbnpmikjdgdpaaGreat
open Go Go.Hw
noncomputable def B25 : Code := match Tryz.f25.body with | some c => c | none => .skip
def N25_j0 (x0 : Option Addr) (x1 x3 : Int) (x9 : Option Addr) (x18 : Bool) (h : Hp) (Kn : Hp → Prop) (Kr : Int → Hp → Prop) : Prop :=
 bif x18 then
 Kr 100 h
 else
 nn x9 fun a0 =>
 xI .u32 (cell h a0) fun n0 =>
 xI .u32 (cell h (a0.add 1)) fun n1 =>
 xI .u32 (cell h (a0.add 2)) fun n2 =>
 C49 n0 n1 n2 x1 h fun b0 h0 =>
 bif (!b0) then
 Kr 101 h0
 else
 bif (x3 != 0) then
 bif (x3 == x1) then
 Kr 102 h0
 else
 nn x9 fun a1 =>
 xI .u32 (cell h0 a1) fun n3 =>
 xI .u32 (cell h0 (a1.add 1)) fun n4 =>
 xI .u32 (cell h0 (a1.add 2)) fun n5 =>
 C49 n3 n4 n5 x3 h0 fun b1 h1 =>
 bif (!b1) then
 Kr 102 h1
 else
 Kn h1
 else
 Kn h0
noncomputable def N25_j0_t : Xf := pieceT [(0, .c (.ptr)), (1, .c (.int .u32)), (3, .c (.int .u32)), (9, .c (.ptr)), (18, .c (.bool))] (codeAt B25 [1, 1, 0, 0, 1, 1, 1]) fun x h Q => N25_j0 x.1 x.2.1 x.2.2.1 x.2.2.2.1 x.2.2.2.2 h (fun h' => Q .normal (Sg.env [] ()) h') (fun o0 h' => Q .ret (Sg.env [(8, .c (.int .i64))] o0) h')
theorem N25_j0_ok : Sound Tryz.prog Tryz.f25.ntmps N25_j0_t (codeAt B25 [1, 1, 0, 0, 1, 1, 1]) := by
 refine piece_sound (fun e => match e with | .normal => [] | .ret => [8] | _ => []) ?_
 intro x h Q hb
 refine den_sound hE hm _ .leaf _ _ _ (annOk_leaf) ?_
 refine cast ?_ hb
 kernel_rfl
def N25 (x0 : Option Addr) (x1 x2 x3 : Int) (h : Hp) (K : Int → Hp → Prop) : Prop :=
 nw h (.cells ⟨[.int .u32 0, .int .u32 0, .int .u32 0]⟩ 133) fun b0 h0 =>
 st h0 (bk b0) (.int .u32 x1) fun h1 =>
 st h1 ((bk b0).add 1) (.int .u32 x2) fun h2 =>
 st h2 ((bk b0).add 2) (.int .u32 x3) fun h3 =>
 C47 x1 h3 fun b1 h4 =>
 bif (!b1) then
 K 101 h4
 else
 bif (x2 == 0) then
 N25_j0 x0 x1 x3 (some (bk b0)) true h4
 (fun h5 =>
 xI .u32 (cell h5 (bk b0)) fun n0 =>
 xI .u32 (cell h5 ((bk b0).add 1)) fun n1 =>
 xI .u32 (cell h5 ((bk b0).add 2)) fun n2 =>
 nn x0 fun a0 =>
 st h5 a0 (.int .u32 n0) fun h6 =>
 st h6 (a0.add 1) (.int .u32 n1) fun h7 =>
 st h7 (a0.add 2) (.int .u32 n2) fun h8 =>
 K 0 h8)
 (fun n3 h9 =>
 K n3 h9)
 else
 C48 x2 h4 fun b2 h10 =>
 N25_j0 x0 x1 x3 (some (bk b0)) (!b2) h10
 (fun h11 =>
 xI .u32 (cell h11 (bk b0)) fun n4 =>
 xI .u32 (cell h11 ((bk b0).add 1)) fun n5 =>
 xI .u32 (cell h11 ((bk b0).add 2)) fun n6 =>
 nn x0 fun a1 =>
 st h11 a1 (.int .u32 n4) fun h12 =>
 st h12 (a1.add 1) (.int .u32 n5) fun h13 =>
 st h13 (a1.add 2) (.int .u32 n6) fun h14 =>
 K 0 h14)
 (fun n7 h15 =>
 K n7 h15)
theorem S25 {x0 : Option Addr} {x1 x2 x3 : Int} {h : Hp} {K : Int → Hp → Prop} (hn : N25 x0 x1 x2 x3 h K) : C25 x0 x1 x2 x3 h K := by
 refine calls_of_D Tryz.func25 (c := B25) rfl (by kernel_rfl) ?_
 refine den_sound hE hm _ (.two .leaf (.two .leaf (.two (.one (.two .leaf (.two .leaf (.two .leaf (.xf N25_j0_t))))) .leaf))) _ _ _ (⟨annOk_leaf, ⟨annOk_leaf, ⟨⟨annOk_leaf, ⟨annOk_leaf, ⟨annOk_leaf, N25_j0_ok⟩⟩⟩, annOk_leaf⟩⟩⟩) ?_
 refine cast ?_ hn
 kernel_rfl
end Go.Proofs.YtbbnpmikjdgdpaaGreat

set_option linter.unusedVariables false
set_option maxRecDepth 100000
namespace Go.Proofs.YtbbnpmikjdgdpaaGreat
open Go Go.Hw
noncomputable def B30 : Code := match Tryz.f30.body with | some c => c | none => .skip
def N30 (x0 : Option Addr) (h : Hp) (K : Int → Hp → Prop) : Prop :=
 nn x0 fun a0 =>
 xI .u32 (cell h a0) fun n0 =>
 K n0 h
theorem S30 {x0 : Option Addr} {h : Hp} {K : Int → Hp → Prop} (hn : N30 x0 h K) : C30 x0 h K := by
 refine calls_of_D Tryz.func30 (c := B30) rfl (by kernel_rfl) ?_
 refine den_sound hE hm _ .leaf _ _ _ (annOk_leaf) ?_
 refine cast ?_ hn
 kernel_rfl
end Go.Proofs.YtbbnpmikjdgdpaaGreat

set_option linter.unusedVariables false
set_option maxRecDepth 100000
namespace Go.Proofs.YtbbnpmikjdgdpaaGreat
open Go Go.Hw
noncomputable def B34 : Code := match Tryz.f34.body with | some c => c | none => .skip
def N34_j0 (x0 : Option Addr) (x1 : Int) (x10 : Bool) (h : Hp) (Kn : Hp → Prop) (Kr : Int → Int → Hp → Prop) : Prop :=
 bif x10 then
 Kr 0 0 h
 else
 nn x0 fun a0 =>
 xI .u32 (cell h a0) fun n0 =>
 xI .u32 (cell h (a0.add 1)) fun n1 =>
 xI .u32 (cell h (a0.add 2)) fun n2 =>
 C51 n0 n1 n2 x1 h fun b0 h0 =>
 bif b0 then
 Kr 1 x1 h0
 else
 nn x0 fun a1 =>
 xI .u32 (cell h0 a1) fun n3 =>
 xI .u32 (cell h0 (a1.add 1)) fun n4 =>
 xI .u32 (cell h0 (a1.add 2)) fun n5 =>
 C52 n3 n4 n5 x1 h0 fun b1 h1 =>
 bif b1 then
 Kr 2 x1 h1
 else
 nn x0 fun a2 =>
 xI .u32 (cell h1 (a2.add 2)) fun n6 =>
 bif (n6 != 0) then
 nn x0 fun a3 =>
 xI .u32 (cell h1 (a3.add 2)) fun n7 =>
 Kr 3 n7 h1
 else
 Kn h1
noncomputable def N34_j0_t : Xf := pieceT [(0, .c (.ptr)), (1, .c (.int .u32)), (10, .c (.bool))] (codeAt B34 [1, 0, 0, 1, 1, 1]) fun x h Q => N34_j0 x.1 x.2.1 x.2.2 h (fun h' => Q .normal (Sg.env [] ()) h') (fun o0 o1 h' => Q .ret (Sg.env [(4, .c (.int .i64)), (5, .c (.int .u32))] (o0, o1)) h')
theorem N34_j0_ok : Sound Tryz.prog Tryz.f34.ntmps N34_j0_t (codeAt B34 [1, 0, 0, 1, 1, 1]) := by
 refine piece_sound (fun e => match e with | .normal => [] | .ret => [4, 5] | _ => []) ?_
 intro x h Q hb
 refine den_sound hE hm _ (.two .leaf (.two .leaf (.two .leaf (.two .leaf (.two .leaf (.two .leaf (.two (.two (.ord [0, 1, 2, 3, 4, 5, 6]) .leaf) .leaf))))))) _ _ _ (⟨annOk_leaf, ⟨annOk_leaf, ⟨annOk_leaf, ⟨annOk_leaf, ⟨annOk_leaf, ⟨annOk_leaf, ⟨⟨trivial, annOk_leaf⟩, annOk_leaf⟩⟩⟩⟩⟩⟩⟩) ?_
 refine cast ?_ hb
 kernel_rfl
def N34 (x0 : Option Addr) (x1 : Int) (h : Hp) (K : Int → Int → Hp → Prop) : Prop :=
 bif (x1 == 4294967295) then
 K 1 x1 h
 else
 nn x0 fun a0 =>
 xI .u32 (cell h a0) fun n0 =>
 xI .u32 (cell h (a0.add 1)) fun n1 =>
 xI .u32 (cell h (a0.add 2)) fun n2 =>
 bif ((n0 == 0) && ((n1 == 0) && ((n2 == 0) && true))) then
 N34_j0 x0 x1 true h
 (fun h0 =>
 K 0 0 h0)
 (fun n3 n4 h1 =>
 K n3 n4 h1)
 else
 C47 x1 h fun b0 h2 =>
 bif (!b0) then
 N34_j0 x0 x1 true h2
 (fun h3 =>
 K 0 0 h3)
 (fun n5 n6 h4 =>
 K n5 n6 h4)
 else
 nn x0 fun a1 =>
 xI .u32 (cell h2 a1) fun n7 =>
 N34_j0 x0 x1 (x1 == n7) h2
 (fun h5 =>
 K 0 0 h5)
 (fun n8 n9 h6 =>
 K n8 n9 h6)
theorem S34 {x0 : Option Addr} {x1 : Int} {h : Hp} {K : Int → Int → Hp → Prop} (hn : N34 x0 x1 h K) : C34 x0 x1 h K := by
 refine calls_of_D Tryz.func34 (c := B34) rfl (by kernel_rfl) ?_
 refine den_sound hE hm _ (.two .leaf (.two (.one (.two .leaf (.two .leaf (.two .leaf (.xf N34_j0_t))))) .leaf)) _ _ _ (⟨annOk_leaf, ⟨⟨annOk_leaf, ⟨annOk_leaf, ⟨annOk_leaf, N34_j0_ok⟩⟩⟩, annOk_leaf⟩⟩) ?_
 refine cast ?_ hn
 kernel_rfl
end Go.Proofs.YtbbnpmikjdgdpaaGreat

set_option linter.unusedVariables false
set_option maxRecDepth 100000
namespace Go.Proofs.YtbbnpmikjdgdpaaGreat
open Go Go.Hw
noncomputable def B71 : Code := match Tryz.f71.body with | some c => c | none => .skip
def N71 (x0 : Option Addr) (x1 : Int) (h : Hp) (K : Bool → Hp → Prop) : Prop :=
 bif (x1 == 4294967295) then
 K true h
 else
 nn x0 fun a0 =>
 xI .u32 (cell h a0) fun n0 =>
 xI .u32 (cell h (a0.add 1)) fun n1 =>
 xI .u32 (cell h (a0.add 2)) fun n2 =>
 bif (!((n0 == 0) && ((n1 == 0) && ((n2 == 0) && true)))) then
 nn x0 fun a1 =>
 xI .u32 (cell h a1) fun n3 =>
 bif (x1 == n3) then
 K true h
 else
 nn x0 fun a2 =>
 xI .u32 (cell h a2) fun n4 =>
 xI .u32 (cell h (a2.add 1)) fun n5 =>
 xI .u32 (cell h (a2.add 2)) fun n6 =>
 C51 n4 n5 n6 x1 h fun b0 h0 =>
 K b0 h0
 else
 K false h
theorem S71 {x0 : Option Addr} {x1 : Int} {h : Hp} {K : Bool → Hp → Prop} (hn : N71 x0 x1 h K) : C71 x0 x1 h K := by
 refine calls_of_D Tryz.func71 (c := B71) rfl (by kernel_rfl) ?_
 refine den_sound hE hm _ .leaf _ _ _ (annOk_leaf) ?_
 refine cast ?_ hn
 kernel_rfl
end Go.Proofs.YtbbnpmikjdgdpaaGreat

set_option linter.unusedVariables false
set_option maxRecDepth 100000
namespace Go.Proofs.YtbbnpmikjdgdpaaGreat
open Go Go.Hw
noncomputable def B49 : Code := match Tryz.f49.body with | some c => c | none => .skip
def N49 (x0_0 x0_1 x0_2 x1 : Int) (h : Hp) (K : Bool → Hp → Prop) : Prop :=
 nw h (.cells ⟨[.int .u32 x0_0, .int .u32 x0_1, .int .u32 x0_2]⟩ 133) fun b0 h0 =>
 xI .u32 (cell h0 (bk b0)) fun n0 =>
 xI .u32 (cell h0 ((bk b0).add 1)) fun n1 =>
 xI .u32 (cell h0 ((bk b0).add 2)) fun n2 =>
 C73 n0 n1 n2 h0 fun n3 n4 b1 h1 =>
 C47 x1 h1 fun b2 h2 =>
 bif b2 then
 xI .u32 (cell h2 (bk b0)) fun n5 =>
 xI .u32 (cell h2 ((bk b0).add 1)) fun n6 =>
 xI .u32 (cell h2 ((bk b0).add 2)) fun n7 =>
 C52 n5 n6 n7 x1 h2 fun b3 h3 =>
 bif b3 then
 bif b1 then
 bif (x1 == n3) then
 K false h3
 else
 K (!(x1 == n4)) h3
 else
 K true h3
 else
 K false h3
 else
 K false h2
theorem S49 {x0_0 x0_1 x0_2 x1 : Int} {h : Hp} {K : Bool → Hp → Prop} (hn : N49 x0_0 x0_1 x0_2 x1 h K) : C49 x0_0 x0_1 x0_2 x1 h K := by
 refine calls_of_D Tryz.func49 (c := B49) rfl (by kernel_rfl) ?_
 refine den_sound hE hm _ .leaf _ _ _ (annOk_leaf) ?_
 refine cast ?_ hn
 kernel_rfl
end Go.Proofs.YtbbnpmikjdgdpaaGreat

set_option linter.unusedVariables false
set_option maxRecDepth 100000
namespace Go.Proofs.YtbbnpmikjdgdpaaGreat
open Go Go.Hw
noncomputable def B51 : Code := match Tryz.f51.body with | some c => c | none => .skip
def N51 (x0_0 x0_1 x0_2 x1 : Int) (h : Hp) (K : Bool → Hp → Prop) : Prop :=
 nw h (.cells ⟨[.int .u32 x0_0, .int .u32 x0_1, .int .u32 x0_2]⟩ 133) fun b0 h0 =>
 xI .u32 (cell h0 (bk b0)) fun n0 =>
 xI .u32 (cell h0 ((bk b0).add 1)) fun n1 =>
 xI .u32 (cell h0 ((bk b0).add 2)) fun n2 =>
 C73 n0 n1 n2 h0 fun n3 n4 b1 h1 =>
 bif b1 then
 K (x1 == n4) h1
 else
 K false h1
theorem S51 {x0_0 x0_1 x0_2 x1 : Int} {h : Hp} {K : Bool → Hp → Prop} (hn : N51 x0_0 x0_1 x0_2 x1 h K) : C51 x0_0 x0_1 x0_2 x1 h K := by
 refine calls_of_D Tryz.func51 (c := B51) rfl (by kernel_rfl) ?_
 refine den_sound hE hm _ .leaf _ _ _ (annOk_leaf) ?_
 refine cast ?_ hn
 kernel_rfl
end Go.Proofs.YtbbnpmikjdgdpaaGreat

set_option linter.unusedVariables false
set_option maxRecDepth 100000
namespace Go.Proofs.YtbbnpmikjdgdpaaGreat
open Go Go.Hw
noncomputable def B52 : Code := match Tryz.f52.body with | some c => c | none => .skip
def N52 (x0_0 x0_1 x0_2 x1 : Int) (h : Hp) (K : Bool → Hp → Prop) : Prop :=
 nw h (.cells ⟨[.int .u32 x0_0, .int .u32 x0_1, .int .u32 x0_2]⟩ 133) fun b0 h0 =>
 xI .u32 (cell h0 (bk b0)) fun n0 =>
 xI .u32 (cell h0 ((bk b0).add 1)) fun n1 =>
 K ((IntKind.wrap .u32 (BitVec.ofInt 32 (IntKind.wrap .u32 (BitVec.ofInt 32 n0 ^^^ BitVec.ofInt 32 x1).toNat) &&& BitVec.ofInt 32 n1).toNat) == 0) h0
theorem S52 {x0_0 x0_1 x0_2 x1 : Int} {h : Hp} {K : Bool → Hp → Prop} (hn : N52 x0_0 x0_1 x0_2 x1 h K) : C52 x0_0 x0_1 x0_2 x1 h K := by
 refine calls_of_D Tryz.func52 (c := B52) rfl (by kernel_rfl) ?_
 refine den_sound hE hm _ .leaf _ _ _ (annOk_leaf) ?_
 refine cast ?_ hn
 kernel_rfl
end Go.Proofs.YtbbnpmikjdgdpaaGreat

set_option linter.unusedVariables false
set_option maxRecDepth 100000
namespace Go.Proofs.YtbbnpmikjdgdpaaGreat
open Go Go.Hw
noncomputable def B73 : Code := match Tryz.f73.body with | some c => c | none => .skip
def N73 (x0_0 x0_1 x0_2 : Int) (h : Hp) (K : Int → Int → Bool → Hp → Prop) : Prop :=
 nw h (.cells ⟨[.int .u32 x0_0, .int .u32 x0_1, .int .u32 x0_2]⟩ 133) fun b0 h0 =>
 xI .u32 (cell h0 (bk b0)) fun n0 =>
 xI .u32 (cell h0 ((bk b0).add 1)) fun n1 =>
 xI .u32 (cell h0 (bk b0)) fun n2 =>
 xI .u32 (cell h0 ((bk b0).add 1)) fun n3 =>
 xI .u32 (cell h0 ((bk b0).add 1)) fun n4 =>
 C72 n4 h0 fun n5 h1 =>
 both (xI .u32 (cell h1 ((bk b0).add 1)) fun n6 => Only (.int .u32 n3) h1 (.int .u32 n6) h1) <|
 both (xI .u32 (cell h1 (bk b0)) fun n7 => Only (.int .u32 n2) h1 (.int .u32 n7) h1) <|
 both (xI .u32 (cell h1 ((bk b0).add 1)) fun n8 => Only (.int .u32 n1) h1 (.int .u32 n8) h1) <|
 both (xI .u32 (cell h1 (bk b0)) fun n9 => Only (.int .u32 n0) h1 (.int .u32 n9) h1) <|
 K (IntKind.wrap .u32 (BitVec.ofInt 32 n0 &&& BitVec.ofInt 32 n1).toNat) (IntKind.wrap .u32 (BitVec.ofInt 32 n2 ||| BitVec.ofInt 32 (IntKind.wrap .u32 (BitVec.ofInt 32 4294967295 ^^^ BitVec.ofInt 32 n3).toNat)).toNat) (decide (n5 < 31)) h1
theorem S73 {x0_0 x0_1 x0_2 : Int} {h : Hp} {K : Int → Int → Bool → Hp → Prop} (hn : N73 x0_0 x0_1 x0_2 h K) : C73 x0_0 x0_1 x0_2 h K := by
 refine calls_of_D Tryz.func73 (c := B73) rfl (by kernel_rfl) ?_
 refine den_sound hE hm _ (.two .leaf (.two (.ord [0, 1, 2, 3, 4, 5, 6, 7, 8, 9, 10, 11, 12, 13, 14, 15, 16, 17]) .leaf)) _ _ _ (⟨annOk_leaf, ⟨trivial, annOk_leaf⟩⟩) ?_
 refine cast ?_ hn
 kernel_rfl
end Go.Proofs.YtbbnpmikjdgdpaaGreat

/-
 Routes: the table in memory; what goes where.
-/
-- (no (*route.Table).Clear)
set_option linter.unusedSimpArgs false
set_option linter.unusedVariables false
set_option maxRecDepth 4000
namespace Go.Proofs.YtbbnpmikjdgdpaaGreat
open Go Go.Hw
structure Net where
 ip : Int
 mask : Int
 router : Int
def Net.ok (n : Net) : Prop := (0 ≤ n.ip ∧ n.ip < 4294967296) ∧ (0 ≤ n.mask ∧ n.mask < 4294967296) ∧ (0 ≤ n.router ∧ n.router < 4294967296)
def and32 (a b : Int) : Int := IntKind.wrap .u32 (BitVec.ofInt 32 a &&& BitVec.ofInt 32 b).toNat
def or32 (a b : Int) : Int := IntKind.wrap .u32 (BitVec.ofInt 32 a ||| BitVec.ofInt 32 b).toNat
def xor32 (a b : Int) : Int := IntKind.wrap .u32 (BitVec.ofInt 32 a ^^^ BitVec.ofInt 32 b).toNat
noncomputable def smallN (n : Net) : Bool := decide (onesOf n.mask.toNat < 31)
def lowN (n : Net) : Int := and32 n.ip n.mask
def highN (n : Net) : Int := or32 n.ip (xor32 4294967295 n.mask)
def hasN (n : Net) (x : Int) : Bool := and32 (xor32 n.ip x) n.mask == 0
noncomputable def bcN (n : Net) (x : Int) : Bool := smallN n && x == highN n
noncomputable def hostN (n : Net) (x : Int) : Bool := isHost x && (hasN n x && !(smallN n && (x == lowN n || x == highN n)))
noncomputable def setN (t : Net) (ip mask router : Int) : Int × Net :=
 if isHost ip = false then (101, t) else if mask = 0 ∨ onesOf mask.toNat < 0 then (100, t) else if hostN ⟨ip, mask, router⟩ ip = false then (101, t) else if router ≠ 0 ∧ (router = ip ∨ hostN ⟨ip, mask, router⟩ router = false) then (102, t) else (0, ⟨ip, mask, router⟩)
noncomputable def takesN (t : Net) (d : Int) : Bool := d == 4294967295 || (!(t.ip == 0 && (t.mask == 0 && t.router == 0)) && (d == t.ip || bcN t d))
noncomputable def hopN (t : Net) (d : Int) : Int × Int :=
 if d = 4294967295 then (1, d) else if (t.ip = 0 ∧ t.mask = 0 ∧ t.router = 0) ∨ isHost d = false ∨ d = t.ip then (0, 0) else if bcN t d then (1, d) else if hasN t d then (2, d) else if t.router ≠ 0 then (3, t.router) else (0, 0)
def netC (n : Net) : List Value := [.int .u32 n.ip, .int .u32 n.mask, .int .u32 n.router]
def tableA (b : Nat) (n : Net) : Asn := row b 135 (netC n)
section
variable {L M : List Asn} {h : Hp} {b : Nat} {n : Net}
theorem c_nends {K : Int → Int → Bool → Hp → Prop} (hm : 0 ≤ n.mask ∧ n.mask < 4294967296) (hK : ∀ h', Ext none' h h' → K (lowN n) (highN n) (smallN n) h') : C73 n.ip n.mask n.router h K := by
 apply S73; unfold N73
 have hs0 : Sat ([Hw.was h] ++ []) h := Sat.start
 refine hs0.nw ?_
 intro z h1 g _
 have g : Sat ([Hw.was h] ++ [row z 133 (netC n)]) h1 := g
 have was_ : Ext none' h h1 := g.left.was (L := []) (M := [Hw.was h]) 0 rfl
 simp only [add_bk]
 refine g.lI 0 (k := 0) rfl rfl ?_
 refine g.lI 0 rfl rfl ?_
 refine g.lI 0 (k := 0) rfl rfl ?_
 refine g.lI 0 rfl rfl ?_
 refine g.lI 0 rfl rfl ?_
 refine c_ones hm.1 hm.2 ?_
 refine ⟨g.lI 0 rfl rfl ⟨rfl, rfl⟩, g.lI 0 (k := 0) rfl rfl ⟨rfl, rfl⟩, g.lI 0 rfl rfl ⟨rfl, rfl⟩, g.lI 0 (k := 0) rfl rfl ⟨rfl, rfl⟩, ?_⟩
 exact hK h1 was_
theorem c_nhas {x : Int} {K : Bool → Hp → Prop} (hK : ∀ h', Ext none' h h' → K (hasN n x) h') : C52 n.ip n.mask n.router x h K := by
 apply S52; unfold N52
 have hs0 : Sat ([Hw.was h] ++ []) h := Sat.start
 refine hs0.nw ?_
 intro z h1 g _
 have g : Sat ([Hw.was h] ++ [row z 133 (netC n)]) h1 := g
 simp only [add_bk]
 refine g.lI 0 (k := 0) rfl rfl ?_
 refine g.lI 0 rfl rfl ?_
 exact hK h1 (g.left.was (L := []) (M := [Hw.was h]) 0 rfl)
theorem c_nbc {x : Int} {K : Bool → Hp → Prop} (hm : 0 ≤ n.mask ∧ n.mask < 4294967296) (hK : ∀ h', Ext none' h h' → K (bcN n x) h') : C51 n.ip n.mask n.router x h K := by
 apply S51; unfold N51
 have hs0 : Sat ([Hw.was h] ++ []) h := Sat.start
 refine hs0.nw ?_
 intro z h1 g _
 have g : Sat ([Hw.was h] ++ [row z 133 (netC n)]) h1 := g
 simp only [add_bk]
 refine g.lI 0 (k := 0) rfl rfl ?_
 refine g.lI 0 rfl rfl ?_
 refine g.lI 0 rfl rfl ?_
 refine c_nends (n := n) hm fun h2 he => ?_
 have := hK h2 ((g.ext he).left.was (L := []) (M := [Hw.was h]) 0 rfl)
 unfold bcN at this
 cases hs : smallN n with
 | true => rw [hs, Bool.true_and] at this; exact this
 | false => rw [hs, Bool.false_and] at this; exact this
theorem c_nhost {x : Int} {K : Bool → Hp → Prop} (hm : 0 ≤ n.mask ∧ n.mask < 4294967296) (hK : ∀ h', Ext none' h h' → K (hostN n x) h') : C49 n.ip n.mask n.router x h K := by
 apply S49; unfold N49
 have hs0 : Sat ([Hw.was h] ++ []) h := Sat.start
 refine hs0.nw ?_
 intro z h1 g _
 have g : Sat ([Hw.was h] ++ [row z 133 (netC n)]) h1 := g
 simp only [add_bk]
 refine g.lI 0 (k := 0) rfl rfl ?_
 refine g.lI 0 rfl rfl ?_
 refine g.lI 0 rfl rfl ?_
 refine c_nends (n := n) hm fun h2 he => ?_
 have g2 := g.ext he
 refine c_isHost ?_
 have fin : ∀ {v : Bool} {h' : Hp}, v = hostN n x → Ext none' h h' → K v h' := by
  rintro v h' rfl he; exact hK h' he
 have w2 : Ext none' h h2 := g2.left.was (L := []) (M := [Hw.was h]) 0 rfl
 cases hh : isHost x with
 | false => rw [cond_false]; exact fin (by simp [hostN, hh]) w2
 | true =>
  rw [cond_true]
  refine g2.lI 0 (k := 0) rfl rfl ?_
  refine g2.lI 0 rfl rfl ?_
  refine g2.lI 0 rfl rfl ?_
  refine c_nhas (n := n) fun h3 he3 => ?_
  have g3 := g2.ext he3
  have w3 : Ext none' h h3 := g3.left.was (L := []) (M := [Hw.was h]) 0 rfl
  cases h4 : hasN n x with
  | false => rw [cond_false]; exact fin (by simp [hostN, h4]) w3
  | true =>
   rw [cond_true]
   cases h5 : smallN n with
   | false => rw [cond_false]; exact fin (by simp [hostN, hh, h4, h5]) w3
   | true =>
    rw [cond_true]
    cases h6 : (x == lowN n) with
    | true => rw [cond_true]; exact fin (by simp [hostN, hh, h4, h5, h6]) w3
    | false => rw [cond_false]; exact fin (by simp [hostN, hh, h4, h5, h6]) w3
theorem c_rnew {K : Option Addr → Hp → Prop} (hs : Sat (L ++ M) h) (hK : ∀ b h', Sat (L ++ (M ++ [tableA b ⟨0, 0, 0⟩])) h' → K (some (bk b)) h') : C21 h K := by
 apply S21; unfold N21
 refine hs.nw ?_
 intro b h1 g _
 exact hK b h1 g
theorem c_rown {K : Int → Hp → Prop} (hs : Sat (L ++ [tableA b n]) h) (hK : K n.ip h) : C30 (some (bk b)) h K := by
 apply S30; unfold N30
 simp only [nn_some']
 exact hs.lI 0 (k := 0) rfl rfl hK
theorem c_rtakes {d : Int} {K : Bool → Hp → Prop} (hs : Sat (L ++ [tableA b n]) h) (ho : n.ok) (hK : ∀ h', Ext none' h h' → K (takesN n d) h') : C71 (some (bk b)) d h K := by
 apply S71; unfold N71
 have fin : ∀ {v : Bool} {h' : Hp}, v = takesN n d → Ext none' h h' → K v h' := by
  rintro v h' rfl he; exact hK h' he
 have id : Ext none' h h := Ext.refl
 cases h1 : (d == 4294967295) with
 | true => rw [cond_true]; exact fin (by simp [takesN, h1]) id
 | false =>
  rw [cond_false]
  simp only [nn_some', add_bk]
  refine hs.lI 0 (k := 0) rfl rfl ?_
  refine hs.lI 0 rfl rfl ?_
  refine hs.lI 0 rfl rfl ?_
  rw [Bool.and_true]
  cases h2 : (n.ip == 0 && (n.mask == 0 && n.router == 0)) with
  | true => rw [Bool.not_true, cond_false]; exact fin (by simp only [takesN, h1, h2]; rfl) id
  | false =>
   rw [Bool.not_false, cond_true]
   refine hs.lI 0 (k := 0) rfl rfl ?_
   cases h3 : (d == n.ip) with
   | true => rw [cond_true]; exact fin (by simp only [takesN, h1, h2, h3]; rfl) id
   | false =>
    rw [cond_false]
    refine hs.lI 0 (k := 0) rfl rfl ?_
    refine hs.lI 0 rfl rfl ?_
    refine hs.lI 0 rfl rfl ?_
    exact c_nbc (n := n) ho.2.1 fun h7 he => fin (by unfold takesN; rw [h1, h2, h3]; simp) he
theorem c_rhop {d : Int} {K : Int → Int → Hp → Prop} (hs : Sat (L ++ [tableA b n]) h) (ho : n.ok) (hK : ∀ h', Ext none' h h' → K (hopN n d).1 (hopN n d).2 h') : C34 (some (bk b)) d h K := by
 apply S34; unfold N34
 have fin : ∀ {v : Int × Int} {h' : Hp}, v = hopN n d → Ext none' h h' → K v.1 v.2 h' := by
  rintro v h' rfl he; exact hK h' he
 have id : Ext none' h h := Ext.refl
 by_cases h1 : d = 4294967295
 ·rw [show (d == 4294967295) = true by simp [h1], cond_true]
  exact fin (v := (1, d)) (by simp [hopN, h1]) id
 ·rw [show (d == 4294967295) = false by simp [h1], cond_false]
  simp only [nn_some', add_bk]
  refine hs.lI 0 (k := 0) rfl rfl ?_
  refine hs.lI 0 rfl rfl ?_
  refine hs.lI 0 rfl rfl ?_
  rw [Bool.and_true]
  unfold N34_j0
  simp only [cond_true, nn_some', add_bk]
  by_cases h2 : n.ip = 0 ∧ n.mask = 0 ∧ n.router = 0
  ·rw [show (n.ip == 0 && (n.mask == 0 && n.router == 0)) = true by simp [h2.1, h2.2.1, h2.2.2], cond_true]
   exact fin (v := (0, 0)) (by unfold hopN; rw [if_neg h1, if_pos (.inl h2)]) id
  ·have e2 : (n.ip == 0 && (n.mask == 0 && n.router == 0)) = false := by
    cases hq : (n.ip == 0 && (n.mask == 0 && n.router == 0)) with
    | false => rfl
    | true => simp at hq; exact absurd hq h2
   rw [e2, cond_false]
   refine c_isHost ?_
   cases h3 : isHost d with
   | false =>
    rw [Bool.not_false, cond_true]
    exact fin (v := (0, 0)) (by unfold hopN; rw [if_neg h1, if_pos (.inr (.inl h3))]) id
   | true =>
    rw [Bool.not_true, cond_false]
    refine hs.lI 0 (k := 0) rfl rfl ?_
    by_cases h4 : d = n.ip
    ·rw [show (d == n.ip) = true by simp [h4], cond_true]
     exact fin (v := (0, 0)) (by unfold hopN; rw [if_neg h1, if_pos (.inr (.inr h4))]) id
    ·rw [show (d == n.ip) = false by simp [h4], cond_false]
     have h5 : ¬((n.ip = 0 ∧ n.mask = 0 ∧ n.router = 0) ∨ isHost d = false ∨ d = n.ip) := by
      rintro (q | q | q)
      ·exact h2 q
      ·rw [h3] at q; cases q
      ·exact h4 q
     have eh : hopN n d = if bcN n d then (1, d) else if hasN n d then (2, d) else if n.router ≠ 0 then (3, n.router) else (0, 0) := by
      unfold hopN; rw [if_neg h1, if_neg h5]
     refine hs.lI 0 (k := 0) rfl rfl ?_
     refine hs.lI 0 rfl rfl ?_
     refine hs.lI 0 rfl rfl ?_
     refine c_nbc (n := n) ho.2.1 fun h6 he6 => ?_
     have g6 := hs.ext he6
     cases h7 : bcN n d with
     | true => rw [cond_true]; exact fin (v := (1, d)) (by rw [eh, h7]; rfl) he6
     | false =>
      rw [cond_false]
      refine g6.lI 0 (k := 0) rfl rfl ?_
      refine g6.lI 0 rfl rfl ?_
      refine g6.lI 0 rfl rfl ?_
      refine c_nhas (n := n) fun h8 he8 => ?_
      have g8 := g6.ext he8
      have w8 := he6.trans he8
      cases h9 : hasN n d with
      | true => rw [cond_true]; exact fin (v := (2, d)) (by rw [eh, h7, h9]; rfl) w8
      | false =>
       rw [cond_false]
       refine g8.lI 0 rfl rfl ?_
       by_cases h10 : n.router = 0
       ·rw [show (n.router != 0) = false by simp [h10], cond_false]
        exact fin (v := (0, 0)) (by rw [eh, h7, h9, if_neg (by decide), if_neg (by decide), if_neg (fun q => q h10)]) w8
       ·rw [show (n.router != 0) = true by simp [h10], cond_true]
        refine g8.lI 0 rfl rfl ?_
        exact fin (v := (3, n.router)) (by rw [eh, h7, h9, if_neg (by decide), if_neg (by decide), if_pos h10]) w8
theorem c_rset {ip mask router : Int} {K : Int → Hp → Prop} (hs : Sat (L ++ [tableA b n]) h) (h1 : 0 ≤ ip ∧ ip < 4294967296) (h2 : 0 ≤ mask ∧ mask < 4294967296) (h3 : 0 ≤ router ∧ router < 4294967296)
  (hK : ∀ h', Sat (L ++ [tableA b (setN n ip mask router).2]) h' → K (setN n ip mask router).1 h') : C25 (some (bk b)) ip mask router h K := by
 apply S25; unfold N25
 have fin : ∀ {v : Int × Net} {h' : Hp}, v = setN n ip mask router → Sat (L ++ [tableA b v.2]) h' → K v.1 h' := by
  rintro v h' rfl g; exact hK h' g
 refine hs.nw ?_
 intro z h4 hs _
 simp only [List.cons_append, List.nil_append] at hs
 simp only [add_bk]
 refine Sat.st hs 1 (k := 0) rfl (by simp) rfl fun h4 hs => ?_
 simp only [List.set_cons_zero, List.set_cons_succ] at hs
 refine Sat.st hs 1 rfl (by simp) rfl fun h4 hs => ?_
 simp only [List.set_cons_zero, List.set_cons_succ] at hs
 refine Sat.st hs 1 rfl (by simp) rfl fun h4 hs => ?_
 simp only [List.set_cons_zero, List.set_cons_succ] at hs
 have g : Sat (L ++ [tableA b n, row z 133 (netC ⟨ip, mask, router⟩)]) h4 := hs
 clear hs
 have old : ∀ {h' : Hp}, Sat (L ++ [tableA b n, row z 133 (netC ⟨ip, mask, router⟩)]) h' → Sat (L ++ [tableA b n]) h' := fun g => g.sel [0] (by decide) rfl
 refine c_isHost ?_
 cases h5 : isHost ip with
 | false => rw [Bool.not_false, cond_true]; exact fin (v := (101, n)) (by unfold setN; rw [if_pos h5]) (old g)
 | true =>
  rw [Bool.not_true, cond_false]
  have e1 : setN n ip mask router = if mask = 0 ∨ onesOf mask.toNat < 0 then (100, n) else if hostN ⟨ip, mask, router⟩ ip = false then (101, n) else if router ≠ 0 ∧ (router = ip ∨ hostN ⟨ip, mask, router⟩ router = false) then (102, n) else (0, ⟨ip, mask, router⟩) := by
   unfold setN; rw [if_neg (by rw [h5]; decide)]
  have put : ∀ {h' : Hp}, Sat (L ++ [tableA b n, row z 133 (netC ⟨ip, mask, router⟩)]) h' → setN n ip mask router = (0, ⟨ip, mask, router⟩) →
    xI .u32 (cell h' (bk z)) fun n0 => xI .u32 (cell h' ((bk z).add 1)) fun n1 => xI .u32 (cell h' ((bk z).add 2)) fun n2 => nn (some (bk b)) fun a0 => st h' a0 (.int .u32 n0) fun h6 => st h6 (a0.add 1) (.int .u32 n1) fun h7 => st h7 (a0.add 2) (.int .u32 n2) fun h8 => K 0 h8 := by
   intro h' g he
   simp only [add_bk, nn_some']
   refine g.lI 1 (k := 0) rfl rfl ?_
   refine g.lI 1 rfl rfl ?_
   refine g.lI 1 rfl rfl ?_
   have hs := g
   unfold tableA netC at hs
   refine Sat.st hs 0 (k := 0) rfl (by simp) rfl fun h4 hs => ?_
   simp only [List.set_cons_zero, List.set_cons_succ] at hs
   refine Sat.st hs 0 rfl (by simp) rfl fun h4 hs => ?_
   simp only [List.set_cons_zero, List.set_cons_succ] at hs
   refine Sat.st hs 0 rfl (by simp) rfl fun h4 hs => ?_
   simp only [List.set_cons_zero, List.set_cons_succ] at hs
   exact fin (v := (0, ⟨ip, mask, router⟩)) he.symm (hs.sel [0] (by decide) rfl)
  have bad : ∀ {h' : Hp} {Kn : Hp → Prop}, Sat (L ++ [tableA b n, row z 133 (netC ⟨ip, mask, router⟩)]) h' → (mask = 0 ∨ onesOf mask.toNat < 0) → N25_j0 (some (bk b)) ip router (some (bk z)) true h' Kn (fun v h => K v h) := by
   intro h' Kn g q
   unfold N25_j0
   rw [cond_true]
   exact fin (v := (100, n)) (by rw [e1, if_pos q]) (old g)
  by_cases h6 : mask = 0
  ·rw [show (mask == 0) = true by simp [h6], cond_true]
   exact bad g (.inl h6)
  ·rw [show (mask == 0) = false by simp [h6], cond_false]
   refine c_isMask h2.1 h2.2 ?_
   by_cases h7 : onesOf mask.toNat < 0
   ·rw [decide_eq_false (by omega), Bool.not_false]
    exact bad g (.inr h7)
   ·rw [decide_eq_true (by omega), Bool.not_true]
    have e2 : setN n ip mask router = if hostN ⟨ip, mask, router⟩ ip = false then (101, n) else if router ≠ 0 ∧ (router = ip ∨ hostN ⟨ip, mask, router⟩ router = false) then (102, n) else (0, ⟨ip, mask, router⟩) := by
     rw [e1, if_neg (by omega)]
    unfold N25_j0
    rw [cond_false]
    simp only [nn_some', add_bk]
    refine g.lI 1 (k := 0) rfl rfl ?_
    refine g.lI 1 rfl rfl ?_
    refine g.lI 1 rfl rfl ?_
    refine c_nhost (n := ⟨ip, mask, router⟩) h2 fun h8 he8 => ?_
    have g8 := g.ext he8
    cases h9 : hostN ⟨ip, mask, router⟩ ip with
    | false => rw [Bool.not_false, cond_true]; exact fin (v := (101, n)) (by rw [e2, if_pos h9]) (old g8)
    | true =>
     rw [Bool.not_true, cond_false]
     have e3 : setN n ip mask router = if router ≠ 0 ∧ (router = ip ∨ hostN ⟨ip, mask, router⟩ router = false) then (102, n) else (0, ⟨ip, mask, router⟩) := by
      rw [e2, if_neg (by rw [h9]; decide)]
     by_cases h10 : router = 0
     ·rw [show (router != 0) = false by simp [h10], cond_false]
      have := put g8 (by rw [e3, if_neg (fun q => q.1 h10)])
      simp only [add_bk, nn_some'] at this
      exact this
     ·rw [show (router != 0) = true by simp [h10], cond_true]
      by_cases h11 : router = ip
      ·rw [show (router == ip) = true by simp [h11], cond_true]
       exact fin (v := (102, n)) (by rw [e3, if_pos ⟨h10, .inl h11⟩]) (old g8)
      ·rw [show (router == ip) = false by simp [h11], cond_false]
       refine g8.lI 1 (k := 0) rfl rfl ?_
       refine g8.lI 1 rfl rfl ?_
       refine g8.lI 1 rfl rfl ?_
       refine c_nhost (n := ⟨ip, mask, router⟩) h2 fun h12 he12 => ?_
       have g12 := g8.ext he12
       cases h13 : hostN ⟨ip, mask, router⟩ router with
       | false => rw [Bool.not_false, cond_true]; exact fin (v := (102, n)) (by rw [e3, if_pos ⟨h10, .inr h13⟩]) (old g12)
       | true =>
        rw [Bool.not_true, cond_false]
        have := put g12 (by rw [e3, if_neg (by rintro ⟨_, q | q⟩; exact h11 q; rw [h13] at q; cases q)])
        simp only [add_bk, nn_some'] at this
        exact this
end
end Go.Proofs.YtbbnpmikjdgdpaaGreat

set_option linter.unusedVariables false
set_option maxRecDepth 100000
namespace Go.Proofs.YtbbnpmikjdgdpaaGreat
open Go Go.Hw
noncomputable def B27 : Code := match Tryz.f27.body with | some c => c | none => .skip
def N27 (x0 : Option Addr) (x1 : Int) (h : Hp) (K : Bool → Hp → Prop) : Prop :=
 nn x0 fun a0 =>
 xM (cell h a0) fun m0 =>
 xMap h m0 fun es0 _ =>
 keyAt (.int .i64) (.int .i64 x1) es0 fun r0 =>
 xP (some (rval r0 (.pointer none))) fun p0 =>
 peq h p0 none fun b0 =>
 K (!b0) h
theorem S27 {x0 : Option Addr} {x1 : Int} {h : Hp} {K : Bool → Hp → Prop} (hn : N27 x0 x1 h K) : C27 x0 x1 h K := by
 refine calls_of_D Tryz.func27 (c := B27) rfl (by kernel_rfl) ?_
 refine den_sound hE hm _ .leaf _ _ _ (annOk_leaf) ?_
 refine cast ?_ hn
 kernel_rfl
end Go.Proofs.YtbbnpmikjdgdpaaGreat

set_option linter.unusedVariables false
set_option maxRecDepth 100000
namespace Go.Proofs.YtbbnpmikjdgdpaaGreat
open Go Go.Hw
noncomputable def B28 : Code := match Tryz.f28.body with | some c => c | none => .skip
def N28 (x0 : Option Addr) (h : Hp) (K : Bool → Hp → Prop) : Prop :=
 nn x0 fun a0 =>
 xM (cell h a0) fun m0 =>
 xMap h m0 fun es0 _ =>
 nn x0 fun a1 =>
 xI .i64 (cell h (a1.add 1)) fun n0 =>
 K (decide ((es0.length : Int) ≥ n0)) h
theorem S28 {x0 : Option Addr} {h : Hp} {K : Bool → Hp → Prop} (hn : N28 x0 h K) : C28 x0 h K := by
 refine calls_of_D Tryz.func28 (c := B28) rfl (by kernel_rfl) ?_
 refine den_sound hE hm _ (.two .leaf (.two (.ord [0, 1, 2, 3, 4, 5, 6, 7, 8, 9, 10]) .leaf)) _ _ _ (⟨annOk_leaf, ⟨trivial, annOk_leaf⟩⟩) ?_
 refine cast ?_ hn
 kernel_rfl
end Go.Proofs.YtbbnpmikjdgdpaaGreat

set_option linter.unusedVariables false
set_option maxRecDepth 100000
namespace Go.Proofs.YtbbnpmikjdgdpaaGreat
open Go Go.Hw
noncomputable def B29 : Code := match Tryz.f29.body with | some c => c | none => .skip
def N29 (x0 : Option Addr) (x1 : Int) (h : Hp) (K : Hp → Prop) : Prop :=
 nn x0 fun a0 =>
 xM (cell h a0) fun m0 =>
 nn x0 fun a1 =>
 xI .i64 (cell h (a1.add 2)) fun n0 =>
 nw h (.cells ⟨[.slice none 0 0, .int .i64 n0, .int .i64 0]⟩ 130) fun b0 h0 =>
 both (xM (cell h0 a0) fun m1 => Only (.map m0) h0 (.map m1) h0) <|
 muK Tryz.prog 123 (.map m0) (.int .i64 x1) (.pointer (some (bk b0))) h0 fun h1 =>
 K h1
theorem S29 {x0 : Option Addr} {x1 : Int} {h : Hp} {K : Hp → Prop} (hn : N29 x0 x1 h K) : C29 x0 x1 h K := by
 refine calls_of_D Tryz.func29 (c := B29) rfl (by kernel_rfl) ?_
 refine den_sound hE hm _ (.ord [0, 1, 2, 3, 4, 5, 6, 7, 8, 9, 10, 11, 12]) _ _ _ (trivial) ?_
 refine cast ?_ hn
 kernel_rfl
end Go.Proofs.YtbbnpmikjdgdpaaGreat

set_option linter.unusedVariables false
set_option maxRecDepth 100000
namespace Go.Proofs.YtbbnpmikjdgdpaaGreat
open Go Go.Hw
noncomputable def B133 : Code := match Tryz.f133.body with | some c => c | none => .skip
def N133 (x0 : Option Addr) (x1_0 x1_1 x1_2 x1_3 : Int) (x1_4 : Sl) (h : Hp) (K : Bool → Hp → Prop) : Prop :=
 nw h (.cells ⟨[.int .u32 x1_0, .int .u32 x1_1, .int .i64 x1_2, .int .i64 x1_3, .slice x1_4.p x1_4.n x1_4.c]⟩ 36) fun b0 h0 =>
 nn x0 fun a0 =>
 xL (cell h0 a0) fun s0 =>
 nn x0 fun a1 =>
 xI .i64 (cell h0 (a1.add 1)) fun n0 =>
 bif (decide (((s0.n : Nat) : Int) ≥ n0)) then
 K false h0
 else
 nn x0 fun a2 =>
 xL (cell h0 a2) fun s1 =>
 xI .u32 (cell h0 (bk b0)) fun n1 =>
 xI .u32 (cell h0 ((bk b0).add 1)) fun n2 =>
 xI .i64 (cell h0 ((bk b0).add 2)) fun n3 =>
 xI .i64 (cell h0 ((bk b0).add 3)) fun n4 =>
 xL (cell h0 ((bk b0).add 4)) fun s2 =>
 nw h0 (.cells ⟨[.int .u32 n1, .int .u32 n2, .int .i64 n3, .int .i64 n4, .slice s2.p s2.n s2.c]⟩ 36) fun b1 h1 =>
 both (xL (cell h1 a2) fun s3 => Only (.slice s1.p s1.n s1.c) h1 (.slice s3.p s3.n s3.c) h1) <|
 apK Tryz.prog 36 s1 (.slice (some (bk b1)) 1 1) h1 fun s4 h2 =>
 nn x0 fun a3 =>
 st h2 a3 (.slice s4.p s4.n s4.c) fun h3 =>
 K true h3
theorem S133 {x0 : Option Addr} {x1_0 x1_1 x1_2 x1_3 : Int} {x1_4 : Sl} {h : Hp} {K : Bool → Hp → Prop} (hn : N133 x0 x1_0 x1_1 x1_2 x1_3 x1_4 h K) : C133 x0 x1_0 x1_1 x1_2 x1_3 x1_4 h K := by
 refine calls_of_D Tryz.func133 (c := B133) rfl (by kernel_rfl) ?_
 refine den_sound hE hm _ (.two .leaf (.two (.two (.ord [0, 1, 2, 3, 4, 5, 6, 7, 8, 9]) .leaf) (.two (.ord [0, 1, 2, 3, 4, 5, 6, 7, 8, 9, 10]) .leaf))) _ _ _ (⟨annOk_leaf, ⟨⟨trivial, annOk_leaf⟩, ⟨trivial, annOk_leaf⟩⟩⟩) ?_
 refine cast ?_ hn
 kernel_rfl
end Go.Proofs.YtbbnpmikjdgdpaaGreat

set_option linter.unusedVariables false
set_option maxRecDepth 100000
namespace Go.Proofs.YtbbnpmikjdgdpaaGreat
open Go Go.Hw
noncomputable def B46 : Code := match Tryz.f46.body with | some c => c | none => .skip
def N46 (x0 : Option Addr) (h : Hp) (K : Int → Int → Int → Int → Sl → Bool → Hp → Prop) : Prop :=
 nw h (.cells ⟨[.int .u32 0, .int .u32 0, .int .i64 0, .int .i64 0, .slice none 0 0]⟩ 36) fun b0 h0 =>
 nw h0 (.cells ⟨[.int .u32 0, .int .u32 0, .int .i64 0, .int .i64 0, .slice none 0 0]⟩ 36) fun b1 h1 =>
 nn x0 fun a0 =>
 xL (cell h1 a0) fun s0 =>
 bif (((s0.n : Nat) : Int) == 0) then
 xI .u32 (cell h1 (bk b1)) fun n0 =>
 xI .u32 (cell h1 ((bk b1).add 1)) fun n1 =>
 xI .i64 (cell h1 ((bk b1).add 2)) fun n2 =>
 xI .i64 (cell h1 ((bk b1).add 3)) fun n3 =>
 xL (cell h1 ((bk b1).add 4)) fun s1 =>
 st h1 (bk b0) (.int .u32 n0) fun h2 =>
 st h2 ((bk b0).add 1) (.int .u32 n1) fun h3 =>
 st h3 ((bk b0).add 2) (.int .i64 n2) fun h4 =>
 st h4 ((bk b0).add 3) (.int .i64 n3) fun h5 =>
 st h5 ((bk b0).add 4) (.slice s1.p s1.n s1.c) fun h6 =>
 xI .u32 (cell h6 (bk b0)) fun n4 =>
 xI .u32 (cell h6 ((bk b0).add 1)) fun n5 =>
 xI .i64 (cell h6 ((bk b0).add 2)) fun n6 =>
 xI .i64 (cell h6 ((bk b0).add 3)) fun n7 =>
 xL (cell h6 ((bk b0).add 4)) fun s2 =>
 K n4 n5 n6 n7 s2 false h6
 else
 nn x0 fun a1 =>
 xL (cell h1 a1) fun s3 =>
 idx 0 s3.n <|
 nn s3.p fun a2 =>
 xI .u32 (cell h1 (a2.add ((0 : Int).toNat * 5))) fun n8 =>
 xI .u32 (cell h1 ((a2.add ((0 : Int).toNat * 5)).add 1)) fun n9 =>
 xI .i64 (cell h1 ((a2.add ((0 : Int).toNat * 5)).add 2)) fun n10 =>
 xI .i64 (cell h1 ((a2.add ((0 : Int).toNat * 5)).add 3)) fun n11 =>
 xL (cell h1 ((a2.add ((0 : Int).toNat * 5)).add 4)) fun s4 =>
 nn x0 fun a3 =>
 xL (cell h1 a3) fun s5 =>
 bd 1 s5.n fun k0 =>
 st h1 (bk b1) (.int .u32 n8) fun h7 =>
 st h7 ((bk b1).add 1) (.int .u32 n9) fun h8 =>
 st h8 ((bk b1).add 2) (.int .i64 n10) fun h9 =>
 st h9 ((bk b1).add 3) (.int .i64 n11) fun h10 =>
 st h10 ((bk b1).add 4) (.slice s4.p s4.n s4.c) fun h11 =>
 both (xL (cell h11 a3) fun s6 => Only (.slice s5.p s5.n s5.c) h11 (.slice s6.p s6.n s6.c) h11) <|
 nn x0 fun a4 =>
 st h11 a4 (.slice (sadr s5.p s5.c k0 5) (s5.n - k0) (s5.c - k0)) fun h12 =>
 xI .u32 (cell h12 (bk b1)) fun n12 =>
 xI .u32 (cell h12 ((bk b1).add 1)) fun n13 =>
 xI .i64 (cell h12 ((bk b1).add 2)) fun n14 =>
 xI .i64 (cell h12 ((bk b1).add 3)) fun n15 =>
 xL (cell h12 ((bk b1).add 4)) fun s7 =>
 st h12 (bk b0) (.int .u32 n12) fun h13 =>
 st h13 ((bk b0).add 1) (.int .u32 n13) fun h14 =>
 st h14 ((bk b0).add 2) (.int .i64 n14) fun h15 =>
 st h15 ((bk b0).add 3) (.int .i64 n15) fun h16 =>
 st h16 ((bk b0).add 4) (.slice s7.p s7.n s7.c) fun h17 =>
 xI .u32 (cell h17 (bk b0)) fun n16 =>
 xI .u32 (cell h17 ((bk b0).add 1)) fun n17 =>
 xI .i64 (cell h17 ((bk b0).add 2)) fun n18 =>
 xI .i64 (cell h17 ((bk b0).add 3)) fun n19 =>
 xL (cell h17 ((bk b0).add 4)) fun s8 =>
 K n16 n17 n18 n19 s8 true h17
theorem S46 {x0 : Option Addr} {h : Hp} {K : Int → Int → Int → Int → Sl → Bool → Hp → Prop} (hn : N46 x0 h K) : C46 x0 h K := by
 refine calls_of_M Tryz.func46 (c := B46) rfl (by kernel_rfl) ?_
 refine den_sound hE hm _ (.two .leaf (.two .leaf (.two .leaf (.two (.ord [0, 1, 2, 3, 4, 5, 6, 7, 8, 9, 10, 11, 12, 13, 14, 15]) .leaf)))) _ _ _ (⟨annOk_leaf, ⟨annOk_leaf, ⟨annOk_leaf, ⟨trivial, annOk_leaf⟩⟩⟩⟩) ?_
 refine cast ?_ hn
 kernel_rfl
end Go.Proofs.YtbbnpmikjdgdpaaGreat

/-
 Ports: the state of a table; the program's table in memory; the small functions.
-/
set_option linter.unusedSimpArgs false
set_option linter.unusedVariables false
set_option maxRecDepth 20000
namespace Go.Proofs.YtbbnpmikjdgdpaaGreat
open Go Go.Hw
structure Dg where
 a : Int
 b : Int
 c : Int
 d : Int
 data : List UInt8
structure PS where
 n : Int
 l : List Dg
 dr : Int
structure Tb where
 most : Int
 depth : Int
 ps : List PS
def newP (n : Int) : PS := ⟨n, [], 0⟩
def findP (n : Int) (ps : List PS) : Option PS := ps.find? fun p => p.n == n
def updP (n : Int) (f : PS → PS) (ps : List PS) : List PS := ps.map fun p => if p.n = n then f p else p
def addP (n : Int) : List PS → List PS
 | [] => [newP n]
 | p :: l => if p.n > n then newP n :: p :: l else p :: addP n l
def NodN (ps : List PS) : Prop := ps.Pairwise fun p q => p.n ≠ q.n
theorem NodN.perm {a b : List PS} (h : a.Perm b) : NodN a ↔ NodN b := h.pairwise_iff fun h e => h e.symm
theorem addP_perm (n : Int) : ∀ ps : List PS, (addP n ps).Perm (newP n :: ps)
 | [] => List.Perm.refl _
 | p :: l => by
  unfold addP
  split
  ·exact List.Perm.refl _
  ·exact ((addP_perm n l).cons p).trans (List.Perm.swap _ _ _)
theorem findP_some {n : Int} {ps : List PS} {p : PS} (h : findP n ps = some p) : p ∈ ps ∧ p.n = n := by
 have h1 := List.mem_of_find?_eq_some h
 have h2 := List.find?_some h
 exact ⟨h1, by simpa using h2⟩
theorem findP_none {n : Int} {ps : List PS} (h : findP n ps = none) : ∀ p ∈ ps, p.n ≠ n := by
 intro p hp
 have := List.find?_eq_none.1 h p hp
 simpa using this
theorem findP_of {n : Int} {ps : List PS} (hn : NodN ps) {p : PS} (hp : p ∈ ps) (e : p.n = n) : findP n ps = some p := by
 cases hf : findP n ps with
 | none => exact absurd e (findP_none hf p hp)
 | some q =>
  obtain ⟨h1, h2⟩ := findP_some hf
  by_cases hq : q = p
  ·rw [hq]
  ·obtain ⟨i, hi, rfl⟩ := List.getElem_of_mem hp
   obtain ⟨k, hk, rfl⟩ := List.getElem_of_mem h1
   have hne : i ≠ k := by rintro rfl; exact hq rfl
   exfalso
   rcases Nat.lt_or_gt_of_ne hne with hlt | hlt
   ·exact List.pairwise_iff_getElem.1 hn i k hi hk hlt (e.trans h2.symm)
   ·exact List.pairwise_iff_getElem.1 hn k i hk hi hlt (h2.trans e.symm)
theorem set_updP {n : Int} {f : PS → PS} : ∀ {ps : List PS}, NodN ps → ∀ {j : Nat} {p : PS}, ps[j]? = some p → p.n = n → ps.set j (f p) = updP n f ps := by
 intro ps
 induction ps with
 | nil => intro _ j p h; simp at h
 | cons q ps ih =>
  intro hn j p h e
  obtain ⟨h1, h2⟩ := List.pairwise_cons.1 hn
  cases j with
  | zero =>
   simp at h; subst h
   simp only [List.set_cons_zero, updP, List.map_cons, e, if_true]
   congr 1
   have : ∀ x ∈ ps, (if x.n = n then f x else x) = x := fun x hx => if_neg fun q => h1 x hx (e.trans q.symm)
   rw [List.map_congr_left this, List.map_id']
  | succ j =>
   simp at h
   have := ih h2 h e
   have hq : ¬ q.n = n := fun w => h1 p (List.mem_of_getElem? h) (w.trans e.symm)
   simp only [List.set_cons_succ, this, updP, List.map_cons, if_neg hq]
abbrev Qd := Dg × Sl
def dgc (x : Qd) : List Value := [.int .u32 x.1.a, .int .u32 x.1.b, .int .i64 x.1.c, .int .i64 x.1.d, x.2.v]
def dgs (l : List Qd) : List Value := l.flatMap dgc
theorem dgs_len (l : List Qd) : (dgs l).length = l.length * 5 := by
 induction l with
 | nil => rfl
 | cons x l ih => show (dgc x ++ dgs l).length = _; rw [List.length_append, ih]; simp [dgc]; omega
theorem dgs_app (l m : List Qd) : dgs (l ++ m) = dgs l ++ dgs m := by simp [dgs]
theorem dgs_plain {l : List Qd} : ∀ v ∈ dgs l, plain v = true := by
 intro v hv
 obtain ⟨x, _, hx⟩ := List.mem_flatMap.1 hv
 simp [dgc] at hx
 rcases hx with rfl | rfl | rfl | rfl | rfl <;> rfl
def datA (x : Qd) : Asn := Hw.own 5 1 x.2 (bc x.1.data)
def placeA (depth : Int) (q : Nat) (p : PS) : Asn := exs fun z : Sl × List Qd => star [row q 130 [z.1.v, .int .i64 depth, .int .i64 p.dr], tailA 36 5 z.1 (dgs z.2), star (z.2.map datA), pur (z.2.map Prod.fst = p.l)]
def ptrs (E : List (Nat × PS)) : KV := E.map fun e => (e.2.n, .pointer (some (bk e.1)))
def portsA (b : Nat) (t : Tb) : Asn := exs fun x : Nat × List (Nat × PS) => star [row b 125 [.map (some x.1), .int .i64 t.most, .int .i64 t.depth], mapA .i64 x.1 (ptrs x.2), star (x.2.map fun e => placeA t.depth e.1 e.2), pur ((x.2.map Prod.snd).Perm t.ps)]
theorem unexP {α : Type} {L : List Asn} {A : α → Asn} {h : Hp} (hs : Sat (L ++ [exs A]) h) : ∃ a, Sat (L ++ [A a]) h := by
 obtain ⟨F, h1, h2⟩ := hs
 obtain ⟨a, ha⟩ := h1 L.length (exs A) (by simp)
 refine ⟨a, F, fun i B hi => ?_, by simpa using h2⟩
 by_cases e : i < L.length
 ·rw [List.getElem?_append_left e] at hi
  exact h1 i B (by rw [List.getElem?_append_left e]; exact hi)
 ·have := lt_of_get hi
  simp at this
  have : i = L.length := by omega
  subst this
  simp at hi; subst hi; exact ha
theorem exP {α : Type} {L : List Asn} {A : α → Asn} {h : Hp} (a : α) (hs : Sat (L ++ [A a]) h) : Sat (L ++ [exs A]) h := hs.imp 0 rfl fun F hF => ⟨a, hF⟩
theorem Sat.addPur {L M : List Asn} {h : Hp} {p : Prop} (hs : Sat (L ++ M) h) (hp : p) : Sat (L ++ (M ++ [Hw.pur p])) h :=
 Hw.Sat.add hs Ext.refl (F' := fun _ => False) ⟨fun x e => e, hp⟩ (fun x e => e.elim)
theorem ports_open {L : List Asn} {b : Nat} {t : Tb} {h : Hp} (hs : Sat (L ++ [portsA b t]) h) :
  ∃ m E, Sat (L ++ [row b 125 [.map (some m), .int .i64 t.most, .int .i64 t.depth], mapA .i64 m (ptrs E), star (E.map fun e => placeA t.depth e.1 e.2)]) h ∧ (E.map Prod.snd).Perm t.ps := by
 obtain ⟨⟨m, E⟩, hs⟩ := unexP hs
 have hs : Sat (L ++ [star [row b 125 [.map (some m), .int .i64 t.most, .int .i64 t.depth], mapA .i64 m (ptrs E), star (E.map fun e => placeA t.depth e.1 e.2), pur ((E.map Prod.snd).Perm t.ps)]]) h := hs
 have hs := hs.open
 exact ⟨m, E, hs.sel [0, 1, 2] (by decide) rfl, hs.pur 3 rfl⟩
theorem ports_shut {L : List Asn} {b m : Nat} {t : Tb} {E : List (Nat × PS)} {h : Hp} (hs : Sat (L ++ [row b 125 [.map (some m), .int .i64 t.most, .int .i64 t.depth], mapA .i64 m (ptrs E), star (E.map fun e => placeA t.depth e.1 e.2)]) h) (hp : (E.map Prod.snd).Perm t.ps) : Sat (L ++ [portsA b t]) h := by
 have h1 : Sat (L ++ [row b 125 [.map (some m), .int .i64 t.most, .int .i64 t.depth], mapA .i64 m (ptrs E), star (E.map fun e => placeA t.depth e.1 e.2), pur ((E.map Prod.snd).Perm t.ps)]) h := Sat.addPur hs hp
 have h2 := h1.close
 unfold portsA
 exact exP (m, E) h2
theorem place_open {L : List Asn} {depth : Int} {q : Nat} {p : PS} {h : Hp} (hs : Sat (L ++ [placeA depth q p]) h) :
  ∃ z Q, Sat (L ++ [row q 130 [z.v, .int .i64 depth, .int .i64 p.dr], tailA 36 5 z (dgs Q), star (Q.map datA)]) h ∧ Q.map Prod.fst = p.l := by
 obtain ⟨⟨z, Q⟩, hs⟩ := unexP hs
 have hs : Sat (L ++ [star [row q 130 [z.v, .int .i64 depth, .int .i64 p.dr], tailA 36 5 z (dgs Q), star (Q.map datA), pur (Q.map Prod.fst = p.l)]]) h := hs
 have hs := hs.open
 exact ⟨z, Q, hs.sel [0, 1, 2] (by decide) rfl, hs.pur 3 rfl⟩
theorem place_shut {L : List Asn} {depth : Int} {q : Nat} {p : PS} {z : Sl} {Q : List Qd} {h : Hp} (hs : Sat (L ++ [row q 130 [z.v, .int .i64 depth, .int .i64 p.dr], tailA 36 5 z (dgs Q), star (Q.map datA)]) h) (hp : Q.map Prod.fst = p.l) : Sat (L ++ [placeA depth q p]) h := by
 have h1 : Sat (L ++ [row q 130 [z.v, .int .i64 depth, .int .i64 p.dr], tailA 36 5 z (dgs Q), star (Q.map datA), pur (Q.map Prod.fst = p.l)]) h := Sat.addPur hs hp
 have h2 := h1.close
 unfold placeA
 exact exP (z, Q) h2
theorem ptrs_case (n : Int) : ∀ E : List (Nat × PS),
  ((∀ e ∈ E, e.2.n ≠ n) ∧ kvFind n (ptrs E) = none ∧ (∀ q, kvSet n (.pointer (some (bk q))) (ptrs E) = ptrs (E ++ [(q, newP n)])) ∧ kvDel n (ptrs E) = ptrs E) ∨
  (∃ (j : Nat) (e : Nat × PS), E[j]? = some e ∧ e.2.n = n ∧ kvFind n (ptrs E) = some (.pointer (some (bk e.1))) ∧ kvDel n (ptrs E) = ptrs (E.eraseIdx j)) := by
 intro E
 induction E with
 | nil => exact .inl ⟨by simp, rfl, fun q => rfl, rfl⟩
 | cons e E ih =>
  by_cases e1 : n = e.2.n
  ·exact .inr ⟨0, e, rfl, e1.symm, by simp [ptrs, kvFind, e1], by simp [ptrs, kvDel, e1]⟩
  ·rcases ih with ⟨h1, h2, h3, h4⟩ | ⟨j, f, h1, h2, h3, h4⟩
   ·refine .inl ⟨?_, ?_, fun q => ?_, ?_⟩
    ·intro x hx
     rcases List.mem_cons.1 hx with rfl | hx
     ·exact fun w => e1 w.symm
     ·exact h1 x hx
    ·simp only [ptrs, List.map_cons, kvFind, e1, if_false]; exact h2
    ·have := h3 q
     simp only [ptrs] at this
     simp only [ptrs, List.map_cons, kvSet, e1, if_false, this, List.cons_append]
    ·simp only [ptrs] at h4
     simp only [ptrs, List.map_cons, kvDel, e1, if_false, h4]
   ·refine .inr ⟨j + 1, f, by simpa using h1, h2, ?_, ?_⟩
    ·simp only [ptrs, List.map_cons, kvFind, e1, if_false]; exact h3
    ·simp only [ptrs] at h4
     simp only [ptrs, List.map_cons, kvDel, e1, if_false, h4, List.eraseIdx_cons_succ]
theorem find_case {n : Int} {E : List (Nat × PS)} {ps : List PS} (hp : (E.map Prod.snd).Perm ps) (hn : NodN ps) :
  (findP n ps = none ∧ kvFind n (ptrs E) = none ∧ (∀ q, kvSet n (.pointer (some (bk q))) (ptrs E) = ptrs (E ++ [(q, newP n)])) ∧ kvDel n (ptrs E) = ptrs E) ∨
  (∃ (j : Nat) (e : Nat × PS), E[j]? = some e ∧ e.2.n = n ∧ findP n ps = some e.2 ∧ kvFind n (ptrs E) = some (.pointer (some (bk e.1))) ∧ kvDel n (ptrs E) = ptrs (E.eraseIdx j)) := by
 rcases ptrs_case n E with ⟨h1, h2⟩ | ⟨j, e, h1, h2, h3, h4⟩
 ·refine .inl ⟨?_, h2⟩
  cases hf : findP n ps with
  | none => rfl
  | some p =>
   obtain ⟨q1, q2⟩ := findP_some hf
   obtain ⟨e, he, rfl⟩ := List.mem_map.1 (hp.mem_iff.2 q1)
   exact absurd q2 (h1 e he)
 ·exact .inr ⟨j, e, h1, h2, findP_of hn (hp.mem_iff.1 (List.mem_map.2 ⟨e, List.mem_of_getElem? h1, rfl⟩)) h2, h3, h4⟩
theorem p_is {L : List Asn} {b : Nat} {t : Tb} {n : Int} {h : Hp} {K : Bool → Hp → Prop} (hs : Sat (L ++ [portsA b t]) h) (hn : NodN t.ps) (hK : K (findP n t.ps).isSome h) : C27 (some (bk b)) n h K := by
 apply S27; unfold N27
 obtain ⟨m, E, hs, hp⟩ := ports_open hs
 simp only [nn_some']
 refine hs.lM 0 rfl rfl ?_
 refine hs.lookup 1 rfl ?_
 intro r hr
 rw [rval_kv hr]
 rcases find_case (n := n) hp hn with ⟨h1, h2, _⟩ | ⟨j, e, _, _, h1, h2, _⟩
 ·rw [h2]
  rw [h1] at hK
  exact hK
 ·rw [h2]
  rw [h1] at hK
  exact hK
theorem p_full {L : List Asn} {b : Nat} {t : Tb} {h : Hp} {K : Bool → Hp → Prop} (hs : Sat (L ++ [portsA b t]) h) (hK : K (decide (t.most ≤ (t.ps.length : Int))) h) : C28 (some (bk b)) h K := by
 apply S28; unfold N28
 obtain ⟨m, E, hs, hp⟩ := ports_open hs
 simp only [nn_some', add_bk]
 refine hs.lM 0 rfl rfl ?_
 refine hs.xMap 1 rfl ?_
 intro es c he
 refine hs.lI 0 rfl rfl ?_
 have h1 := he.len
 have h2 := hp.length_eq
 rw [List.length_map] at h2
 have h3 : (ptrs E).length = E.length := by simp [ptrs]
 rw [h1, h3, h2]; exact hK
theorem p_begin {L : List Asn} {b : Nat} {t : Tb} {n : Int} {h : Hp} {K : Hp → Prop} (hs : Sat (L ++ [portsA b t]) h) (hn : NodN t.ps) (hf : findP n t.ps = none)
  (hK : ∀ h', Sat (L ++ [portsA b { t with ps := addP n t.ps }]) h' → K h') : C29 (some (bk b)) n h K := by
 apply S29; unfold N29
 obtain ⟨m, E, hs, hp⟩ := ports_open hs
 simp only [nn_some', add_bk]
 refine hs.lM 0 rfl rfl ?_
 refine hs.lI 0 rfl rfl ?_
 intro q e0
 have hs1 := hs.new e0 (.cells ⟨[.slice none 0 0, .int .i64 t.depth, .int .i64 0]⟩ 130 (0, 0))
 revert hs1
 generalize upd h q _ = h1
 intro hs1
 have hs1 : Sat (L ++ [row b 125 [.map (some m), .int .i64 t.most, .int .i64 t.depth], mapA .i64 m (ptrs E), star (E.map fun e => placeA t.depth e.1 e.2), row q 130 [.slice none 0 0, .int .i64 t.depth, .int .i64 0]]) h1 := hs1
 refine ⟨hs1.lM 0 rfl rfl ⟨rfl, rfl⟩, ?_⟩
 refine hs1.muK 1 rfl (kt := 3) (et := 122) (by kernel_rfl) (by kernel_rfl) ?_
 intro h2 hs2
 rcases find_case (n := n) hp hn with ⟨_, _, h3, _⟩ | ⟨j, e, _, _, h4, _⟩
 ·rw [h3 q] at hs2
  have hs2 : Sat (L ++ [row b 125 [.map (some m), .int .i64 t.most, .int .i64 t.depth], mapA .i64 m (ptrs (E ++ [(q, newP n)])), star (E.map fun e => placeA t.depth e.1 e.2), row q 130 [.slice none 0 0, .int .i64 t.depth, .int .i64 0]]) h2 := hs2
  refine hK _ (ports_shut (m := m) (E := E ++ [(q, newP n)]) ?_ ?_)
  ·have g1 := hs2.addNilT 36 5 none
   have g2 : Sat ((L ++ [row b 125 [.map (some m), .int .i64 t.most, .int .i64 t.depth], mapA .i64 m (ptrs (E ++ [(q, newP n)])), star (E.map fun e => placeA t.depth e.1 e.2)]) ++ [row q 130 [(⟨none, 0, 0⟩ : Sl).v, .int .i64 t.depth, .int .i64 (newP n).dr], tailA 36 5 ⟨none, 0, 0⟩ (dgs [])]) h2 := Sat.csa g1
   have g3 : Sat ((L ++ [row b 125 [.map (some m), .int .i64 t.most, .int .i64 t.depth], mapA .i64 m (ptrs (E ++ [(q, newP n)])), star (E.map fun e => placeA t.depth e.1 e.2)]) ++ [row q 130 [(⟨none, 0, 0⟩ : Sl).v, .int .i64 t.depth, .int .i64 (newP n).dr], tailA 36 5 ⟨none, 0, 0⟩ (dgs []), star (([] : List Qd).map datA)]) h2 := by
    have a1 : Sat (((L ++ [row b 125 [.map (some m), .int .i64 t.most, .int .i64 t.depth], mapA .i64 m (ptrs (E ++ [(q, newP n)])), star (E.map fun e => placeA t.depth e.1 e.2)]) ++ [row q 130 [(⟨none, 0, 0⟩ : Sl).v, .int .i64 t.depth, .int .i64 (newP n).dr], tailA 36 5 ⟨none, 0, 0⟩ (dgs [])]) ++ []) h2 := by rw [List.append_nil]; exact g2
    exact Sat.asc a1.close
   have g4 := place_shut (p := newP n) g3 rfl
   have g5 : Sat ((L ++ [row b 125 [.map (some m), .int .i64 t.most, .int .i64 t.depth], mapA .i64 m (ptrs (E ++ [(q, newP n)]))]) ++ [star (E.map fun e => placeA t.depth e.1 e.2), placeA t.depth q (newP n)]) h2 := Sat.mv g4
   have g6 := g5.into
   have g7 : Sat (L ++ [row b 125 [.map (some m), .int .i64 t.most, .int .i64 t.depth], mapA .i64 m (ptrs (E ++ [(q, newP n)])), star ((E.map fun e => placeA t.depth e.1 e.2) ++ [placeA t.depth q (newP n)])]) h2 := Sat.asc g6
   rw [show ((E.map fun e => placeA t.depth e.1 e.2) ++ [placeA t.depth q (newP n)]) = ((E ++ [(q, newP n)]).map fun e => placeA t.depth e.1 e.2) by simp] at g7
   exact g7
  ·rw [List.map_append]
   show (E.map Prod.snd ++ [newP n]).Perm (addP n t.ps)
   exact (List.perm_append_comm).trans (((hp.cons (newP n))).trans (addP_perm n t.ps).symm)
 ·rw [hf] at h4; cases h4
theorem c_qput {L : List Asn} {q : Nat} {p : PS} {depth : Int} {d : Dg} {s : Sl} {h : Hp} {K : Bool → Hp → Prop} (hs : Sat (L ++ [placeA depth q p, datA (d, s)]) h) (hl : p.l.length ≤ 1000000)
  (hfull : depth ≤ (p.l.length : Int) → ∀ h', Sat (L ++ [placeA depth q p, datA (d, s)]) h' → K false h')
  (hK : (p.l.length : Int) < depth → ∀ h', Sat (L ++ [placeA depth q { p with l := p.l ++ [d] }]) h' → K true h') : C133 (some (bk q)) d.a d.b d.c d.d s h K := by
 apply S133; unfold N133
 intro b0 e0
 have hs0 : Sat ((L ++ [datA (d, s)]) ++ [placeA depth q p]) h := Sat.csa (hs.sel [1, 0] (by decide) rfl)
 obtain ⟨z, Q, hs1, hq⟩ := place_open hs0
 have hs1 := hs1.new e0 (.cells ⟨[.int .u32 d.a, .int .u32 d.b, .int .i64 d.c, .int .i64 d.d, .slice s.p s.n s.c]⟩ 36 (0, 0))
 have hs := hs.ext (Ext.new (o := .cells ⟨[.int .u32 d.a, .int .u32 d.b, .int .i64 d.c, .int .i64 d.d, .slice s.p s.n s.c]⟩ 36 (0, 0)) e0)
 revert hs1 hs
 generalize upd h b0 _ = h1
 intro hs1 hs
 have hs1 : Sat (L ++ [datA (d, s), row q 130 [z.v, .int .i64 depth, .int .i64 p.dr], tailA 36 5 z (dgs Q), star (Q.map datA), row b0 36 [.int .u32 d.a, .int .u32 d.b, .int .i64 d.c, .int .i64 d.d, s.v]]) h1 := Sat.asc hs1
 have zn : z.n = p.l.length := by have := (hs1.tail 2 rfl).1; rw [dgs_len] at this; rw [← hq, List.length_map]; omega
 simp only [nn_some', add_bk]
 refine hs1.lL 1 rfl rfl ?_
 refine hs1.lI 1 rfl rfl ?_
 by_cases hd : depth ≤ (p.l.length : Int)
 ·have : decide (((z.n : Nat) : Int) ≥ depth) = true := by rw [zn]; simpa using hd
  rw [this, cond_true]
  exact hfull hd _ hs
 ·have : decide (((z.n : Nat) : Int) ≥ depth) = false := by rw [zn]; simpa using hd
  rw [this, cond_false]
  refine hs1.lL 1 rfl rfl ?_
  refine hs1.lI 4 rfl rfl ?_
  refine hs1.lI 4 rfl rfl ?_
  refine hs1.lI 4 rfl rfl ?_
  refine hs1.lI 4 rfl rfl ?_
  refine hs1.lL 4 rfl rfl ?_
  intro b1 e1
  have hs2 := hs1.ext (Ext.new (o := .cells ⟨[.int .u32 d.a, .int .u32 d.b, .int .i64 d.c, .int .i64 d.d, .slice s.p s.n s.c]⟩ 36 (0, 0)) e1)
  have hb : Blk (upd h1 b1 (.cells ⟨[.int .u32 d.a, .int .u32 d.b, .int .i64 d.c, .int .i64 d.d, .slice s.p s.n s.c]⟩ 36 (0, 0))) b1 36 (dgs [(d, s)]) := Blk.upd_same
  revert hs2 hb
  generalize upd h1 b1 _ = h2
  intro hs2 hb
  refine ⟨hs2.lL 1 rfl rfl ⟨rfl, rfl⟩, ?_⟩
  refine hs2.apT 2 rfl (n := 1) (ns := dgs [(d, s)]) (by kernel_rfl) (by kernel_rfl) (fun _ => rfl) ?_ rfl dgs_plain (by rw [show Tryz.prog.bytesOf 36 = 48 by kernel_rfl]; show (z.n + 1) * 2 * 48 ≤ _; omega) ?_
  ·intro G hG
   unfold srcK
   simp only []
   rw [rdN_blk hb _ _ (by simp [dgs_len])]
   exact hG
  ·intro z' h3 hs3 _
   refine hs3.st 1 rfl (by simp) rfl ?_
   intro h4 hs4
   refine hK (by omega) _ ?_
   have g1 : Sat (L ++ [datA (d, s), row q 130 [z'.v, .int .i64 depth, .int .i64 p.dr], tailA 36 5 z' (dgs (Q ++ [(d, s)])), star (Q.map datA), row b0 36 [.int .u32 d.a, .int .u32 d.b, .int .i64 d.c, .int .i64 d.d, s.v]]) h4 := by rw [dgs_app]; exact hs4
   have g2 : Sat ((L ++ [row q 130 [z'.v, .int .i64 depth, .int .i64 p.dr], tailA 36 5 z' (dgs (Q ++ [(d, s)]))]) ++ [star (Q.map datA), datA (d, s)]) h4 := Sat.csa (g1.sel [1, 2, 3, 0] (by decide) rfl)
   have g3 := g2.into
   have g4 : Sat (L ++ [row q 130 [z'.v, .int .i64 depth, .int .i64 p.dr], tailA 36 5 z' (dgs (Q ++ [(d, s)])), star (Q.map datA ++ [datA (d, s)])]) h4 := Sat.asc g3
   rw [show (Q.map datA ++ [datA (d, s)]) = ((Q ++ [(d, s)]).map datA) by simp] at g4
   exact place_shut (z := z') (Q := Q ++ [(d, s)]) g4 (by simp [hq])
theorem c_qtake {L : List Asn} {q : Nat} {p : PS} {depth : Int} {h : Hp} {K : Int → Int → Int → Int → Sl → Bool → Hp → Prop} (hs : Sat (L ++ [placeA depth q p]) h)
  (hnone : p.l = [] → ∀ h', Sat (L ++ [placeA depth q p]) h' → K 0 0 0 0 ⟨none, 0, 0⟩ false h')
  (hK : ∀ d r, p.l = d :: r → ∀ s h', Sat (L ++ [placeA depth q { p with l := r }, datA (d, s)]) h' → K d.a d.b d.c d.d s true h') : C46 (some (bk q)) h K := by
 apply S46; unfold N46
 intro b0 e0
 have hx0 := hs.ext (Ext.new (o := .cells ⟨[.int .u32 0, .int .u32 0, .int .i64 0, .int .i64 0, .slice none 0 0]⟩ 36 (0, 0)) e0)
 have hs0 := hs.new e0 (.cells ⟨[.int .u32 0, .int .u32 0, .int .i64 0, .int .i64 0, .slice none 0 0]⟩ 36 (0, 0))
 revert hs0 hx0
 generalize upd h b0 _ = h0
 intro hx0 hs0
 intro b1 e1
 have hs1 := hs0.new e1 (.cells ⟨[.int .u32 0, .int .u32 0, .int .i64 0, .int .i64 0, .slice none 0 0]⟩ 36 (0, 0))
 revert hs1
 generalize upd h0 b1 _ = h1
 intro hs1
 have hs1 : Sat ((L ++ [row b0 36 [.int .u32 0, .int .u32 0, .int .i64 0, .int .i64 0, .slice none 0 0], row b1 36 [.int .u32 0, .int .u32 0, .int .i64 0, .int .i64 0, .slice none 0 0]]) ++ [placeA depth q p]) h1 := by
  have hs1 : Sat (L ++ [placeA depth q p, row b0 36 [.int .u32 0, .int .u32 0, .int .i64 0, .int .i64 0, .slice none 0 0], row b1 36 [.int .u32 0, .int .u32 0, .int .i64 0, .int .i64 0, .slice none 0 0]]) h1 := hs1
  have := hs1.sel [1, 2, 0] (M' := [_, _, _]) (by decide) rfl
  simpa using this
 obtain ⟨z, Q, hs, hq⟩ := place_open hs1
 have hs : Sat (L ++ [row b0 36 [.int .u32 0, .int .u32 0, .int .i64 0, .int .i64 0, .slice none 0 0], row b1 36 [.int .u32 0, .int .u32 0, .int .i64 0, .int .i64 0, .slice none 0 0], row q 130 [z.v, .int .i64 depth, .int .i64 p.dr], tailA 36 5 z (dgs Q), star (Q.map datA)]) h1 := Sat.asc hs
 have zn : z.n = p.l.length := by have := (hs.tail 3 rfl).1; rw [dgs_len] at this; rw [← hq, List.length_map]; omega
 simp only [nn_some', add_bk]
 refine hs.lL 2 rfl rfl ?_
 cases Q with
 | nil =>
  have hl0 : p.l = [] := by rw [← hq]; rfl
  have : (((z.n : Nat) : Int) == 0) = true := by rw [zn, hl0]; rfl
  have this : ((((⟨z.p, z.n, z.c⟩ : Sl).n : Nat) : Int) == 0) = true := this
  rw [this, cond_true]
  repeat (first | (refine Sat.st hs 0 rfl (by simp) rfl ?_; intro _ hs; simp only [List.set_cons_zero, List.set_cons_succ] at hs) | (refine Sat.st hs 1 rfl (by simp) rfl ?_; intro _ hs; simp only [List.set_cons_zero, List.set_cons_succ] at hs) | (refine Sat.st hs 2 rfl (by simp) rfl ?_; intro _ hs; simp only [List.set_cons_zero, List.set_cons_succ] at hs) | (refine Sat.lI hs 0 rfl rfl ?_) | (refine Sat.lI hs 1 rfl rfl ?_) | (refine Sat.lI hs 2 rfl rfl ?_) | (refine Sat.lL hs 0 rfl rfl ?_) | (refine Sat.lL hs 1 rfl rfl ?_) | (refine Sat.lL hs 2 rfl rfl ?_) | (refine Sat.lP hs 0 rfl rfl ?_) | (refine Sat.lP hs 1 rfl rfl ?_) | (refine Sat.lP hs 2 rfl rfl ?_) | (refine Sat.lB hs 0 rfl rfl ?_) | (refine Sat.lB hs 1 rfl rfl ?_) | (refine Sat.lB hs 2 rfl rfl ?_) | (refine Sat.lS hs 0 rfl rfl ?_) | (refine Sat.lS hs 1 rfl rfl ?_) | (refine Sat.lS hs 2 rfl rfl ?_) | (refine Sat.lM hs 0 rfl rfl ?_) | (refine Sat.lM hs 1 rfl rfl ?_) | (refine Sat.lM hs 2 rfl rfl ?_) | (refine Sat.lA hs 0 rfl rfl ?_) | (refine Sat.lA hs 1 rfl rfl ?_) | (refine Sat.lA hs 2 rfl rfl ?_) | (simp only [nn_some', add_bk]))
  refine hnone hl0 _ ?_
  refine place_shut (z := z) (Q := []) ?_ (by rw [hl0]; rfl)
  exact hs.sel [2, 3, 4] (by decide) rfl
 | cons x Q =>
  obtain ⟨d, s⟩ := x
  have hl0 : p.l = d :: Q.map Prod.fst := by rw [← hq]; rfl
  have : ((((⟨z.p, z.n, z.c⟩ : Sl).n : Nat) : Int) == 0) = false := by
   show (((z.n : Nat) : Int) == 0) = false
   rw [zn, hl0]; simp; omega
  rw [this, cond_false]
  refine hs.lL 2 rfl rfl ?_
  have z1 : 1 ≤ z.n := by rw [zn, hl0]; simp
  refine idx_of (by omega) (by show (0 : Int) < (z.n : Int); omega) ?_
  have hr := (hs.tail 3 rfl).rdc
  obtain ⟨a, ha, k0⟩ := hr 0 (.int .u32 d.a) rfl
  obtain ⟨_, ha1, k1⟩ := hr 1 (.int .u32 d.b) rfl
  rw [ha] at ha1; cases ha1
  obtain ⟨_, ha1, k2⟩ := hr 2 (.int .i64 d.c) rfl
  rw [ha] at ha1; cases ha1
  obtain ⟨_, ha1, k3⟩ := hr 3 (.int .i64 d.d) rfl
  rw [ha] at ha1; cases ha1
  obtain ⟨_, ha1, k4⟩ := hr 4 s.v rfl
  rw [ha] at ha1; cases ha1
  simp only [ha, nn_some', Int.toNat_zero, Nat.zero_mul, addzero] at k0 ⊢
  simp only [k0, k1, k2, k3, k4, xI_some, xL_v]
  refine hs.lL 2 rfl rfl ?_
  refine bd_nat (i := 1) (show 1 ≤ z.n from z1) ?_
  refine hs.st 1 rfl (by simp) rfl ?_
  intro _ hs
  refine hs.st 1 rfl (by simp) rfl ?_
  intro _ hs
  refine hs.st 1 rfl (by simp) rfl ?_
  intro _ hs
  refine hs.st 1 rfl (by simp) rfl ?_
  intro _ hs
  refine hs.st 1 rfl (by simp) rfl ?_
  intro h6 hs
  have hs : Sat (L ++ [row b0 36 [.int .u32 0, .int .u32 0, .int .i64 0, .int .i64 0, .slice none 0 0], row b1 36 [.int .u32 d.a, .int .u32 d.b, .int .i64 d.c, .int .i64 d.d, s.v], row q 130 [z.v, .int .i64 depth, .int .i64 p.dr], tailA 36 5 z (dgs ((d, s) :: Q)), star (((d, s) :: Q).map datA)]) h6 := hs
  refine ⟨hs.lL 2 rfl rfl ⟨rfl, rfl⟩, ?_⟩
  have hs := hs.cutT 3 rfl (k := 1) z1 (by decide)
  refine hs.st 2 rfl (by simp) rfl ?_
  intro h7 hs
  have hs : Sat (L ++ [row b0 36 [.int .u32 0, .int .u32 0, .int .i64 0, .int .i64 0, .slice none 0 0], row b1 36 [.int .u32 d.a, .int .u32 d.b, .int .i64 d.c, .int .i64 d.d, s.v], row q 130 [(⟨sadr z.p z.c 1 5, z.n - 1, z.c - 1⟩ : Sl).v, .int .i64 depth, .int .i64 p.dr], tailA 36 5 ⟨sadr z.p z.c 1 5, z.n - 1, z.c - 1⟩ (dgs Q), star (((d, s) :: Q).map datA)]) h7 := hs
  have fin : ∀ {r0 r1 : Asn} {hh : Hp}, Sat (L ++ [r0, r1, row q 130 [(⟨sadr z.p z.c 1 5, z.n - 1, z.c - 1⟩ : Sl).v, .int .i64 depth, .int .i64 p.dr], tailA 36 5 ⟨sadr z.p z.c 1 5, z.n - 1, z.c - 1⟩ (dgs Q), star (((d, s) :: Q).map datA)]) hh → Sat (L ++ [placeA depth q { p with l := Q.map Prod.fst }, datA (d, s)]) hh := by
   intro r0 r1 hh hs
   have g1 : Sat ((L ++ [row q 130 [(⟨sadr z.p z.c 1 5, z.n - 1, z.c - 1⟩ : Sl).v, .int .i64 depth, .int .i64 p.dr], tailA 36 5 ⟨sadr z.p z.c 1 5, z.n - 1, z.c - 1⟩ (dgs Q)]) ++ [star (((d, s) :: Q).map datA)]) hh := Sat.csa (hs.sel [2, 3, 4] (by decide) rfl)
   have g2 : Sat (L ++ [row q 130 [(⟨sadr z.p z.c 1 5, z.n - 1, z.c - 1⟩ : Sl).v, .int .i64 depth, .int .i64 p.dr], tailA 36 5 ⟨sadr z.p z.c 1 5, z.n - 1, z.c - 1⟩ (dgs Q), star (Q.map datA), datA (d, s)]) hh := Sat.asc (g1.out 0 rfl)
   have g3 : Sat ((L ++ [datA (d, s)]) ++ [row q 130 [(⟨sadr z.p z.c 1 5, z.n - 1, z.c - 1⟩ : Sl).v, .int .i64 depth, .int .i64 p.dr], tailA 36 5 ⟨sadr z.p z.c 1 5, z.n - 1, z.c - 1⟩ (dgs Q), star (Q.map datA)]) hh := Sat.csa (g2.sel [3, 0, 1, 2] (by decide) rfl)
   have g4 := place_shut (p := { p with l := Q.map Prod.fst }) g3 rfl
   have g5 : Sat (L ++ [datA (d, s), placeA depth q { p with l := Q.map Prod.fst }]) hh := Sat.asc g4
   exact g5.sel [1, 0] (by decide) rfl
  repeat (first | (refine Sat.st hs 0 rfl (by simp) rfl ?_; intro _ hs; simp only [List.set_cons_zero, List.set_cons_succ] at hs) | (refine Sat.st hs 1 rfl (by simp) rfl ?_; intro _ hs; simp only [List.set_cons_zero, List.set_cons_succ] at hs) | (refine Sat.st hs 2 rfl (by simp) rfl ?_; intro _ hs; simp only [List.set_cons_zero, List.set_cons_succ] at hs) | (refine Sat.lI hs 0 rfl rfl ?_) | (refine Sat.lI hs 1 rfl rfl ?_) | (refine Sat.lI hs 2 rfl rfl ?_) | (refine Sat.lL hs 0 rfl rfl ?_) | (refine Sat.lL hs 1 rfl rfl ?_) | (refine Sat.lL hs 2 rfl rfl ?_) | (refine Sat.lP hs 0 rfl rfl ?_) | (refine Sat.lP hs 1 rfl rfl ?_) | (refine Sat.lP hs 2 rfl rfl ?_) | (refine Sat.lB hs 0 rfl rfl ?_) | (refine Sat.lB hs 1 rfl rfl ?_) | (refine Sat.lB hs 2 rfl rfl ?_) | (refine Sat.lS hs 0 rfl rfl ?_) | (refine Sat.lS hs 1 rfl rfl ?_) | (refine Sat.lS hs 2 rfl rfl ?_) | (refine Sat.lM hs 0 rfl rfl ?_) | (refine Sat.lM hs 1 rfl rfl ?_) | (refine Sat.lM hs 2 rfl rfl ?_) | (refine Sat.lA hs 0 rfl rfl ?_) | (refine Sat.lA hs 1 rfl rfl ?_) | (refine Sat.lA hs 2 rfl rfl ?_) | (simp only [nn_some', add_bk]))
  exact hK d (Q.map Prod.fst) hl0 s _ (fin hs)
end Go.Proofs.YtbbnpmikjdgdpaaGreat

set_option linter.unusedVariables false
set_option maxRecDepth 100000
namespace Go.Proofs.YtbbnpmikjdgdpaaGreat
open Go Go.Hw
noncomputable def B24 : Code := match Tryz.f24.body with | some c => c | none => .skip
def N24 (x0 x1 : Int) (h : Hp) (K : Option Addr → Hp → Prop) : Prop :=
 bif (decide (x0 < 1)) then
 K none h
 else
 bif (decide (x0 > 16)) then
 K none h
 else
 bif (decide (x1 < 1)) then
 K none h
 else
 bif (decide (x1 > 32)) then
 K none h
 else
 nw h (.map #[] 0) fun b0 h0 =>
 nw h0 (.cells ⟨[.map (some b0), .int .i64 x0, .int .i64 x1]⟩ 125) fun b1 h1 =>
 K (some (bk b1)) h1
theorem S24 {x0 x1 : Int} {h : Hp} {K : Option Addr → Hp → Prop} (hn : N24 x0 x1 h K) : C24 x0 x1 h K := by
 refine calls_of_D Tryz.func24 (c := B24) rfl (by kernel_rfl) ?_
 refine den_sound hE hm _ .leaf _ _ _ (annOk_leaf) ?_
 refine cast ?_ hn
 kernel_rfl
end Go.Proofs.YtbbnpmikjdgdpaaGreat

set_option linter.unusedVariables false
set_option maxRecDepth 100000
namespace Go.Proofs.YtbbnpmikjdgdpaaGreat
open Go Go.Hw
noncomputable def B13 : Code := match Tryz.f13.body with | some c => c | none => .skip
def N13_j0 (x0 : Option Addr) (x1 : Int) (x5 : Bool) (h : Hp) (Kn : Hp → Prop) (Kr : Int → Hp → Prop) : Prop :=
 bif x5 then
 Kr 1 h
 else
 C27 x0 x1 h fun b0 h0 =>
 bif b0 then
 Kr 130 h0
 else
 C28 x0 h0 fun b1 h1 =>
 bif b1 then
 Kr 3 h1
 else
 Kn h1
noncomputable def N13_j0_t : Xf := pieceT [(0, .c (.ptr)), (1, .c (.int .i64)), (5, .c (.bool))] (codeAt B13 [1, 0, 0, 1]) fun x h Q => N13_j0 x.1 x.2.1 x.2.2 h (fun h' => Q .normal (Sg.env [] ()) h') (fun o0 h' => Q .ret (Sg.env [(4, .c (.int .i64))] o0) h')
theorem N13_j0_ok : Sound Tryz.prog Tryz.f13.ntmps N13_j0_t (codeAt B13 [1, 0, 0, 1]) := by
 refine piece_sound (fun e => match e with | .normal => [] | .ret => [4] | _ => []) ?_
 intro x h Q hb
 refine den_sound hE hm _ .leaf _ _ _ (annOk_leaf) ?_
 refine cast ?_ hb
 kernel_rfl
def N13 (x0 : Option Addr) (x1 : Int) (h : Hp) (K : Int → Hp → Prop) : Prop :=
 bif (decide (x1 < 1)) then
 N13_j0 x0 x1 true h
 (fun h0 =>
 C29 x0 x1 h0 fun h1 =>
 K 0 h1)
 (fun n0 h2 =>
 K n0 h2)
 else
 N13_j0 x0 x1 (decide (x1 > 65535)) h
 (fun h3 =>
 C29 x0 x1 h3 fun h4 =>
 K 0 h4)
 (fun n1 h5 =>
 K n1 h5)
theorem S13 {x0 : Option Addr} {x1 : Int} {h : Hp} {K : Int → Hp → Prop} (hn : N13 x0 x1 h K) : C13 x0 x1 h K := by
 refine calls_of_D Tryz.func13 (c := B13) rfl (by kernel_rfl) ?_
 refine den_sound hE hm _ (.two .leaf (.two (.one (.two .leaf (.xf N13_j0_t))) .leaf)) _ _ _ (⟨annOk_leaf, ⟨⟨annOk_leaf, N13_j0_ok⟩, annOk_leaf⟩⟩) ?_
 refine cast ?_ hn
 kernel_rfl
end Go.Proofs.YtbbnpmikjdgdpaaGreat

set_option linter.unusedVariables false
set_option maxRecDepth 100000
namespace Go.Proofs.YtbbnpmikjdgdpaaGreat
open Go Go.Hw
noncomputable def B130 : Code := match Tryz.f130.body with | some c => c | none => .skip
def N130 (x0 : Option Addr) (x1_0 x1_1 x1_2 x1_3 : Int) (x1_4 : Sl) (h : Hp) (K : Int → Hp → Prop) : Prop :=
 nw h (.cells ⟨[.int .u32 x1_0, .int .u32 x1_1, .int .i64 x1_2, .int .i64 x1_3, .slice x1_4.p x1_4.n x1_4.c]⟩ 36) fun b0 h0 =>
 nn x0 fun a0 =>
 xM (cell h0 a0) fun m0 =>
 xI .i64 (cell h0 ((bk b0).add 3)) fun n0 =>
 xMap h0 m0 fun es0 _ =>
 keyAt (.int .i64) (.int .i64 n0) es0 fun r0 =>
 xP (some (rval r0 (.pointer none))) fun p0 =>
 peq h0 p0 none fun b1 =>
 bif b1 then
 K 131 h0
 else
 xL (cell h0 ((bk b0).add 4)) fun s0 =>
 C57 s0 h0 fun s1 h1 =>
 st h1 ((bk b0).add 4) (.slice s1.p s1.n s1.c) fun h2 =>
 nn p0 fun a1 =>
 xI .u32 (cell h2 (bk b0)) fun n1 =>
 xI .u32 (cell h2 ((bk b0).add 1)) fun n2 =>
 xI .i64 (cell h2 ((bk b0).add 2)) fun n3 =>
 xI .i64 (cell h2 ((bk b0).add 3)) fun n4 =>
 xL (cell h2 ((bk b0).add 4)) fun s2 =>
 C133 (some a1) n1 n2 n3 n4 s2 h2 fun b2 h3 =>
 bif (!b2) then
 nn p0 fun a2 =>
 xI .i64 (cell h3 (a2.add 2)) fun n5 =>
 nn p0 fun a3 =>
 st h3 (a3.add 2) (.int .i64 (IntKind.wrap .i64 (n5 + 1))) fun h4 =>
 K 3 h4
 else
 K 0 h3
theorem S130 {x0 : Option Addr} {x1_0 x1_1 x1_2 x1_3 : Int} {x1_4 : Sl} {h : Hp} {K : Int → Hp → Prop} (hn : N130 x0 x1_0 x1_1 x1_2 x1_3 x1_4 h K) : C130 x0 x1_0 x1_1 x1_2 x1_3 x1_4 h K := by
 refine calls_of_D Tryz.func130 (c := B130) rfl (by kernel_rfl) ?_
 refine den_sound hE hm _ (.two .leaf (.two (.ord [0, 1, 2, 3, 4, 5, 6, 7]) (.two .leaf (.two .leaf (.two (.two (.ord [0, 1, 2, 3, 4, 5]) .leaf) .leaf))))) _ _ _ (⟨annOk_leaf, ⟨trivial, ⟨annOk_leaf, ⟨annOk_leaf, ⟨⟨trivial, annOk_leaf⟩, annOk_leaf⟩⟩⟩⟩⟩) ?_
 refine cast ?_ hn
 kernel_rfl
end Go.Proofs.YtbbnpmikjdgdpaaGreat

set_option linter.unusedVariables false
set_option maxRecDepth 100000
namespace Go.Proofs.YtbbnpmikjdgdpaaGreat
open Go Go.Hw
noncomputable def B20 : Code := match Tryz.f20.body with | some c => c | none => .skip
def N20 (x0 : Option Addr) (x1 : Int) (h : Hp) (K : Int → Int → Int → Int → Sl → Bool → Hp → Prop) : Prop :=
 nw h (.cells ⟨[.int .u32 0, .int .u32 0, .int .i64 0, .int .i64 0, .slice none 0 0]⟩ 36) fun b0 h0 =>
 nn x0 fun a0 =>
 xM (cell h0 a0) fun m0 =>
 xMap h0 m0 fun es0 _ =>
 keyAt (.int .i64) (.int .i64 x1) es0 fun r0 =>
 xP (some (rval r0 (.pointer none))) fun p0 =>
 peq h0 p0 none fun b1 =>
 bif b1 then
 st h0 (bk b0) (.int .u32 0) fun h1 =>
 st h1 ((bk b0).add 1) (.int .u32 0) fun h2 =>
 st h2 ((bk b0).add 2) (.int .i64 0) fun h3 =>
 st h3 ((bk b0).add 3) (.int .i64 0) fun h4 =>
 st h4 ((bk b0).add 4) (.slice none 0 0) fun h5 =>
 xI .u32 (cell h5 (bk b0)) fun n0 =>
 xI .u32 (cell h5 ((bk b0).add 1)) fun n1 =>
 xI .i64 (cell h5 ((bk b0).add 2)) fun n2 =>
 xI .i64 (cell h5 ((bk b0).add 3)) fun n3 =>
 xL (cell h5 ((bk b0).add 4)) fun s0 =>
 K n0 n1 n2 n3 s0 false h5
 else
 nn p0 fun a1 =>
 C46 (some a1) h0 fun n4 n5 n6 n7 s1 b2 h6 =>
 st h6 (bk b0) (.int .u32 n4) fun h7 =>
 st h7 ((bk b0).add 1) (.int .u32 n5) fun h8 =>
 st h8 ((bk b0).add 2) (.int .i64 n6) fun h9 =>
 st h9 ((bk b0).add 3) (.int .i64 n7) fun h10 =>
 st h10 ((bk b0).add 4) (.slice s1.p s1.n s1.c) fun h11 =>
 xI .u32 (cell h11 (bk b0)) fun n8 =>
 xI .u32 (cell h11 ((bk b0).add 1)) fun n9 =>
 xI .i64 (cell h11 ((bk b0).add 2)) fun n10 =>
 xI .i64 (cell h11 ((bk b0).add 3)) fun n11 =>
 xL (cell h11 ((bk b0).add 4)) fun s2 =>
 K n8 n9 n10 n11 s2 b2 h11
theorem S20 {x0 : Option Addr} {x1 : Int} {h : Hp} {K : Int → Int → Int → Int → Sl → Bool → Hp → Prop} (hn : N20 x0 x1 h K) : C20 x0 x1 h K := by
 refine calls_of_M Tryz.func20 (c := B20) rfl (by kernel_rfl) ?_
 refine den_sound hE hm _ .leaf _ _ _ (annOk_leaf) ?_
 refine cast ?_ hn
 kernel_rfl
end Go.Proofs.YtbbnpmikjdgdpaaGreat

/-
 Ports: what the program's calls do to the state.
-/
-- (no (*port.Ports).Close)
set_option linter.unusedSimpArgs false
set_option linter.unusedVariables false
set_option maxRecDepth 20000
namespace Go.Proofs.YtbbnpmikjdgdpaaGreat
open Go Go.Hw
def openT (t : Tb) (n : Int) : Int × Tb := if n < 1 ∨ 65535 < n then (1, t) else if (findP n t.ps).isSome then (130, t) else if t.most ≤ (t.ps.length : Int) then (3, t) else (0, { t with ps := addP n t.ps })
def putT (t : Tb) (d : Dg) : Int × Tb := match findP d.d t.ps with
 | none => (131, t)
 | some p => if t.depth ≤ (p.l.length : Int) then (3, { t with ps := updP d.d (fun p => { p with dr := p.dr + 1 }) t.ps }) else (0, { t with ps := updP d.d (fun p => { p with l := p.l ++ [d] }) t.ps })
def takeT (t : Tb) (n : Int) : Option Dg × Tb := match findP n t.ps with
 | none => (none, t)
 | some p => match p.l with
  | [] => (none, t)
  | d :: _ => (some d, { t with ps := updP n (fun p => { p with l := p.l.tail }) t.ps })
structure Ok (M : Nat) (t : Tb) : Prop where
 srt : t.ps.Pairwise fun p q => p.n < q.n
 rng : ∀ p ∈ t.ps, 1 ≤ p.n ∧ p.n ≤ 65535
 len : t.ps.length ≤ 16
 q : ∀ p ∈ t.ps, p.l.length ≤ 32 ∧ 0 ≤ p.dr ∧ p.dr ≤ M
 most : 1 ≤ t.most ∧ t.most ≤ 16
 depth : 1 ≤ t.depth ∧ t.depth ≤ 32
theorem Ok.nod {M : Nat} {t : Tb} (ho : Ok M t) : NodN t.ps := ho.srt.imp fun h e => by omega
theorem p_new {L M : List Asn} {most depth : Int} {h : Hp} {K : Option Addr → Hp → Prop} (hs : Sat (L ++ M) h)
  (hno : ¬ ((1 ≤ most ∧ most ≤ 16) ∧ 1 ≤ depth ∧ depth ≤ 32) → K none h)
  (hK : (1 ≤ most ∧ most ≤ 16) ∧ 1 ≤ depth ∧ depth ≤ 32 → ∀ b h', Sat (L ++ (M ++ [portsA b ⟨most, depth, []⟩])) h' → K (some (bk b)) h') : C24 most depth h K := by
 apply S24; unfold N24
 by_cases e1 : most < 1
 ·simp only [e1, decide_true, cond_true]; exact hno (by omega)
 by_cases e2 : most > 16
 ·simp only [e1, e2, decide_true, decide_false, cond_true, cond_false]; exact hno (by omega)
 by_cases e3 : depth < 1
 ·simp only [e1, e2, e3, decide_true, decide_false, cond_true, cond_false]; exact hno (by omega)
 by_cases e4 : depth > 32
 ·simp only [e1, e2, e3, e4, decide_true, decide_false, cond_true, cond_false]; exact hno (by omega)
 simp only [e1, e2, e3, e4, decide_false, cond_false]
 intro m e0
 have hs1 := hs.newMap .i64 e0
 revert hs1
 generalize upd h m _ = h1
 intro hs1 b e5
 have hs2 := hs1.new e5 (.cells ⟨[.map (some m), .int .i64 most, .int .i64 depth]⟩ 125 (0, 0))
 refine hK ⟨⟨by omega, by omega⟩, by omega, by omega⟩ b _ ?_
 have hs2 : Sat (L ++ ((M ++ [mapA .i64 m []]) ++ [row b 125 [.map (some m), .int .i64 most, .int .i64 depth]])) _ := hs2
 have g1 : Sat (L ++ (M ++ ([mapA .i64 m [], row b 125 [.map (some m), .int .i64 most, .int .i64 depth]]))) (upd h1 b (.cells ⟨[.map (some m), .int .i64 most, .int .i64 depth]⟩ 125 (0, 0))) := by
  rw [List.append_assoc] at hs2; exact hs2
 have g2 := Sat.csa g1
 have g3 : Sat ((L ++ M) ++ [row b 125 [.map (some m), .int .i64 most, .int .i64 depth], mapA .i64 m []]) _ := g2.sel [1, 0] (by decide) rfl
 have g4 : Sat (((L ++ M) ++ [row b 125 [.map (some m), .int .i64 most, .int .i64 depth], mapA .i64 m []]) ++ []) (upd h1 b (.cells ⟨[.map (some m), .int .i64 most, .int .i64 depth]⟩ 125 (0, 0))) := by rw [List.append_nil]; exact g3
 have g5 := Sat.asc g4.close
 exact Sat.asc (ports_shut (t := ⟨most, depth, []⟩) (E := []) g5 (List.Perm.refl _))
theorem p_open {L : List Asn} {b : Nat} {t : Tb} {n : Int} {h : Hp} {K : Int → Hp → Prop} (hs : Sat (L ++ [portsA b t]) h) (hn : NodN t.ps) (hK : ∀ h', Sat (L ++ [portsA b (openT t n).2]) h' → K (openT t n).1 h') : C13 (some (bk b)) n h K := by
 apply S13; unfold N13
 have mid : ∀ x5 : Bool, (x5 = true → n < 1 ∨ 65535 < n) → (x5 = false → ¬ (n < 1 ∨ 65535 < n)) → N13_j0 (some (bk b)) n x5 h (fun h0 => C29 (some (bk b)) n h0 fun h1 => K 0 h1) (fun n0 h2 => K n0 h2) := by
  intro x5 q1 q2
  unfold N13_j0
  cases x5 with
  | true =>
   rw [cond_true]
   have e : openT t n = (1, t) := by unfold openT; rw [if_pos (q1 rfl)]
   rw [e] at hK
   exact hK h hs
  | false =>
   rw [cond_false]
   refine p_is hs hn ?_
   have e1 := q2 rfl
   cases hf : findP n t.ps with
   | some p =>
    have e : openT t n = (130, t) := by unfold openT; rw [if_neg e1, hf]; rfl
    rw [e] at hK
    exact hK h hs
   | none =>
    refine p_full hs ?_
    by_cases e2 : t.most ≤ (t.ps.length : Int)
    ·have e : openT t n = (3, t) := by unfold openT; rw [if_neg e1, hf]; simp [e2]
     rw [e] at hK
     simp only [e2, decide_true, Option.isSome_none, cond_true, cond_false]
     exact hK h hs
    ·have e : openT t n = (0, { t with ps := addP n t.ps }) := by unfold openT; rw [if_neg e1, hf]; simp [e2]
     rw [e] at hK
     simp only [e2, decide_false, Option.isSome_none, cond_false]
     exact p_begin hs hn hf hK
 by_cases e1 : n < 1
 ·simp only [e1, decide_true, cond_true]
  exact mid true (fun _ => .inl e1) (fun e => by cases e)
 ·simp only [e1, decide_false, cond_false]
  refine mid _ (fun e => .inr (by simpa using e)) (fun e => ?_)
  have : ¬ n > 65535 := by simpa using e
  omega
theorem place_out {L : List Asn} {b m j : Nat} {t : Tb} {E : List (Nat × PS)} {e : Nat × PS} {h : Hp} (hs : Sat (L ++ [row b 125 [.map (some m), .int .i64 t.most, .int .i64 t.depth], mapA .i64 m (ptrs E), star (E.map fun e => placeA t.depth e.1 e.2)]) h) (he : E[j]? = some e) :
  Sat ((L ++ [row b 125 [.map (some m), .int .i64 t.most, .int .i64 t.depth], mapA .i64 m (ptrs E), star ((E.map fun e => placeA t.depth e.1 e.2).eraseIdx j)]) ++ [placeA t.depth e.1 e.2]) h := by
 have g1 := (Sat.csa (A := [row b 125 [.map (some m), .int .i64 t.most, .int .i64 t.depth], mapA .i64 m (ptrs E)]) (B := [star (E.map fun e => placeA t.depth e.1 e.2)]) hs).out j (by rw [List.getElem?_map, he]; rfl)
 exact Sat.mv g1
theorem place_in {L : List Asn} {b m j : Nat} {t : Tb} {E : List (Nat × PS)} {e : Nat × PS} {n : Int} {f : PS → PS} {h : Hp} (hs : Sat ((L ++ [row b 125 [.map (some m), .int .i64 t.most, .int .i64 t.depth], mapA .i64 m (ptrs E), star ((E.map fun e => placeA t.depth e.1 e.2).eraseIdx j)]) ++ [placeA t.depth e.1 (f e.2)]) h)
  (he : E[j]? = some e) (hen : e.2.n = n) (hp : (E.map Prod.snd).Perm t.ps) (hn : NodN t.ps) (hf : ∀ p, (f p).n = p.n) : Sat (L ++ [portsA b { t with ps := updP n f t.ps }]) h := by
 have g1 : Sat ((L ++ [row b 125 [.map (some m), .int .i64 t.most, .int .i64 t.depth], mapA .i64 m (ptrs E)]) ++ [star ((E.map fun e => placeA t.depth e.1 e.2).eraseIdx j), placeA t.depth e.1 (f e.2)]) h := Sat.mv hs
 have g2 := Sat.asc (g1.inn j (by rw [List.length_map]; exact lt_of_get he))
 have e1 : (E.map fun e => placeA t.depth e.1 e.2).set j (placeA t.depth e.1 (f e.2)) = (E.set j (e.1, f e.2)).map fun e => placeA t.depth e.1 e.2 := by rw [List.map_set]
 have e2 : ptrs (E.set j (e.1, f e.2)) = ptrs E := by
  unfold ptrs
  rw [List.map_set]
  refine List.ext_getElem? fun k => ?_
  by_cases hk : j = k
  ·subst hk
   rw [List.getElem?_set_self (by rw [List.length_map]; exact lt_of_get he), List.getElem?_map, he]
   simp [hf]
  ·rw [List.getElem?_set_ne hk]
 rw [e1] at g2
 refine ports_shut (t := { t with ps := updP n f t.ps }) (m := m) (E := E.set j (e.1, f e.2)) (by rw [e2]; exact g2) ?_
 rw [List.map_set]
 show (List.set (E.map Prod.snd) j (f e.2)).Perm (updP n f t.ps)
 rw [set_updP ((NodN.perm hp).2 hn) (p := e.2) (by rw [List.getElem?_map, he]; rfl) hen]
 exact hp.map _
theorem p_put {L : List Asn} {b : Nat} {t : Tb} {d : Dg} {s : Sl} {M : Nat} {h : Hp} {K : Int → Hp → Prop} (hs : Sat (L ++ [portsA b t]) h) (ho : Ok M t) (hM : M ≤ 1000000000000000000) (hr : RdB h s d.data) (hl : d.data.length ≤ 140737488355328)
  (hK : ∀ h', Sat (L ++ [portsA b (putT t d).2]) h' → K (putT t d).1 h') : C130 (some (bk b)) d.a d.b d.c d.d s h K := by
 apply S130; unfold N130
 intro b0 e0
 have hs1 := hs.new e0 (.cells ⟨[.int .u32 d.a, .int .u32 d.b, .int .i64 d.c, .int .i64 d.d, .slice s.p s.n s.c]⟩ 36 (0, 0))
 have hr := hr.ext (Ext.new (o := .cells ⟨[.int .u32 d.a, .int .u32 d.b, .int .i64 d.c, .int .i64 d.d, .slice s.p s.n s.c]⟩ 36 (0, 0)) e0)
 revert hs1 hr
 generalize upd h b0 _ = h1
 intro hs1 hr
 have hs1 : Sat (L ++ [portsA b t, row b0 36 [.int .u32 d.a, .int .u32 d.b, .int .i64 d.c, .int .i64 d.d, .slice s.p s.n s.c]]) h1 := hs1
 have hs2 : Sat ((L ++ [row b0 36 [.int .u32 d.a, .int .u32 d.b, .int .i64 d.c, .int .i64 d.d, .slice s.p s.n s.c]]) ++ [portsA b t]) h1 := Sat.csa (hs1.sel [1, 0] (by decide) rfl)
 obtain ⟨m, E, hs3, hp⟩ := ports_open hs2
 have hs3' : Sat (L ++ [row b0 36 [.int .u32 d.a, .int .u32 d.b, .int .i64 d.c, .int .i64 d.d, .slice s.p s.n s.c], row b 125 [.map (some m), .int .i64 t.most, .int .i64 t.depth], mapA .i64 m (ptrs E), star (E.map fun e => placeA t.depth e.1 e.2)]) h1 := Sat.asc hs3
 simp only [nn_some', add_bk]
 refine hs3'.lM 1 rfl rfl ?_
 refine hs3'.lI 0 rfl rfl ?_
 refine hs3'.lookup 2 rfl ?_
 intro r hrv
 rw [rval_kv hrv]
 rcases find_case (n := d.d) hp ho.nod with ⟨hf, h2, _⟩ | ⟨j, e, he, hen, hf, h2, _⟩
 ·rw [h2]
  have ep : putT t d = (131, t) := by unfold putT; rw [hf]
  rw [ep] at hK
  exact hK _ (hs1.sel [0] (by decide) rfl)
 ·rw [h2]
  simp only [Option.getD_some, xP_some, peq_none, Option.isNone_some, cond_false]
  refine hs3'.lL 0 rfl rfl ?_
  refine c_bclone (s := ⟨s.p, s.n, s.c⟩) hr hl ?_
  intro s' h3 hn
  have hs4 : Sat ((L ++ [row b0 36 [.int .u32 d.a, .int .u32 d.b, .int .i64 d.c, .int .i64 d.d, .slice s.p s.n s.c], row b 125 [.map (some m), .int .i64 t.most, .int .i64 t.depth], mapA .i64 m (ptrs E), star (E.map fun e => placeA t.depth e.1 e.2)]) ++ [datA (d, s')]) h3 := Sat.csa (hs3'.addNew hn)
  have hs4 : Sat (L ++ [row b0 36 [.int .u32 d.a, .int .u32 d.b, .int .i64 d.c, .int .i64 d.d, .slice s.p s.n s.c], row b 125 [.map (some m), .int .i64 t.most, .int .i64 t.depth], mapA .i64 m (ptrs E), star (E.map fun e => placeA t.depth e.1 e.2), datA (d, s')]) h3 := Sat.asc hs4
  refine hs4.st 0 rfl (by simp) rfl ?_
  intro h4 hs5
  have hs5 : Sat (L ++ [row b0 36 [.int .u32 d.a, .int .u32 d.b, .int .i64 d.c, .int .i64 d.d, s'.v], row b 125 [.map (some m), .int .i64 t.most, .int .i64 t.depth], mapA .i64 m (ptrs E), star (E.map fun e => placeA t.depth e.1 e.2), datA (d, s')]) h4 := hs5
  refine hs5.lI 0 rfl rfl ?_
  refine hs5.lI 0 rfl rfl ?_
  refine hs5.lI 0 rfl rfl ?_
  refine hs5.lI 0 rfl rfl ?_
  refine hs5.lL 0 rfl rfl ?_
  have g1 : Sat ((L ++ [datA (d, s')]) ++ [row b 125 [.map (some m), .int .i64 t.most, .int .i64 t.depth], mapA .i64 m (ptrs E), star (E.map fun e => placeA t.depth e.1 e.2)]) h4 := Sat.csa (hs5.sel [4, 1, 2, 3] (by decide) rfl)
  have g2 := place_out g1 he
  have g3 : Sat (L ++ [datA (d, s'), row b 125 [.map (some m), .int .i64 t.most, .int .i64 t.depth], mapA .i64 m (ptrs E), star ((E.map fun e => placeA t.depth e.1 e.2).eraseIdx j), placeA t.depth e.1 e.2]) h4 := Sat.asc (Sat.asc g2)
  have g4 : Sat ((L ++ [row b 125 [.map (some m), .int .i64 t.most, .int .i64 t.depth], mapA .i64 m (ptrs E), star ((E.map fun e => placeA t.depth e.1 e.2).eraseIdx j)]) ++ [placeA t.depth e.1 e.2, datA (d, s')]) h4 := Sat.csa (g3.sel [1, 2, 3, 4, 0] (by decide) rfl)
  have hin := (findP_some hf).1
  obtain ⟨q1, q2, q3⟩ := ho.q _ hin
  refine c_qput (d := d) (s := s') g4 (by omega) ?_ ?_
  ·intro hd h5 hs6
   have ep : putT t d = (3, { t with ps := updP d.d (fun p => { p with dr := p.dr + 1 }) t.ps }) := by unfold putT; rw [hf]; simp [hd]
   rw [ep] at hK
   simp only [Bool.not_false, cond_true]
   have hs6 : Sat ((L ++ [row b 125 [.map (some m), .int .i64 t.most, .int .i64 t.depth], mapA .i64 m (ptrs E), star ((E.map fun e => placeA t.depth e.1 e.2).eraseIdx j)]) ++ [placeA t.depth e.1 e.2]) h5 := hs6.sel [0] (by decide) rfl
   obtain ⟨z, Q, hs7, hq⟩ := place_open hs6
   refine hs7.lI 0 rfl rfl ?_
   refine hs7.st 0 rfl (by simp) rfl ?_
   intro h6 hs8
   refine hK _ ?_
   rw [wi64i (by omega) (by omega)] at hs8
   exact place_in (f := fun p => { p with dr := p.dr + 1 }) (place_shut (p := { e.2 with dr := e.2.dr + 1 }) (z := z) (Q := Q) hs8 hq) he hen hp ho.nod (fun p => rfl)
  ·intro hd h5 hs6
   have ep : putT t d = (0, { t with ps := updP d.d (fun p => { p with l := p.l ++ [d] }) t.ps }) := by unfold putT; rw [hf]; simp only []; rw [if_neg (by omega)]
   rw [ep] at hK
   simp only [Bool.not_true, cond_false]
   exact hK _ (place_in (f := fun p => { p with l := p.l ++ [d] }) hs6 he hen hp ho.nod (fun p => rfl))
theorem p_take {L : List Asn} {b : Nat} {t : Tb} {n : Int} {h : Hp} {K : Int → Int → Int → Int → Sl → Bool → Hp → Prop} (hs : Sat (L ++ [portsA b t]) h) (hn : NodN t.ps)
  (hnone : (takeT t n).1 = none → ∀ h', Sat (L ++ [portsA b (takeT t n).2]) h' → K 0 0 0 0 ⟨none, 0, 0⟩ false h')
  (hK : ∀ d, (takeT t n).1 = some d → ∀ s h', Sat (L ++ [portsA b (takeT t n).2, datA (d, s)]) h' → K d.a d.b d.c d.d s true h') : C20 (some (bk b)) n h K := by
 apply S20; unfold N20
 intro b0 e0
 have hs1 := hs.new e0 (.cells ⟨[.int .u32 0, .int .u32 0, .int .i64 0, .int .i64 0, .slice none 0 0]⟩ 36 (0, 0))
 revert hs1
 generalize upd h b0 _ = h1
 intro hs1
 have hs1 : Sat (L ++ [portsA b t, row b0 36 [.int .u32 0, .int .u32 0, .int .i64 0, .int .i64 0, .slice none 0 0]]) h1 := hs1
 have hs2 : Sat ((L ++ [row b0 36 [.int .u32 0, .int .u32 0, .int .i64 0, .int .i64 0, .slice none 0 0]]) ++ [portsA b t]) h1 := Sat.csa (hs1.sel [1, 0] (by decide) rfl)
 obtain ⟨m, E, hs3, hp⟩ := ports_open hs2
 have hs3' : Sat (L ++ [row b0 36 [.int .u32 0, .int .u32 0, .int .i64 0, .int .i64 0, .slice none 0 0], row b 125 [.map (some m), .int .i64 t.most, .int .i64 t.depth], mapA .i64 m (ptrs E), star (E.map fun e => placeA t.depth e.1 e.2)]) h1 := Sat.asc hs3
 simp only [nn_some', add_bk]
 refine hs3'.lM 1 rfl rfl ?_
 refine hs3'.lookup 2 rfl ?_
 intro r hrv
 rw [rval_kv hrv]
 have fin0 : (takeT t n) = (none, t) → ∀ (r0 : Asn) (hh : Hp), Sat (L ++ [portsA b t, r0]) hh → K 0 0 0 0 ⟨none, 0, 0⟩ false hh := by
  intro e r0 hh hs
  rw [e] at hnone
  exact hnone rfl hh (hs.sel [0] (by decide) rfl)
 rcases find_case (n := n) hp hn with ⟨hf, h2, _⟩ | ⟨j, e, he, hen, hf, h2, _⟩
 ·rw [h2]
  simp only [Option.getD_none, xP_some, peq_none, Option.isNone_none, cond_true]
  have fin := fin0 (by unfold takeT; rw [hf])
  have hs := hs1
  repeat (first | (refine Sat.st hs 0 rfl (by simp) rfl ?_; intro _ hs; simp only [List.set_cons_zero, List.set_cons_succ] at hs) | (refine Sat.st hs 1 rfl (by simp) rfl ?_; intro _ hs; simp only [List.set_cons_zero, List.set_cons_succ] at hs) | (refine Sat.lI hs 0 rfl rfl ?_) | (refine Sat.lI hs 1 rfl rfl ?_) | (refine Sat.lL hs 0 rfl rfl ?_) | (refine Sat.lL hs 1 rfl rfl ?_) | (refine Sat.lP hs 0 rfl rfl ?_) | (refine Sat.lP hs 1 rfl rfl ?_) | (refine Sat.lB hs 0 rfl rfl ?_) | (refine Sat.lB hs 1 rfl rfl ?_) | (refine Sat.lS hs 0 rfl rfl ?_) | (refine Sat.lS hs 1 rfl rfl ?_) | (refine Sat.lM hs 0 rfl rfl ?_) | (refine Sat.lM hs 1 rfl rfl ?_) | (refine Sat.lA hs 0 rfl rfl ?_) | (refine Sat.lA hs 1 rfl rfl ?_) | (simp only [nn_some', add_bk]))
  exact fin _ _ hs
 ·rw [h2]
  simp only [Option.getD_some, xP_some, peq_none, Option.isNone_some, cond_false, nn_some']
  have g2 := place_out hs3 he
  refine c_qtake (depth := t.depth) (p := e.2) g2 ?_ ?_
  ·intro hl h4 hs4
   have fin := fin0 (by unfold takeT; rw [hf]; simp only []; rw [hl])
   have g3 := place_in (f := fun p => p) hs4 he hen hp hn (fun p => rfl)
   have e2 : updP n (fun p => p) t.ps = t.ps := by unfold updP; simp
   rw [e2] at g3
   have hs : Sat (L ++ [row b0 36 [.int .u32 0, .int .u32 0, .int .i64 0, .int .i64 0, .slice none 0 0], portsA b t]) h4 := Sat.asc g3
   have hs := hs.sel [1, 0] (by decide) (M' := [portsA b t, row b0 36 [.int .u32 0, .int .u32 0, .int .i64 0, .int .i64 0, .slice none 0 0]]) rfl
   repeat (first | (refine Sat.st hs 0 rfl (by simp) rfl ?_; intro _ hs; simp only [List.set_cons_zero, List.set_cons_succ] at hs) | (refine Sat.st hs 1 rfl (by simp) rfl ?_; intro _ hs; simp only [List.set_cons_zero, List.set_cons_succ] at hs) | (refine Sat.lI hs 0 rfl rfl ?_) | (refine Sat.lI hs 1 rfl rfl ?_) | (refine Sat.lL hs 0 rfl rfl ?_) | (refine Sat.lL hs 1 rfl rfl ?_) | (refine Sat.lP hs 0 rfl rfl ?_) | (refine Sat.lP hs 1 rfl rfl ?_) | (refine Sat.lB hs 0 rfl rfl ?_) | (refine Sat.lB hs 1 rfl rfl ?_) | (refine Sat.lS hs 0 rfl rfl ?_) | (refine Sat.lS hs 1 rfl rfl ?_) | (refine Sat.lM hs 0 rfl rfl ?_) | (refine Sat.lM hs 1 rfl rfl ?_) | (refine Sat.lA hs 0 rfl rfl ?_) | (refine Sat.lA hs 1 rfl rfl ?_) | (simp only [nn_some', add_bk]))
   exact fin _ _ hs
  ·intro d r hl s h4 hs4
   have et : takeT t n = (some d, { t with ps := updP n (fun p => { p with l := p.l.tail }) t.ps }) := by unfold takeT; rw [hf]; simp only []; rw [hl]
   rw [et] at hK
   have fin := hK d rfl s
   have g0 : Sat (L ++ [row b0 36 [.int .u32 0, .int .u32 0, .int .i64 0, .int .i64 0, .slice none 0 0], row b 125 [.map (some m), .int .i64 t.most, .int .i64 t.depth], mapA .i64 m (ptrs E), star ((E.map fun e => placeA t.depth e.1 e.2).eraseIdx j), placeA t.depth e.1 { e.2 with l := r }, datA (d, s)]) h4 := Sat.asc (Sat.asc hs4)
   have g1 : Sat (L ++ ([row b0 36 [.int .u32 0, .int .u32 0, .int .i64 0, .int .i64 0, .slice none 0 0], datA (d, s)] ++ ([row b 125 [.map (some m), .int .i64 t.most, .int .i64 t.depth], mapA .i64 m (ptrs E), star ((E.map fun e => placeA t.depth e.1 e.2).eraseIdx j)] ++ [placeA t.depth e.1 { e.2 with l := r }]))) h4 := g0.sel [0, 5, 1, 2, 3, 4] (by decide) rfl
   have g2 := Sat.csa (Sat.csa g1)
   have g3 := place_in (f := fun p => { p with l := p.l.tail }) (by simp only [hl, List.tail_cons]; exact g2) he hen hp hn (fun p => rfl)
   have hs : Sat (L ++ [row b0 36 [.int .u32 0, .int .u32 0, .int .i64 0, .int .i64 0, .slice none 0 0], datA (d, s), portsA b { t with ps := updP n (fun p => { p with l := p.l.tail }) t.ps }]) h4 := Sat.asc g3
   have fin' : ∀ {r0 : Asn} {hh : Hp}, Sat (L ++ [r0, datA (d, s), portsA b { t with ps := updP n (fun p => { p with l := p.l.tail }) t.ps }]) hh → K d.a d.b d.c d.d s true hh := fun hs => fin _ (hs.sel [2, 1] (by decide) rfl)
   repeat (first | (refine Sat.st hs 0 rfl (by simp) rfl ?_; intro _ hs; simp only [List.set_cons_zero, List.set_cons_succ] at hs) | (refine Sat.lI hs 0 rfl rfl ?_) | (refine Sat.lL hs 0 rfl rfl ?_) | (refine Sat.lP hs 0 rfl rfl ?_) | (refine Sat.lB hs 0 rfl rfl ?_) | (refine Sat.lS hs 0 rfl rfl ?_) | (refine Sat.lM hs 0 rfl rfl ?_) | (refine Sat.lA hs 0 rfl rfl ?_) | (simp only [nn_some', add_bk]))
   exact fin' hs
end Go.Proofs.YtbbnpmikjdgdpaaGreat

set_option linter.unusedVariables false
set_option maxRecDepth 100000
namespace Go.Proofs.YtbbnpmikjdgdpaaGreat
open Go Go.Hw
noncomputable def B14 : Code := match Tryz.f14.body with | some c => c | none => .skip
def N14 (x0 : Option Addr) (h : Hp) (K : Int → Hp → Prop) : Prop :=
 nn x0 fun a0 =>
 xP (cell h (a0.add 1)) fun p0 =>
 C30 p0 h fun n0 h0 =>
 K n0 h0
theorem S14 {x0 : Option Addr} {h : Hp} {K : Int → Hp → Prop} (hn : N14 x0 h K) : C14 x0 h K := by
 refine calls_of_D Tryz.func14 (c := B14) rfl (by kernel_rfl) ?_
 refine den_sound hE hm _ .leaf _ _ _ (annOk_leaf) ?_
 refine cast ?_ hn
 kernel_rfl
end Go.Proofs.YtbbnpmikjdgdpaaGreat

set_option linter.unusedVariables false
set_option maxRecDepth 100000
namespace Go.Proofs.YtbbnpmikjdgdpaaGreat
open Go Go.Hw
noncomputable def B5 : Code := match Tryz.f5.body with | some c => c | none => .skip
def N5 (x0 : Option Addr) (x1 : Int) (h : Hp) (K : Int → Hp → Prop) : Prop :=
 nn x0 fun a0 =>
 xP (cell h (a0.add 3)) fun p0 =>
 C13 p0 x1 h fun n0 h0 =>
 K n0 h0
theorem S5 {x0 : Option Addr} {x1 : Int} {h : Hp} {K : Int → Hp → Prop} (hn : N5 x0 x1 h K) : C5 x0 x1 h K := by
 refine calls_of_D Tryz.func5 (c := B5) rfl (by kernel_rfl) ?_
 refine den_sound hE hm _ .leaf _ _ _ (annOk_leaf) ?_
 refine cast ?_ hn
 kernel_rfl
end Go.Proofs.YtbbnpmikjdgdpaaGreat

/-
 The stack: in memory; Own, Open.
-/
set_option linter.unusedSimpArgs false
set_option linter.unusedVariables false
set_option maxRecDepth 20000
namespace Go.Proofs.YtbbnpmikjdgdpaaGreat
open Go Go.Hw
structure StS where
 nic : NcS
 net : Net
 ca : Ca
 tb : Tb
 id : Int
 watched : Int
 clash : List Int
 laid : List (List UInt8)
def laidA (s : Sl) (o : List (List UInt8)) : Asn := exs fun X : List (List UInt8 × Sl) => star [Hw.own 32 1 s (X.map fun x => x.2.v), star (X.map fun x => Hw.own 5 1 x.2 (Hw.bc x.1)), pur (X.map Prod.fst = o)]
structure StX where
 n : Nat
 r : Nat
 c : Nat
 p : Nat
 cl : Sl
 la : Sl
def skC (S : StS) (x : StX) : List Value := [.pointer (some (bk x.n)), .pointer (some (bk x.r)), .pointer (some (bk x.c)), .pointer (some (bk x.p)), .int .i64 S.id, .int .u32 S.watched, x.cl.v, x.la.v]
def skL (b bc : Nat) (S : StS) (x : StX) : List Asn := [row b 55 (skC S x), nicA x.n bc S.nic, tableA x.r S.net, cacheA x.c S.ca, portsA x.p S.tb, Hw.own 25 1 x.cl (uz S.clash), laidA x.la S.laid]
def stackA (b bc : Nat) (S : StS) : Asn := exs fun x : StX => star (skL b bc S x)
section
variable {L M : List Asn} {h : Hp} {b bc : Nat} {S : StS} {s : Sl} {o : List (List UInt8)}
theorem laid_open (hs : Sat (L ++ [laidA s o]) h) : ∃ X : List (List UInt8 × Sl), Sat (L ++ [Hw.own 32 1 s (X.map fun x => x.2.v), star (X.map fun x => Hw.own 5 1 x.2 (Hw.bc x.1))]) h ∧ X.map Prod.fst = o := by
 obtain ⟨X, hs⟩ := hs.exOut
 have hs : Sat (L ++ [star [Hw.own 32 1 s (X.map fun x => x.2.v), star (X.map fun x => Hw.own 5 1 x.2 (Hw.bc x.1)), pur (X.map Prod.fst = o)]]) h := hs
 have hs := hs.open
 exact ⟨X, hs.sel [0, 1] (by decide) rfl, hs.pur 2 rfl⟩
theorem laid_shut {X : List (List UInt8 × Sl)} (hs : Sat (L ++ [Hw.own 32 1 s (X.map fun x => x.2.v), star (X.map fun x => Hw.own 5 1 x.2 (Hw.bc x.1))]) h) (hX : X.map Prod.fst = o) : Sat (L ++ [laidA s o]) h := by
 have h1 : Sat (L ++ [Hw.own 32 1 s (X.map fun x => x.2.v), star (X.map fun x => Hw.own 5 1 x.2 (Hw.bc x.1)), pur (X.map Prod.fst = o)]) h := hs.andPur hX
 have h2 := h1.close
 unfold laidA
 exact h2.exIn X
theorem laid_n (hs : Sat (L ++ [laidA s o]) h) : s.n = o.length := by
 obtain ⟨X, g, hX⟩ := laid_open hs
 have := (g.own 0 rfl).1
 rw [← hX, List.length_map]
 simp at this
 exact this.symm
theorem laid_push {l : List UInt8} {d : Sl} {F : Sl → Hp → Prop} (hs : Sat (L ++ [laidA s o, Hw.own 5 1 d (Hw.bc l)]) h) (ho : o.length ≤ 1000000000000)
  (hF : ∀ s' h', Sat (L ++ [laidA s' (o ++ [l])]) h' → F s' h') : nw h (.cells ⟨[.slice d.p d.n d.c]⟩ 32) fun b h0 => apK Tryz.prog 32 s (.slice (some (bk b)) 1 1) h0 F := by
 have g1 : Sat ((L ++ [Hw.own 5 1 d (Hw.bc l)]) ++ [laidA s o]) h := hs.part [1, 0] (by decide) rfl
 obtain ⟨X, g2, hX⟩ := laid_open g1
 have hn : s.n = o.length := laid_n g1
 refine g2.push 0 rfl (k := 1) (ns := [d.v]) yl_a yl_z rfl (by intro v hv; simp at hv; subst hv; rfl) (by rw [yl_b]; omega) ?_
 intro s' h' g3 _
 have g4 : Sat ((L ++ [Hw.own 32 1 s' ((X.map fun x => x.2.v) ++ [d.v])]) ++ [star (X.map fun x => Hw.own 5 1 x.2 (Hw.bc x.1)), Hw.own 5 1 d (Hw.bc l)]) h' := (Sat.asc g3).part [1, 2, 0] (by decide) rfl
 have g5 := g4.into
 have e1 : (X.map fun x => Hw.own 5 1 x.2 (Hw.bc x.1)) ++ [Hw.own 5 1 d (Hw.bc l)] = (X ++ [(l, d)]).map fun x => Hw.own 5 1 x.2 (Hw.bc x.1) := by simp
 have e2 : (X.map fun x => x.2.v) ++ [d.v] = (X ++ [(l, d)]).map fun x => x.2.v := by simp
 rw [e1, e2] at g5
 exact hF s' h' (laid_shut (X := X ++ [(l, d)]) (Sat.asc g5) (by rw [List.map_append, hX]; rfl))
theorem stack_open (hs : Sat (L ++ [stackA b bc S]) h) : ∃ x, Sat (L ++ skL b bc S x) h := by
 obtain ⟨x, hs⟩ := hs.exOut
 have hs : Sat (L ++ [star (skL b bc S x)]) h := hs
 exact ⟨x, hs.open⟩
theorem stack_shut {x : StX} (hs : Sat (L ++ skL b bc S x) h) : Sat (L ++ [stackA b bc S]) h := by
 have h2 := hs.close
 unfold stackA
 exact h2.exIn x
theorem c_sown {K : Int → Hp → Prop} (hs : Sat (L ++ [stackA b bc S]) h) (hK : K S.net.ip h) : C14 (some (bk b)) h K := by
 apply S14; unfold N14
 obtain ⟨x, g⟩ := stack_open hs
 unfold skL at g
 simp only [nn_some', add_bk]
 refine g.lP 0 rfl rfl ?_
 exact c_rown (g.part [0, 2] (by decide) rfl (M1 := [row b 55 (skC S x)]) (M2 := [tableA x.r S.net])) hK
theorem c_sopen {n : Int} {K : Int → Hp → Prop} (hs : Sat (L ++ [stackA b bc S]) h) (hn : NodN S.tb.ps) (hK : ∀ h', Sat (L ++ [stackA b bc { S with tb := (openT S.tb n).2 }]) h' → K (openT S.tb n).1 h') : C5 (some (bk b)) n h K := by
 apply S5; unfold N5
 obtain ⟨x, g⟩ := stack_open hs
 unfold skL at g
 simp only [nn_some', add_bk]
 refine g.lP 0 rfl rfl ?_
 refine p_open (g.part [0, 1, 2, 3, 5, 6, 4] (by decide) rfl (M1 := [row b 55 (skC S x), nicA x.n bc S.nic, tableA x.r S.net, cacheA x.c S.ca, Hw.own 25 1 x.cl (uz S.clash), laidA x.la S.laid]) (M2 := [portsA x.p S.tb])) hn fun h1 g1 => ?_
 exact hK h1 (stack_shut (S := { S with tb := (openT S.tb n).2 }) (x := x) ((Sat.asc g1).sel [0, 1, 2, 3, 6, 4, 5] (by decide) rfl))
end
end Go.Proofs.YtbbnpmikjdgdpaaGreat

set_option linter.unusedVariables false
set_option maxRecDepth 100000
namespace Go.Proofs.YtbbnpmikjdgdpaaGreat
open Go Go.Hw
noncomputable def B36 : Code := match Tryz.f36.body with | some c => c | none => .skip
def N36_l0_b (x0 : Option Addr) (x8 : Sl) (x9 : Int) (Φ : Int → Hp → Prop) (x10 : Int) (h : Hp) (K0 : Hp → Prop) : Prop :=
 bif (decide (x10 < x9)) then
 idx x10 x8.n <|
 nn x8.p fun a0 =>
 xI .u8 (cell h (a0.add (x10.toNat * 8))) fun n0 =>
 xI .u8 (cell h ((a0.add (x10.toNat * 8)).add 1)) fun n1 =>
 xI .u8 (cell h ((a0.add (x10.toNat * 8)).add 2)) fun n2 =>
 xI .u8 (cell h ((a0.add (x10.toNat * 8)).add 3)) fun n3 =>
 xI .u8 (cell h ((a0.add (x10.toNat * 8)).add 4)) fun n4 =>
 xI .u8 (cell h ((a0.add (x10.toNat * 8)).add 5)) fun n5 =>
 xI .i64 (cell h ((a0.add (x10.toNat * 8)).add 6)) fun n6 =>
 xL (cell h ((a0.add (x10.toNat * 8)).add 7)) fun s0 =>
 nw h (.cells ⟨[.int .u8 0, .int .u8 0, .int .u8 0, .int .u8 0, .int .u8 0, .int .u8 0, .int .i64 0, .slice none 0 0]⟩ 99) fun b0 h0 =>
 st h0 (bk b0) (.int .u8 n0) fun h1 =>
 st h1 ((bk b0).add 1) (.int .u8 n1) fun h2 =>
 st h2 ((bk b0).add 2) (.int .u8 n2) fun h3 =>
 st h3 ((bk b0).add 3) (.int .u8 n3) fun h4 =>
 st h4 ((bk b0).add 4) (.int .u8 n4) fun h5 =>
 st h5 ((bk b0).add 5) (.int .u8 n5) fun h6 =>
 st h6 ((bk b0).add 6) (.int .i64 n6) fun h7 =>
 st h7 ((bk b0).add 7) (.slice s0.p s0.n s0.c) fun h8 =>
 nn x0 fun a1 =>
 xP (cell h8 a1) fun p0 =>
 xI .u8 (cell h8 (bk b0)) fun n7 =>
 xI .u8 (cell h8 ((bk b0).add 1)) fun n8 =>
 xI .u8 (cell h8 ((bk b0).add 2)) fun n9 =>
 xI .u8 (cell h8 ((bk b0).add 3)) fun n10 =>
 xI .u8 (cell h8 ((bk b0).add 4)) fun n11 =>
 xI .u8 (cell h8 ((bk b0).add 5)) fun n12 =>
 xI .i64 (cell h8 ((bk b0).add 6)) fun n13 =>
 xL (cell h8 ((bk b0).add 7)) fun s1 =>
 C53 p0 n7 n8 n9 n10 n11 n12 n13 s1 h8 fun s2 n14 h9 =>
 bif (n14 == 0) then
 nn x0 fun a2 =>
 xL (cell h9 (a2.add 7)) fun s3 =>
 nw h9 (.cells ⟨[.slice s2.p s2.n s2.c]⟩ 32) fun b1 h10 =>
 apK Tryz.prog 32 s3 (.slice (some (bk b1)) 1 1) h10 fun s4 h11 =>
 nn x0 fun a3 =>
 st h11 (a3.add 7) (.slice s4.p s4.n s4.c) fun h12 =>
 Φ (IntKind.wrap .i64 (x10 + 1)) h12
 else
 Φ (IntKind.wrap .i64 (x10 + 1)) h9
 else
 K0 h
def N36_l0_B (x0 : Option Addr) (x8 : Sl) (x9 : Int) (K0 : Hp → Prop) (s : Sg.T [(10, .c (.int .i64))]) (h : Hp) (Φ : Sg.T [(10, .c (.int .i64))] → Hp → Prop) : Prop :=
 N36_l0_b x0 x8 x9 (fun x10 h => Φ x10 h) s h K0
def N36_l0 (x0 : Option Addr) (x8 : Sl) (x9 x10 : Int) (h : Hp) (K0 : Hp → Prop) : Prop :=
 loopP (N36_l0_B x0 x8 x9 K0) x10 h
noncomputable def N36_l0_t : Xf := loopT [(0, .c (.ptr)), (8, .c (.slice)), (9, .c (.int .i64))] [(10, .c (.int .i64))] (codeAt B36 [1, 0, 0]) fun F Q => N36_l0_B F.1 F.2.1 F.2.2 (fun h' => Q (.exit 0) (Sg.env [] ()) h')
theorem N36_l0_ok : Sound Tryz.prog Tryz.f36.ntmps N36_l0_t (codeAt B36 [1, 0]) := by
 refine loop_sound (fun e => match e with | .exit 0 => [] | _ => []) (by kernel_rfl) ?_
 intro F Q s h Φ hb
 refine den_sound hE hm _ (.two .leaf (.two .leaf (.two (.one (.two .leaf (.two (.ord [0, 1, 2, 3, 4, 5, 6, 7, 8, 9, 10]) .leaf))) .leaf))) _ _ _ (⟨annOk_leaf, ⟨annOk_leaf, ⟨⟨annOk_leaf, ⟨trivial, annOk_leaf⟩⟩, annOk_leaf⟩⟩⟩) ?_
 refine cast ?_ hb
 kernel_rfl
def N36 (x0 : Option Addr) (x1 : Sl) (h : Hp) (K : Hp → Prop) : Prop :=
 N36_l0 x0 x1 ((x1.n : Nat) : Int) 0 h
 (fun h0 =>
 K h0)
theorem S36 {x0 : Option Addr} {x1 : Sl} {h : Hp} {K : Hp → Prop} (hn : N36 x0 x1 h K) : C36 x0 x1 h K := by
 refine calls_of_D Tryz.func36 (c := B36) rfl (by kernel_rfl) ?_
 refine den_sound hE hm _ (.two .leaf (.one (.xf N36_l0_t))) _ _ _ (⟨annOk_leaf, N36_l0_ok⟩) ?_
 refine cast ?_ hn
 kernel_rfl
end Go.Proofs.YtbbnpmikjdgdpaaGreat

/-
 The stack: what is sent goes into the ring.
-/
set_option linter.unusedSimpArgs false
set_option linter.unusedVariables false
set_option maxRecDepth 20000
namespace Go.Proofs.YtbbnpmikjdgdpaaGreat
open Go Go.Hw
theorem sndC_w8 (x : Snd × Sl) : (sndC x).length = 8 := rfl
def layOne (S : StS) (x : Snd) : StS :=
 if sealE x.kind x.data = 0 ∧ S.nic.tq.length < S.nic.tn then { S with nic := { S.nic with tq := S.nic.tq ++ [sealL x.dst S.nic.own x.kind x.data] }, laid := S.laid ++ [sealL x.dst S.nic.own x.kind x.data] } else S
def layAll (S : StS) (l : List Snd) : StS := l.foldl layOne S
theorem layOne_own {S : StS} {x : Snd} : (layOne S x).nic.own = S.nic.own := by unfold layOne; split <;> rfl
theorem layAll_own {l : List Snd} : ∀ {S : StS}, (layAll S l).nic.own = S.nic.own := by
 induction l with
 | nil => intro S; rfl
 | cons x l ih => intro S; show (layAll (layOne S x) l).nic.own = _; rw [ih, layOne_own]
theorem layOne_laid {S : StS} {x : Snd} : (layOne S x).laid.length ≤ S.laid.length + 1 := by unfold layOne; split <;> simp
theorem layAll_laid {l : List Snd} : ∀ {S : StS}, (layAll S l).laid.length ≤ S.laid.length + l.length := by
 induction l with
 | nil => intro S; simp [layAll]
 | cons x l ih =>
  intro S
  have h1 := ih (S := layOne S x)
  have h2 := layOne_laid (S := S) (x := x)
  show (layAll (layOne S x) l).laid.length ≤ _
  rw [List.length_cons]; omega
section
variable {L : List Asn} {h : Hp} {b bc : Nat} {S : StS}
theorem c_slay {sl : Sl} {o : List Snd} {K : Hp → Prop} (hs : Sat (L ++ [stackA b bc S, sndsA sl o]) h) (hown : S.nic.own.ok) (hd : ∀ x ∈ o, x.dst.ok ∧ x.data.length ≤ 1099511627776) (hol : o.length ≤ 1000) (hll : S.laid.length ≤ 900000000000)
  (hK : ∀ h', Sat (L ++ [stackA b bc (layAll S o)]) h' → K h') : C36 (some (bk b)) sl h K := by
 apply S36; unfold N36 N36_l0
 obtain ⟨X, g, hX⟩ := snds_open (L := L ++ [stackA b bc S]) (Sat.csa hs (A := [_]))
 have hXl : X.length = o.length := by rw [← hX, List.length_map]
 have ln := g.elemN 0 rfl sndC_w8 (by decide)
 have g0 : Sat (L ++ [Hw.own 99 8 sl (X.flatMap sndC), star (X.map fun x => Hw.own 5 1 x.2 (Hw.bc x.1.data)), stackA b bc (layAll S (o.take 0))]) h := (Sat.asc g).sel [1, 2, 0] (by decide) rfl
 refine loopP_inv (fun (z : Int) hc => ∃ i : Nat, z = i ∧ i ≤ X.length ∧ Sat (L ++ [Hw.own 99 8 sl (X.flatMap sndC), star (X.map fun x => Hw.own 5 1 x.2 (Hw.bc x.1.data)), stackA b bc (layAll S (o.take i))]) hc) (fun z _ => X.length - z.toNat) ?_ ⟨0, rfl, Nat.zero_le _, g0⟩
 rintro z hc ⟨i, rfl, hi, g1⟩
 unfold N36_l0_B N36_l0_b
 dsimp only
 by_cases hlt : i < X.length
 ·rw [show decide ((i : Int) < ((sl.n : Nat) : Int)) = true from decide_eq_true (by omega), cond_true]
  have hx : X[i]? = some X[i] := List.getElem?_eq_getElem hlt
  have hlo : i < o.length := by omega
  have hxm := List.getElem_mem hlt
  have hox : X[i].1 = o[i] := by
   have := congrArg (fun q => q[i]?) hX
   simp only [List.getElem?_map, hx, Option.map_some, List.getElem?_eq_getElem hlo, Option.some.injEq] at this
   exact this
  have htk : o.take (i + 1) = o.take i ++ [X[i].1] := by rw [List.take_succ_eq_append_getElem hlo, hox]
  have hxo : X[i].1 ∈ o := by rw [hox]; exact List.getElem_mem hlo
  generalize X[i] = x at hx hxm htk hxo
  obtain ⟨hd1, hd2⟩ := hd _ hxo
  have hnext : layAll S (o.take (i + 1)) = layOne (layAll S (o.take i)) x.1 := by rw [htk]; unfold layAll; rw [List.foldl_append]; rfl
  have hownS : (layAll S (o.take i)).nic.own = S.nic.own := layAll_own
  have hlaid : (layAll S (o.take i)).laid.length ≤ 1000000000000 := by
   have := layAll_laid (S := S) (l := o.take i)
   rw [List.length_take] at this; omega
  generalize layAll S (o.take i) = S1 at g1 hnext hownS hlaid
  have nx : IntKind.wrap .i64 ((i : Int) + 1) = ((i + 1 : Nat) : Int) := nat_succ64 (by omega)
  refine g1.elem 0 rfl sndC_w8 (by decide) hx rfl ?_
  intro r hr rd
  simp only [add_bk, Int.toNat_natCast]
  simp only [add_mk]
  refine xI_of (rd (k := 0) rfl) ?_
  refine xI_of (rd (k := 1) rfl) ?_
  refine xI_of (rd (k := 2) rfl) ?_
  refine xI_of (rd (k := 3) rfl) ?_
  refine xI_of (rd (k := 4) rfl) ?_
  refine xI_of (rd (k := 5) rfl) ?_
  refine xI_of (rd (k := 6) rfl) ?_
  refine xL_of (s := x.2) (rd (k := 7) rfl) ?_
  refine g1.nw ?_
  intro z h2 hs _
  simp only [List.cons_append, List.nil_append] at hs
  refine Sat.st hs 3 (k := 0) rfl (by simp) rfl fun h7 hs => ?_
  simp only [List.set_cons_zero, List.set_cons_succ] at hs
  refine Sat.st hs 3 rfl (by simp) rfl fun h7 hs => ?_
  simp only [List.set_cons_zero, List.set_cons_succ] at hs
  refine Sat.st hs 3 rfl (by simp) rfl fun h7 hs => ?_
  simp only [List.set_cons_zero, List.set_cons_succ] at hs
  refine Sat.st hs 3 rfl (by simp) rfl fun h7 hs => ?_
  simp only [List.set_cons_zero, List.set_cons_succ] at hs
  refine Sat.st hs 3 rfl (by simp) rfl fun h7 hs => ?_
  simp only [List.set_cons_zero, List.set_cons_succ] at hs
  refine Sat.st hs 3 rfl (by simp) rfl fun h7 hs => ?_
  simp only [List.set_cons_zero, List.set_cons_succ] at hs
  refine Sat.st hs 3 rfl (by simp) rfl fun h7 hs => ?_
  simp only [List.set_cons_zero, List.set_cons_succ] at hs
  refine Sat.st hs 3 rfl (by simp) rfl fun h7 hs => ?_
  simp only [List.set_cons_zero, List.set_cons_succ] at hs
  have g2 : Sat ((L ++ [Hw.own 99 8 sl (X.flatMap sndC), star (X.map fun x => Hw.own 5 1 x.2 (Hw.bc x.1.data)), row z 99 (sdC x.1.dst x.1.kind x.2)]) ++ [stackA b bc S1]) h7 := Sat.part hs [0, 1, 3, 2] (by decide) rfl
  clear hs
  obtain ⟨u, g3⟩ := stack_open g2
  unfold skL at g3
  simp only [nn_some']
  refine g3.lP 0 (k := 0) rfl rfl ?_
  have rz := (Sat.asc g2).blk 2 rfl
  refine xI_of (by rw [rz.cell]; rfl) ?_
  refine xI_of (by rw [rz.cell]; rfl) ?_
  refine xI_of (by rw [rz.cell]; rfl) ?_
  refine xI_of (by rw [rz.cell]; rfl) ?_
  refine xI_of (by rw [rz.cell]; rfl) ?_
  refine xI_of (by rw [rz.cell]; rfl) ?_
  refine xI_of (by rw [rz.cell]; rfl) ?_
  refine xL_of (s := x.2) (by rw [rz.cell]; rfl) ?_
  have rx : RdB h7 x.2 x.1.data := by
   have g4 : Sat ((L ++ [Hw.own 99 8 sl (X.flatMap sndC), row z 99 (sdC x.1.dst x.1.kind x.2), stackA b bc S1]) ++ [star (X.map fun x => Hw.own 5 1 x.2 (Hw.bc x.1.data))]) h7 := (Sat.asc g2).part [0, 2, 3, 1] (by decide) rfl
   obtain ⟨L', g5⟩ := star_get g4 hxm
   exact (g5.own 0 rfl).rdb
  have g4 := g3.part [0, 2, 3, 4, 5, 6, 1] (by decide) rfl (M1 := [row b 55 (skC S1 u), tableA u.r S1.net, cacheA u.c S1.ca, portsA u.p S1.tb, Hw.own 25 1 u.cl (uz S1.clash), laidA u.la S1.laid]) (M2 := [nicA u.n bc S1.nic])
  refine c_nsend g4 hd1 (by rw [hownS]; exact hown) rx hd2 (fun q e h8 hne g5 => ?_) (fun q1 q2 h8 y g5 => ?_)
  ·rw [show (e == 0) = false by simp [hne], cond_false, nx]
   refine ⟨⟨i + 1, rfl, hlt, ?_⟩, by omega⟩
   have hsame : layOne S1 x.1 = S1 := by
    unfold layOne
    rw [if_neg]
    rintro ⟨w1, w2⟩
    rcases q with q | q
    ·exact q w1
    ·omega
   rw [hnext, hsame]
   have g6 := stack_shut (S := S1) (x := u) ((Sat.asc g5).sel [0, 6, 1, 2, 3, 4, 5] (by decide) rfl)
   exact (Sat.asc g6).sel [0, 1, 3] (by decide) rfl
  ·rw [show ((0 : Int) == 0) = true from rfl, cond_true]
   have g6 := Sat.asc g5
   refine g6.lL 0 rfl rfl ?_
   have g7 := g6.part [0, 1, 2, 3, 4, 6, 5, 7] (by decide) rfl (M1 := [row b 55 (skC S1 u), tableA u.r S1.net, cacheA u.c S1.ca, portsA u.p S1.tb, Hw.own 25 1 u.cl (uz S1.clash), nicA u.n bc { S1.nic with tq := S1.nic.tq ++ [sealL x.1.dst S1.nic.own x.1.kind x.1.data] }]) (M2 := [laidA u.la S1.laid, Hw.own 5 1 y (Hw.bc (sealL x.1.dst S1.nic.own x.1.kind x.1.data))])
   refine laid_push g7 hlaid fun s' h9 g8 => ?_
   have g9 := Sat.asc g8
   refine g9.st 0 rfl (by simp [skC]) rfl ?_
   intro h10 g10
   rw [nx]
   refine ⟨⟨i + 1, rfl, hlt, ?_⟩, by omega⟩
   have hsame : layOne S1 x.1 = { S1 with nic := { S1.nic with tq := S1.nic.tq ++ [sealL x.1.dst S1.nic.own x.1.kind x.1.data] }, laid := S1.laid ++ [sealL x.1.dst S1.nic.own x.1.kind x.1.data] } := by
    unfold layOne; rw [if_pos ⟨q1, q2⟩]
   rw [hnext, hsame]
   have g11 := stack_shut (S := { S1 with nic := { S1.nic with tq := S1.nic.tq ++ [sealL x.1.dst S1.nic.own x.1.kind x.1.data] }, laid := S1.laid ++ [sealL x.1.dst S1.nic.own x.1.kind x.1.data] }) (x := { u with la := s' }) (Sat.sel g10 [0, 5, 1, 2, 3, 4, 6] (by decide) rfl)
   exact (Sat.asc g11).sel [0, 1, 3] (by decide) rfl
 ·rw [show decide ((i : Int) < ((sl.n : Nat) : Int)) = false from decide_eq_false (by omega), cond_false]
  have : o.take i = o := List.take_of_length_le (by omega)
  rw [this] at g1
  exact hK _ (g1.sel [2] (by decide) rfl)
end
end Go.Proofs.YtbbnpmikjdgdpaaGreat
