/- Texts of a walk over heaps, printed by program and by hand: lemmas for the law that is proved in this claim. No condition. -/
import Derived.Test.YtbbnpmikjdgdpaaGreatPd
import Derived.Test.YtbbnpmikjdgdpaaGreatPg
import Derived.Test.YtbbnpmikjdgdpaaGreatPe
set_option linter.unusedVariables false
set_option maxRecDepth 100000
namespace Go.Proofs.YtbbnpmikjdgdpaaGreat
open Go Go.Hw
noncomputable def B37 : Code := match Tryz.f37.body with | some c => c | none => .skip
def N37 (x0 : Int) (x1 : Sl) (h : Hp) (K : Int → Int → Int → Int → Int → Int → Int → Sl → Hp → Prop) : Prop :=
 nw h (.cells ⟨[.int .u8 0, .int .u8 0, .int .u8 0, .int .u8 0, .int .u8 0, .int .u8 0, .int .i64 0, .slice none 0 0]⟩ 99) fun b0 h0 =>
 C54 h0 fun n0 n1 n2 n3 n4 n5 h1 =>
 st h1 (bk b0) (.int .u8 n0) fun h2 =>
 st h2 ((bk b0).add 1) (.int .u8 n1) fun h3 =>
 st h3 ((bk b0).add 2) (.int .u8 n2) fun h4 =>
 st h4 ((bk b0).add 3) (.int .u8 n3) fun h5 =>
 st h5 ((bk b0).add 4) (.int .u8 n4) fun h6 =>
 st h6 ((bk b0).add 5) (.int .u8 n5) fun h7 =>
 st h7 ((bk b0).add 6) (.int .i64 x0) fun h8 =>
 st h8 ((bk b0).add 7) (.slice x1.p x1.n x1.c) fun h9 =>
 xI .u8 (cell h9 (bk b0)) fun n6 =>
 xI .u8 (cell h9 ((bk b0).add 1)) fun n7 =>
 xI .u8 (cell h9 ((bk b0).add 2)) fun n8 =>
 xI .u8 (cell h9 ((bk b0).add 3)) fun n9 =>
 xI .u8 (cell h9 ((bk b0).add 4)) fun n10 =>
 xI .u8 (cell h9 ((bk b0).add 5)) fun n11 =>
 xI .i64 (cell h9 ((bk b0).add 6)) fun n12 =>
 xL (cell h9 ((bk b0).add 7)) fun s0 =>
 K n6 n7 n8 n9 n10 n11 n12 s0 h9
theorem S37 {x0 : Int} {x1 : Sl} {h : Hp} {K : Int → Int → Int → Int → Int → Int → Int → Sl → Hp → Prop} (hn : N37 x0 x1 h K) : C37 x0 x1 h K := by
 refine calls_of_M Tryz.func37 (c := B37) rfl (by kernel_rfl) ?_
 refine den_sound hE hm _ .leaf _ _ _ (annOk_leaf) ?_
 refine cast ?_ hn
 kernel_rfl
end Go.Proofs.YtbbnpmikjdgdpaaGreat

set_option linter.unusedVariables false
set_option maxRecDepth 100000
namespace Go.Proofs.YtbbnpmikjdgdpaaGreat
open Go Go.Hw
noncomputable def B16 : Code := match Tryz.f16.body with | some c => c | none => .skip
def N16 (x0 : Option Addr) (x1 x2 x3 : Int) (x4 : Sl) (x5 : Int) (h : Hp) (K : Int → Hp → Prop) : Prop :=
 nn x0 fun a0 =>
 xP (cell h (a0.add 1)) fun p0 =>
 C34 p0 x2 h fun n0 n1 h0 =>
 bif (n0 == 0) then
 K 102 h0
 else
 nn x0 fun a1 =>
 xI .i64 (cell h0 (a1.add 4)) fun n2 =>
 C35 0 (IntKind.wrap .i64 ((Int.tmod n2 65535) + 1)) 64 x3 true x1 x2 x4 h0 fun s0 n3 h1 =>
 bif (n3 != 0) then
 K n3 h1
 else
 nn x0 fun a2 =>
 st h1 (a2.add 4) (.int .i64 (IntKind.wrap .i64 ((Int.tmod n2 65535) + 1))) fun h2 =>
 bif (n0 == 1) then
 C37 2048 s0 h2 fun n4 n5 n6 n7 n8 n9 n10 s1 h3 =>
 nw h3 (.cells ⟨[.int .u8 n4, .int .u8 n5, .int .u8 n6, .int .u8 n7, .int .u8 n8, .int .u8 n9, .int .i64 n10, .slice s1.p s1.n s1.c]⟩ 99) fun b0 h4 =>
 C36 x0 ⟨some (bk b0), 1, 1⟩ h4 fun h5 =>
 K 0 h5
 else
 nn x0 fun a3 =>
 xP (cell h2 (a3.add 2)) fun p1 =>
 C38 p1 x1 n1 s0 x5 h2 fun s2 h6 =>
 C36 x0 s2 h6 fun h7 =>
 K 0 h7
theorem S16 {x0 : Option Addr} {x1 x2 x3 : Int} {x4 : Sl} {x5 : Int} {h : Hp} {K : Int → Hp → Prop} (hn : N16 x0 x1 x2 x3 x4 x5 h K) : C16 x0 x1 x2 x3 x4 x5 h K := by
 refine calls_of_D Tryz.func16 (c := B16) rfl (by kernel_rfl) ?_
 refine den_sound hE hm _ .leaf _ _ _ (annOk_leaf) ?_
 refine cast ?_ hn
 kernel_rfl
end Go.Proofs.YtbbnpmikjdgdpaaGreat

/-
 The stack: a packet is laid.
-/
set_option linter.unusedSimpArgs false
set_option linter.unusedVariables false
set_option maxRecDepth 20000
namespace Go.Proofs.YtbbnpmikjdgdpaaGreat
open Go Go.Hw
theorem c_sall {kind : Int} {x : Sl} {h : Hp} {K : Int → Int → Int → Int → Int → Int → Int → Sl → Hp → Prop} (hK : ∀ h', Ext none' h h' → K 255 255 255 255 255 255 kind x h') : C37 kind x h K := by
 apply S37; unfold N37
 have hs0 : Sat ([] ++ [Hw.was h]) h := Sat.start
 refine hs0.nw ?_
 intro z h1 g0 _
 refine c_everyone fun h2 he => ?_
 have hs := g0.ext he
 simp only [List.cons_append, List.nil_append] at hs
 simp only [add_bk]
 refine Sat.st (L := []) hs 1 (k := 0) rfl (by simp) rfl fun h7 hs => ?_
 simp only [List.set_cons_zero, List.set_cons_succ] at hs
 refine Sat.st hs 1 rfl (by simp) rfl fun h7 hs => ?_
 simp only [List.set_cons_zero, List.set_cons_succ] at hs
 refine Sat.st hs 1 rfl (by simp) rfl fun h7 hs => ?_
 simp only [List.set_cons_zero, List.set_cons_succ] at hs
 refine Sat.st hs 1 rfl (by simp) rfl fun h7 hs => ?_
 simp only [List.set_cons_zero, List.set_cons_succ] at hs
 refine Sat.st hs 1 rfl (by simp) rfl fun h7 hs => ?_
 simp only [List.set_cons_zero, List.set_cons_succ] at hs
 refine Sat.st hs 1 rfl (by simp) rfl fun h7 hs => ?_
 simp only [List.set_cons_zero, List.set_cons_succ] at hs
 refine Sat.st hs 1 rfl (by simp) rfl fun h7 hs => ?_
 simp only [List.set_cons_zero, List.set_cons_succ] at hs
 refine Sat.st hs 1 rfl (by simp) rfl fun h7 hs => ?_
 simp only [List.set_cons_zero, List.set_cons_succ] at hs
 refine Sat.lI hs 1 (k := 0) rfl rfl ?_
 refine Sat.lI hs 1 rfl rfl ?_
 refine Sat.lI hs 1 rfl rfl ?_
 refine Sat.lI hs 1 rfl rfl ?_
 refine Sat.lI hs 1 rfl rfl ?_
 refine Sat.lI hs 1 rfl rfl ?_
 refine Sat.lI hs 1 rfl rfl ?_
 refine Sat.lL hs 1 rfl rfl ?_
 exact hK _ (Sat.was (L := []) hs 0 rfl)
theorem one8_ok : oneEighty.ok := by unfold M6.ok oneEighty; decide
theorem new_snd {c : Ca} {src ip : Int} {pk : List UInt8} : (newC c src ip pk).1.length ≤ 1 ∧ ∀ x ∈ (newC c src ip pk).1, x.dst.ok ∧ x.data.length ≤ 1099511627776 := by
 unfold newC
 split
 ·exact ⟨by simp, by intro x hx; cases hx⟩
 ·refine ⟨by simp, ?_⟩
  intro x hx
  simp at hx
  subst hx
  exact ⟨one8_ok, by simp [questC, arpL_len]⟩
theorem ask_snd {c : Ca} (h : c.ok) {src ip : Int} {pk : List UInt8} (hp : pk.length ≤ 1099511627776) : (askC c src ip pk).1.length ≤ 1 ∧ ∀ x ∈ (askC c src ip pk).1, x.dst.ok ∧ x.data.length ≤ 1099511627776 := by
 unfold askC
 split
 ·exact new_snd
 ·rename_i e he
  split
  ·exact ⟨by simp, by intro x hx; cases hx⟩
  ·split
   ·refine ⟨by simp, ?_⟩
    intro x hx
    simp at hx
    subst hx
    exact ⟨(h.all e (findK_some he).1).mac, hp⟩
   ·exact new_snd
def pktId (S : StS) : Int := S.id % 65535 + 1
def pktH (S : StS) (src dst proto : Int) : Iph := ⟨0, pktId S, 64, proto, true, src, dst⟩
noncomputable def packetS (S : StS) (src dst proto : Int) (data : List UInt8) (now : Int) : Int × StS :=
 if (hopN S.net dst).1 = 0 then (102, S) else if 1480 < data.length then (2, S) else
 if (hopN S.net dst).1 = 1 then (0, layAll { S with id := pktId S } [⟨oneEighty, 2048, ipL (pktH S src dst proto) data⟩])
 else (0, layAll { S with id := pktId S, ca := (askC (tellC S.ca now) src (hopN S.net dst).2 (ipL (pktH S src dst proto) data)).2 } (askC (tellC S.ca now) src (hopN S.net dst).2 (ipL (pktH S src dst proto) data)).1)
structure StS.ok (S : StS) : Prop where
 own : S.nic.own.ok
 net : S.net.ok
 ca : S.ca.ok
 cown : S.ca.own = S.nic.own
 id : 0 ≤ S.id ∧ S.id ≤ 65535
 watched : 0 ≤ S.watched ∧ S.watched < 4294967296
theorem hop_rng {n : Net} (hn : n.ok) {d : Int} (hd : 0 ≤ d ∧ d < 4294967296) : (hopN n d).1 = 0 ∨ (0 ≤ (hopN n d).2 ∧ (hopN n d).2 < 4294967296) := by
 unfold hopN
 split
 ·exact .inr hd
 ·split
  ·exact .inl rfl
  ·split
   ·exact .inr hd
   ·split
    ·exact .inr hd
    ·split
     ·exact .inr hn.2.2
     ·exact .inl rfl
section
variable {L : List Asn} {h : Hp} {b bc : Nat} {S : StS}
theorem c_spacket {src dst proto now : Int} {data : List UInt8} {x : Sl} {K : Int → Hp → Prop} (hs : Sat (L ++ [stackA b bc S]) h) (ho : S.ok) (hr : ∀ h', Sat L h' → RdB h' x data) (hsrc : 0 ≤ src ∧ src < 4294967296) (hdst : 0 ≤ dst ∧ dst < 4294967296) (hp : 0 ≤ proto ∧ proto < 256) (hdl : data.length ≤ 100000) (hll : S.laid.length ≤ 900000000000)
  (hK : ∀ h', Sat (L ++ [stackA b bc (packetS S src dst proto data now).2]) h' → K (packetS S src dst proto data now).1 h') : C16 (some (bk b)) src dst proto x now h K := by
 apply S16; unfold N16
 obtain ⟨u, g⟩ := stack_open hs
 unfold skL at g
 have hid := ho.id
 simp only [nn_some', add_bk]
 refine g.lP 0 rfl rfl ?_
 have gt := g.part [0, 1, 3, 4, 5, 6, 2] (by decide) rfl (M1 := [row b 55 (skC S u), nicA u.n bc S.nic, cacheA u.c S.ca, portsA u.p S.tb, Hw.own 25 1 u.cl (uz S.clash), laidA u.la S.laid]) (M2 := [tableA u.r S.net])
 refine c_rhop gt ho.net fun h1 he1 => ?_
 have g1 := g.ext he1
 have hrng := hop_rng ho.net hdst
 by_cases k0 : (hopN S.net dst).1 = 0
 ·rw [show ((hopN S.net dst).1 == 0) = true by simp [k0], cond_true]
  have e : packetS S src dst proto data now = (102, S) := by unfold packetS; rw [if_pos k0]
  rw [e] at hK
  exact hK h1 (stack_shut (x := u) g1)
 ·rw [show ((hopN S.net dst).1 == 0) = false by simp [k0], cond_false]
  refine g1.lI 0 rfl rfl ?_
  have eid : IntKind.wrap .i64 (Int.tmod S.id 65535 + 1) = pktId S := by
   rw [Int.tmod_eq_emod_of_nonneg hid.1]
   unfold pktId
   exact wi64i (by omega) (by omega)
  rw [eid]
  have hpid : 1 ≤ pktId S ∧ pktId S ≤ 65535 := by unfold pktId; omega
  have hw : (pktH S src dst proto).well := ⟨⟨by show (0 : Int) ≤ 0; decide, by show (0 : Int) < 256; decide⟩, ⟨by show 0 ≤ pktId S; omega, by show pktId S < 65536; omega⟩, ⟨by show (1 : Int) ≤ 64; decide, by show (64 : Int) ≤ 255; decide⟩, hp⟩
  refine c_ienc (p := pktH S src dst proto) hsrc hdst (hr h1 g1.left) (by omega) (fun q => absurd hw q) (fun _ q h2 he2 => ?_) (fun _ q h2 y hy => ?_)
  ·rw [show ((2 : Int) != 0) = true from rfl, cond_true]
   have e : packetS S src dst proto data now = (2, S) := by unfold packetS; rw [if_neg k0, if_pos q]
   rw [e] at hK
   exact hK h2 (stack_shut (x := u) (g1.ext he2))
  ·rw [show ((0 : Int) != 0) = false from rfl, cond_false]
   have g2 := g1.addNew hy
   refine g2.st 0 rfl (by simp [skC]) rfl ?_
   intro h3 g3
   have pl : (ipL (pktH S src dst proto) data).length ≤ 1500 := by rw [ipL_len]; omega
   by_cases k1 : (hopN S.net dst).1 = 1
   ·rw [show ((hopN S.net dst).1 == 1) = true by simp [k1], cond_true]
    have e : packetS S src dst proto data now = (0, layAll { S with id := pktId S } [⟨oneEighty, 2048, ipL (pktH S src dst proto) data⟩]) := by unfold packetS; rw [if_neg k0, if_neg (by omega), if_pos k1]
    rw [e] at hK
    refine c_sall fun h4 he4 => ?_
    have g4 := Sat.part (Sat.ext g3 he4) [0, 1, 2, 3, 4, 5, 6, 7] (by decide) rfl (M1 := skL b bc { S with id := pktId S } u) (M2 := [Hw.own 5 1 y (Hw.bc (ipL (pktH S src dst proto) data))])
    refine snds_one (x := ⟨oneEighty, 2048, ipL (pktH S src dst proto) data⟩) g4 ?_
    intro z h5 g5
    have g6 : Sat ((L ++ [sndsA ⟨some (bk z), 1, 1⟩ [⟨oneEighty, 2048, ipL (pktH S src dst proto) data⟩]]) ++ skL b bc { S with id := pktId S } u) h5 := Sat.part (Sat.asc g5) [7, 0, 1, 2, 3, 4, 5, 6] (by decide) rfl
    have g7 := stack_shut g6
    refine c_slay (S := { S with id := pktId S }) ((Sat.asc g7).sel [1, 0] (by decide) rfl) ho.own ?_ (by simp) hll fun h6 g8 => hK h6 g8
    intro x' hx'
    simp at hx'
    subst hx'
    exact ⟨one8_ok, by show (ipL (pktH S src dst proto) data).length ≤ _; omega⟩
   ·rw [show ((hopN S.net dst).1 == 1) = false by simp [k1], cond_false]
    have e : packetS S src dst proto data now = (0, layAll { S with id := pktId S, ca := (askC (tellC S.ca now) src (hopN S.net dst).2 (ipL (pktH S src dst proto) data)).2 } (askC (tellC S.ca now) src (hopN S.net dst).2 (ipL (pktH S src dst proto) data)).1) := by unfold packetS; rw [if_neg k0, if_neg (by omega), if_neg k1]
    rw [e] at hK
    have hnr := hrng.resolve_left k0
    refine Sat.lP g3 0 rfl rfl ?_
    have g4 := Sat.part g3 [0, 1, 2, 4, 5, 6, 7, 3] (by decide) rfl (M1 := [row b 55 (skC { S with id := pktId S } u), nicA u.n bc S.nic, tableA u.r S.net, portsA u.p S.tb, Hw.own 25 1 u.cl (uz S.clash), laidA u.la S.laid, Hw.own 5 1 y (Hw.bc (ipL (pktH S src dst proto) data))]) (M2 := [cacheA u.c S.ca])
    refine n_ask g4 ho.ca (fun h' g' => (g'.own 6 rfl).rdb) (by omega) hsrc hnr fun s2 h5 g5 => ?_
    have g6 := Sat.part (Sat.asc g5) [8, 0, 1, 2, 7, 3, 4, 5] (by decide) rfl (M1 := [sndsA s2 (askC (tellC S.ca now) src (hopN S.net dst).2 (ipL (pktH S src dst proto) data)).1]) (M2 := skL b bc { S with id := pktId S, ca := (askC (tellC S.ca now) src (hopN S.net dst).2 (ipL (pktH S src dst proto) data)).2 } u)
    have g7 := stack_shut g6
    obtain ⟨n1, n2⟩ := ask_snd (ho.ca.tell now) (src := src) (ip := (hopN S.net dst).2) (pk := ipL (pktH S src dst proto) data) (by omega)
    exact c_slay (S := { S with id := pktId S, ca := (askC (tellC S.ca now) src (hopN S.net dst).2 (ipL (pktH S src dst proto) data)).2 }) ((Sat.asc g7).sel [1, 0] (by decide) rfl) ho.own n2 (by omega) hll fun h6 g8 => hK h6 g8
end
end Go.Proofs.YtbbnpmikjdgdpaaGreat

set_option linter.unusedVariables false
set_option maxRecDepth 100000
namespace Go.Proofs.YtbbnpmikjdgdpaaGreat
open Go Go.Hw
noncomputable def B6 : Code := match Tryz.f6.body with | some c => c | none => .skip
def N6_j0 (x0 : Option Addr) (x2 : Int) (x4 : Option Addr) (h : Hp) (Kr : Int → Hp → Prop) : Prop :=
 nn x4 fun a0 =>
 xI .u32 (cell h a0) fun n0 =>
 nn x4 fun a1 =>
 xI .u32 (cell h (a1.add 1)) fun n1 =>
 nn x4 fun a2 =>
 xI .i64 (cell h (a2.add 2)) fun n2 =>
 nn x4 fun a3 =>
 xI .i64 (cell h (a3.add 3)) fun n3 =>
 nn x4 fun a4 =>
 xL (cell h (a4.add 4)) fun s0 =>
 C15 n0 n1 n2 n3 s0 h fun s1 n4 h0 =>
 bif (n4 != 0) then
 Kr n4 h0
 else
 nn x4 fun a5 =>
 xI .u32 (cell h0 a5) fun n5 =>
 nn x4 fun a6 =>
 xI .u32 (cell h0 (a6.add 1)) fun n6 =>
 C16 x0 n5 n6 17 s1 x2 h0 fun n7 h1 =>
 Kr n7 h1
noncomputable def N6_j0_t : Xf := pieceT [(0, .c (.ptr)), (2, .c (.int .i64)), (4, .c (.ptr))] (codeAt B6 [1, 1]) fun x h Q => N6_j0 x.1 x.2.1 x.2.2 h (fun o0 h' => Q .ret (Sg.env [(6, .c (.int .i64))] o0) h')
theorem N6_j0_ok : Sound Tryz.prog Tryz.f6.ntmps N6_j0_t (codeAt B6 [1, 1]) := by
 refine piece_sound (fun e => match e with | .ret => [6] | _ => []) ?_
 intro x h Q hb
 refine den_sound hE hm _ .leaf _ _ _ (annOk_leaf) ?_
 refine cast ?_ hb
 kernel_rfl
def N6 (x0 : Option Addr) (x1_0 x1_1 x1_2 x1_3 : Int) (x1_4 : Sl) (x2 : Int) (h : Hp) (K : Int → Hp → Prop) : Prop :=
 nw h (.cells ⟨[.int .u32 x1_0, .int .u32 x1_1, .int .i64 x1_2, .int .i64 x1_3, .slice x1_4.p x1_4.n x1_4.c]⟩ 36) fun b0 h0 =>
 xI .u32 (cell h0 (bk b0)) fun n0 =>
 bif (n0 != 0) then
 xI .u32 (cell h0 (bk b0)) fun n1 =>
 C14 x0 h0 fun n2 h1 =>
 both (xI .u32 (cell h1 (bk b0)) fun n3 => Only (.int .u32 n1) h1 (.int .u32 n3) h1) <|
 bif (n1 != n2) then
 K 1 h1
 else
 xI .u32 (cell h1 (bk b0)) fun n4 =>
 bif (n4 == 0) then
 xI .u32 (cell h1 ((bk b0).add 1)) fun n5 =>
 bif (n5 != 4294967295) then
 K 1 h1
 else
 N6_j0 x0 x2 (some (bk b0)) h1
 (fun n6 h2 =>
 K n6 h2)
 else
 N6_j0 x0 x2 (some (bk b0)) h1
 (fun n7 h3 =>
 K n7 h3)
 else
 xI .u32 (cell h0 (bk b0)) fun n8 =>
 bif (n8 == 0) then
 xI .u32 (cell h0 ((bk b0).add 1)) fun n9 =>
 bif (n9 != 4294967295) then
 K 1 h0
 else
 N6_j0 x0 x2 (some (bk b0)) h0
 (fun n10 h4 =>
 K n10 h4)
 else
 N6_j0 x0 x2 (some (bk b0)) h0
 (fun n11 h5 =>
 K n11 h5)
theorem S6 {x0 : Option Addr} {x1_0 x1_1 x1_2 x1_3 : Int} {x1_4 : Sl} {x2 : Int} {h : Hp} {K : Int → Hp → Prop} (hn : N6 x0 x1_0 x1_1 x1_2 x1_3 x1_4 x2 h K) : C6 x0 x1_0 x1_1 x1_2 x1_3 x1_4 x2 h K := by
 refine calls_of_D Tryz.func6 (c := B6) rfl (by kernel_rfl) ?_
 refine den_sound hE hm _ (.two .leaf (.two (.two (.ord [0, 1, 2, 3, 4, 5, 6, 7, 8, 9, 10, 11, 12, 13, 14, 15, 16, 17, 18, 19]) .leaf) (.xf N6_j0_t))) _ _ _ (⟨annOk_leaf, ⟨⟨trivial, annOk_leaf⟩, N6_j0_ok⟩⟩) ?_
 refine cast ?_ hn
 kernel_rfl
end Go.Proofs.YtbbnpmikjdgdpaaGreat

set_option linter.unusedVariables false
set_option maxRecDepth 100000
namespace Go.Proofs.YtbbnpmikjdgdpaaGreat
open Go Go.Hw
noncomputable def B8 : Code := match Tryz.f8.body with | some c => c | none => .skip
def N8 (x0 : Option Addr) (x1 : Int) (h : Hp) (K : Int → Int → Int → Int → Sl → Bool → Hp → Prop) : Prop :=
 nw h (.cells ⟨[.int .u32 0, .int .u32 0, .int .i64 0, .int .i64 0, .slice none 0 0]⟩ 36) fun b0 h0 =>
 nn x0 fun a0 =>
 xP (cell h0 (a0.add 3)) fun p0 =>
 C20 p0 x1 h0 fun n0 n1 n2 n3 s0 b1 h1 =>
 st h1 (bk b0) (.int .u32 n0) fun h2 =>
 st h2 ((bk b0).add 1) (.int .u32 n1) fun h3 =>
 st h3 ((bk b0).add 2) (.int .i64 n2) fun h4 =>
 st h4 ((bk b0).add 3) (.int .i64 n3) fun h5 =>
 st h5 ((bk b0).add 4) (.slice s0.p s0.n s0.c) fun h6 =>
 xI .u32 (cell h6 (bk b0)) fun n4 =>
 xI .u32 (cell h6 ((bk b0).add 1)) fun n5 =>
 xI .i64 (cell h6 ((bk b0).add 2)) fun n6 =>
 xI .i64 (cell h6 ((bk b0).add 3)) fun n7 =>
 xL (cell h6 ((bk b0).add 4)) fun s1 =>
 K n4 n5 n6 n7 s1 b1 h6
theorem S8 {x0 : Option Addr} {x1 : Int} {h : Hp} {K : Int → Int → Int → Int → Sl → Bool → Hp → Prop} (hn : N8 x0 x1 h K) : C8 x0 x1 h K := by
 refine calls_of_M Tryz.func8 (c := B8) rfl (by kernel_rfl) ?_
 refine den_sound hE hm _ .leaf _ _ _ (annOk_leaf) ?_
 refine cast ?_ hn
 kernel_rfl
end Go.Proofs.YtbbnpmikjdgdpaaGreat

/-
 The stack: Send, Take.
-/
set_option linter.unusedSimpArgs false
set_option linter.unusedVariables false
set_option maxRecDepth 20000
namespace Go.Proofs.YtbbnpmikjdgdpaaGreat
open Go Go.Hw
noncomputable def sendS (S : StS) (a b sp dp : Int) (data : List UInt8) (now : Int) : Int × StS :=
 if (a ≠ 0 ∧ a ≠ S.net.ip) ∨ (a = 0 ∧ b ≠ 4294967295) then (1, S) else if udpE sp dp data ≠ 0 then (udpE sp dp data, S) else packetS S a b 17 (udpL a b sp dp data) now
section
variable {L : List Asn} {h : Hp} {b bc : Nat} {S : StS}
theorem c_ssend {si di sp dp now : Int} {data : List UInt8} {x : Sl} {K : Int → Hp → Prop} (hs : Sat (L ++ [stackA b bc S]) h) (ho : S.ok) (hr : ∀ h', Sat L h' → RdB h' x data) (hsi : 0 ≤ si ∧ si < 4294967296) (hdi : 0 ≤ di ∧ di < 4294967296) (hdl : data.length ≤ 1099511627776) (hll : S.laid.length ≤ 900000000000)
  (hK : ∀ h', Sat (L ++ [stackA b bc (sendS S si di sp dp data now).2]) h' → K (sendS S si di sp dp data now).1 h') : C6 (some (bk b)) si di sp dp x now h K := by
 apply S6; unfold N6
 refine hs.nw ?_
 intro z h1 g _
 have g : Sat (L ++ [stackA b bc S, row z 36 [.int .u32 si, .int .u32 di, .int .i64 sp, .int .i64 dp, x.v]]) h1 := g
 have bad : ((si ≠ 0 ∧ si ≠ S.net.ip) ∨ (si = 0 ∧ di ≠ 4294967295)) → K 1 h1 := by
  intro q
  have e : sendS S si di sp dp data now = (1, S) := by unfold sendS; rw [if_pos q]
  rw [e] at hK
  exact hK h1 (g.sel [0] (by decide) rfl)
 have go : ¬((si ≠ 0 ∧ si ≠ S.net.ip) ∨ (si = 0 ∧ di ≠ 4294967295)) → N6_j0 (some (bk b)) now (some (bk z)) h1 fun n h' => K n h' := by
  intro q
  have e0 : sendS S si di sp dp data now = if udpE sp dp data ≠ 0 then (udpE sp dp data, S) else packetS S si di 17 (udpL si di sp dp data) now := by unfold sendS; rw [if_neg q]
  rw [e0] at hK
  unfold N6_j0
  simp only [nn_some', add_bk]
  refine g.lI 1 (k := 0) rfl rfl ?_
  refine g.lI 1 rfl rfl ?_
  refine g.lI 1 rfl rfl ?_
  refine g.lI 1 rfl rfl ?_
  refine g.lL 1 rfl rfl ?_
  refine c_uenc hsi hdi (hr h1 g.left) hdl (fun q1 h2 he => ?_) (fun q1 h2 y hy => ?_)
  ·rw [show (udpE sp dp data != 0) = true by simp [q1], cond_true]
   rw [if_pos q1] at hK
   exact hK h2 ((g.ext he).sel [0] (by decide) rfl)
  ·rw [show ((0 : Int) != 0) = false from rfl, cond_false]
   rw [if_neg (by simp [q1])] at hK
   have g2 := g.addNew hy
   have g2 : Sat (L ++ [stackA b bc S, row z 36 [.int .u32 si, .int .u32 di, .int .i64 sp, .int .i64 dp, x.v], Hw.own 5 1 y (Hw.bc (udpL si di sp dp data))]) h2 := g2
   refine g2.lI 1 (k := 0) rfl rfl ?_
   refine g2.lI 1 rfl rfl ?_
   have g3 : Sat ((L ++ [Hw.own 5 1 y (Hw.bc (udpL si di sp dp data))]) ++ [stackA b bc S]) h2 := g2.part [2, 0] (by decide) rfl
   have hlen : (udpL si di sp dp data).length ≤ 1480 := by
    have : data.length ≤ 1472 := by
     unfold udpE at q1
     split at q1
     ·cases q1
     ·split at q1
      ·cases q1
      ·split at q1
       ·cases q1
       ·omega
    show (udpH _ _ _ _).length ≤ 1480
    rw [udpH_len]; omega
   refine c_spacket g3 ho (fun h' g' => (g'.own 0 rfl).rdb) hsi hdi ⟨by decide, by decide⟩ (by omega) hll fun h3 g4 => ?_
   exact hK h3 ((Sat.asc g4).sel [1] (by decide) rfl)
 simp only [add_bk]
 refine g.lI 1 (k := 0) rfl rfl ?_
 by_cases k1 : si = 0
 ·rw [show (si != 0) = false by simp [k1], cond_false]
  refine g.lI 1 (k := 0) rfl rfl ?_
  rw [show (si == 0) = true by simp [k1], cond_true]
  refine g.lI 1 rfl rfl ?_
  by_cases k2 : di = 4294967295
  ·rw [show (di != 4294967295) = false by simp [k2], cond_false]
   exact go (by omega)
  ·rw [show (di != 4294967295) = true by simp [k2], cond_true]
   exact bad (.inr ⟨k1, k2⟩)
 ·rw [show (si != 0) = true by simp [k1], cond_true]
  refine g.lI 1 (k := 0) rfl rfl ?_
  refine c_sown (g.part [1, 0] (by decide) rfl (M1 := [row z 36 [.int .u32 si, .int .u32 di, .int .i64 sp, .int .i64 dp, x.v]]) (M2 := [stackA b bc S])) ?_
  refine ⟨g.lI 1 (k := 0) rfl rfl ⟨rfl, rfl⟩, ?_⟩
  by_cases k2 : si = S.net.ip
  ·rw [show (si != S.net.ip) = false by simp [k2], cond_false]
   refine g.lI 1 (k := 0) rfl rfl ?_
   rw [show (si == 0) = false by simp [k1], cond_false]
   exact go (by omega)
  ·rw [show (si != S.net.ip) = true by simp [k2], cond_true]
   exact bad (.inl ⟨k1, k2⟩)
theorem c_stake {n : Int} {K : Int → Int → Int → Int → Sl → Bool → Hp → Prop} (hs : Sat (L ++ [stackA b bc S]) h) (hn : NodN S.tb.ps)
  (hnone : (takeT S.tb n).1 = none → ∀ h', Sat (L ++ [stackA b bc { S with tb := (takeT S.tb n).2 }]) h' → K 0 0 0 0 ⟨none, 0, 0⟩ false h')
  (hK : ∀ d, (takeT S.tb n).1 = some d → ∀ s h', Sat (L ++ [stackA b bc { S with tb := (takeT S.tb n).2 }, Hw.own 5 1 s (Hw.bc d.data)]) h' → K d.a d.b d.c d.d s true h') : C8 (some (bk b)) n h K := by
 apply S8; unfold N8
 refine hs.nw ?_
 intro z h1 g _
 have g : Sat (L ++ [stackA b bc S, row z 36 [.int .u32 0, .int .u32 0, .int .i64 0, .int .i64 0, .slice none 0 0]]) h1 := g
 have g2 : Sat ((L ++ [row z 36 [.int .u32 0, .int .u32 0, .int .i64 0, .int .i64 0, .slice none 0 0]]) ++ [stackA b bc S]) h1 := g.part [1, 0] (by decide) rfl
 obtain ⟨u, g3⟩ := stack_open g2
 unfold skL at g3
 simp only [nn_some', add_bk]
 refine g3.lP 0 rfl rfl ?_
 have g4 := g3.part [0, 1, 2, 3, 5, 6, 4] (by decide) rfl (M1 := [row b 55 (skC S u), nicA u.n bc S.nic, tableA u.r S.net, cacheA u.c S.ca, Hw.own 25 1 u.cl (uz S.clash), laidA u.la S.laid]) (M2 := [portsA u.p S.tb])
 refine p_take g4 hn (fun q h2 g5 => ?_) (fun d q s h2 g5 => ?_)
 ·have g6 := stack_shut (S := { S with tb := (takeT S.tb n).2 }) (x := u) ((Sat.asc g5).sel [0, 1, 2, 3, 6, 4, 5] (by decide) rfl)
  have hs := Sat.asc g6
  simp only [List.cons_append, List.nil_append] at hs
  refine Sat.st hs 0 (k := 0) rfl (by simp) rfl fun h7 hs => ?_
  simp only [List.set_cons_zero, List.set_cons_succ] at hs
  refine Sat.st hs 0 rfl (by simp) rfl fun h7 hs => ?_
  simp only [List.set_cons_zero, List.set_cons_succ] at hs
  refine Sat.st hs 0 rfl (by simp) rfl fun h7 hs => ?_
  simp only [List.set_cons_zero, List.set_cons_succ] at hs
  refine Sat.st hs 0 rfl (by simp) rfl fun h7 hs => ?_
  simp only [List.set_cons_zero, List.set_cons_succ] at hs
  refine Sat.st hs 0 rfl (by simp) rfl fun h7 hs => ?_
  simp only [List.set_cons_zero, List.set_cons_succ] at hs
  refine Sat.lI hs 0 (k := 0) rfl rfl ?_
  refine Sat.lI hs 0 rfl rfl ?_
  refine Sat.lI hs 0 rfl rfl ?_
  refine Sat.lI hs 0 rfl rfl ?_
  refine Sat.lL hs 0 rfl rfl ?_
  exact hnone q _ (hs.sel [1] (by decide) rfl)
 ·have g6 : Sat ((L ++ [row z 36 [.int .u32 0, .int .u32 0, .int .i64 0, .int .i64 0, .slice none 0 0], Hw.own 5 1 s (Hw.bc d.data)]) ++ skL b bc { S with tb := (takeT S.tb n).2 } u) h2 := Sat.part (Sat.asc (Sat.asc g5)) [0, 8, 1, 2, 3, 4, 7, 5, 6] (by decide) rfl
  have hs := Sat.asc (stack_shut g6)
  simp only [List.cons_append, List.nil_append] at hs
  refine Sat.st hs 0 (k := 0) rfl (by simp) rfl fun h7 hs => ?_
  simp only [List.set_cons_zero, List.set_cons_succ] at hs
  refine Sat.st hs 0 rfl (by simp) rfl fun h7 hs => ?_
  simp only [List.set_cons_zero, List.set_cons_succ] at hs
  refine Sat.st hs 0 rfl (by simp) rfl fun h7 hs => ?_
  simp only [List.set_cons_zero, List.set_cons_succ] at hs
  refine Sat.st hs 0 rfl (by simp) rfl fun h7 hs => ?_
  simp only [List.set_cons_zero, List.set_cons_succ] at hs
  refine Sat.st hs 0 rfl (by simp) rfl fun h7 hs => ?_
  simp only [List.set_cons_zero, List.set_cons_succ] at hs
  refine Sat.lI hs 0 (k := 0) rfl rfl ?_
  refine Sat.lI hs 0 rfl rfl ?_
  refine Sat.lI hs 0 rfl rfl ?_
  refine Sat.lI hs 0 rfl rfl ?_
  refine Sat.lL hs 0 rfl rfl ?_
  exact hK d q s _ (hs.sel [2, 1] (by decide) rfl)
end
end Go.Proofs.YtbbnpmikjdgdpaaGreat

set_option linter.unusedVariables false
set_option maxRecDepth 100000
namespace Go.Proofs.YtbbnpmikjdgdpaaGreat
open Go Go.Hw
noncomputable def B11 : Code := match Tryz.f11.body with | some c => c | none => .skip
def N11 (x0 : Option Addr) (h : Hp) (K : Option Addr → Hp → Prop) : Prop :=
 peq h x0 none fun b0 =>
 bif b0 then
 K none h
 else
 C21 h fun p0 h0 =>
 C23 x0 h0 fun n0 n1 n2 n3 n4 n5 h1 =>
 C22 n0 n1 n2 n3 n4 n5 64 h1 fun p1 h2 =>
 C24 16 32 h2 fun p2 h3 =>
 nw h3 (.cells ⟨[.pointer x0, .pointer p0, .pointer p1, .pointer p2, .int .i64 0, .int .u32 0, .slice none 0 0, .slice none 0 0]⟩ 55) fun b1 h4 =>
 K (some (bk b1)) h4
theorem S11 {x0 : Option Addr} {h : Hp} {K : Option Addr → Hp → Prop} (hn : N11 x0 h K) : C11 x0 h K := by
 refine calls_of_D Tryz.func11 (c := B11) rfl (by kernel_rfl) ?_
 refine den_sound hE hm _ .leaf _ _ _ (annOk_leaf) ?_
 refine cast ?_ hn
 kernel_rfl
end Go.Proofs.YtbbnpmikjdgdpaaGreat

set_option linter.unusedVariables false
set_option maxRecDepth 100000
namespace Go.Proofs.YtbbnpmikjdgdpaaGreat
open Go Go.Hw
noncomputable def B12 : Code := match Tryz.f12.body with | some c => c | none => .skip
def N12_j0 (x0 : Option Addr) (x30 : Bool) (h : Hp) (Kn : Hp → Prop) : Prop :=
 bif x30 then
 nn x0 fun a0 =>
 xP (cell h (a0.add 2)) fun p0 =>
 C26 p0 h fun h0 =>
 Kn h0
 else
 Kn h
noncomputable def N12_j0_t : Xf := pieceT [(0, .c (.ptr)), (30, .c (.bool))] (codeAt B12 [1, 1, 1, 0, 1]) fun x h Q => N12_j0 x.1 x.2 h (fun h' => Q .normal (Sg.env [] ()) h')
theorem N12_j0_ok : Sound Tryz.prog Tryz.f12.ntmps N12_j0_t (codeAt B12 [1, 1, 1, 0, 1]) := by
 refine piece_sound (fun e => match e with | .normal => [] | _ => []) ?_
 intro x h Q hb
 refine den_sound hE hm _ .leaf _ _ _ (annOk_leaf) ?_
 refine cast ?_ hb
 kernel_rfl
def N12_j1 (x0 : Option Addr) (h : Hp) (Kr : Int → Hp → Prop) : Prop :=
 nn x0 fun a0 =>
 st h (a0.add 5) (.int .u32 0) fun h0 =>
 Kr 0 h0
noncomputable def N12_j1_t : Xf := pieceT [(0, .c (.ptr))] (codeAt B12 [1, 1, 1, 1]) fun x h Q => N12_j1 x h (fun o0 h' => Q .ret (Sg.env [(8, .c (.int .i64))] o0) h')
theorem N12_j1_ok : Sound Tryz.prog Tryz.f12.ntmps N12_j1_t (codeAt B12 [1, 1, 1, 1]) := by
 refine piece_sound (fun e => match e with | .ret => [8] | _ => []) ?_
 intro x h Q hb
 refine den_sound hE hm _ .leaf _ _ _ (annOk_leaf) ?_
 refine cast ?_ hb
 kernel_rfl
def N12 (x0 : Option Addr) (x1 x2 x3 : Int) (h : Hp) (K : Int → Hp → Prop) : Prop :=
 C14 x0 h fun n0 h0 =>
 nn x0 fun a0 =>
 xP (cell h0 (a0.add 1)) fun p0 =>
 C25 p0 x1 x2 x3 h0 fun n1 h1 =>
 bif (n1 != 0) then
 K n1 h1
 else
 bif (n0 != 0) then
 N12_j0 x0 (n0 != x1) h1
 (fun h2 =>
 N12_j1 x0 h2
 (fun n2 h3 =>
 K n2 h3))
 else
 N12_j0 x0 false h1
 (fun h4 =>
 N12_j1 x0 h4
 (fun n3 h5 =>
 K n3 h5))
theorem S12 {x0 : Option Addr} {x1 x2 x3 : Int} {h : Hp} {K : Int → Hp → Prop} (hn : N12 x0 x1 x2 x3 h K) : C12 x0 x1 x2 x3 h K := by
 refine calls_of_D Tryz.func12 (c := B12) rfl (by kernel_rfl) ?_
 refine den_sound hE hm _ (.two .leaf (.two .leaf (.two .leaf (.two (.two .leaf (.xf N12_j0_t)) (.xf N12_j1_t))))) _ _ _ (⟨annOk_leaf, ⟨annOk_leaf, ⟨annOk_leaf, ⟨⟨annOk_leaf, N12_j0_ok⟩, N12_j1_ok⟩⟩⟩⟩) ?_
 refine cast ?_ hn
 kernel_rfl
end Go.Proofs.YtbbnpmikjdgdpaaGreat

/-
 The stack: New, Address.
-/
set_option linter.unusedSimpArgs false
set_option linter.unusedVariables false
set_option maxRecDepth 20000
namespace Go.Proofs.YtbbnpmikjdgdpaaGreat
open Go Go.Hw
noncomputable def addrS (S : StS) (ip mask router : Int) : Int × StS :=
 if (setN S.net ip mask router).1 ≠ 0 then ((setN S.net ip mask router).1, { S with net := (setN S.net ip mask router).2 })
 else (0, { S with net := (setN S.net ip mask router).2, watched := 0, ca := if S.net.ip ≠ 0 ∧ S.net.ip ≠ ip then { S.ca with l := [] } else S.ca })
section
variable {L : List Asn} {h : Hp} {b bc : Nat} {S : StS}
theorem c_saddr {ip mask router : Int} {K : Int → Hp → Prop} (hs : Sat (L ++ [stackA b bc S]) h) (h1 : 0 ≤ ip ∧ ip < 4294967296) (h2 : 0 ≤ mask ∧ mask < 4294967296) (h3 : 0 ≤ router ∧ router < 4294967296)
  (hK : ∀ h', Sat (L ++ [stackA b bc (addrS S ip mask router).2]) h' → K (addrS S ip mask router).1 h') : C12 (some (bk b)) ip mask router h K := by
 apply S12; unfold N12
 refine c_sown hs ?_
 obtain ⟨u, g⟩ := stack_open hs
 unfold skL at g
 simp only [nn_some', add_bk]
 refine g.lP 0 rfl rfl ?_
 have g1 := g.part [0, 1, 3, 4, 5, 6, 2] (by decide) rfl (M1 := [row b 55 (skC S u), nicA u.n bc S.nic, cacheA u.c S.ca, portsA u.p S.tb, Hw.own 25 1 u.cl (uz S.clash), laidA u.la S.laid]) (M2 := [tableA u.r S.net])
 refine c_rset g1 h1 h2 h3 fun h4 g2 => ?_
 by_cases k1 : (setN S.net ip mask router).1 = 0
 ·rw [show ((setN S.net ip mask router).1 != 0) = false by simp [k1], cond_false]
  have e : addrS S ip mask router = (0, { S with net := (setN S.net ip mask router).2, watched := 0, ca := if S.net.ip ≠ 0 ∧ S.net.ip ≠ ip then { S.ca with l := [] } else S.ca }) := by unfold addrS; rw [if_neg (by simp [k1])]
  rw [e] at hK
  have g3 := Sat.asc g2
  have fin : ∀ {c : Ca} {h' : Hp}, c = (if S.net.ip ≠ 0 ∧ S.net.ip ≠ ip then { S.ca with l := [] } else S.ca) → Sat (L ++ [row b 55 (skC S u), nicA u.n bc S.nic, tableA u.r (setN S.net ip mask router).2, cacheA u.c c, portsA u.p S.tb, Hw.own 25 1 u.cl (uz S.clash), laidA u.la S.laid]) h' →
    N12_j1 (some (bk b)) h' fun n h'' => K n h'' := by
   rintro c h' rfl g
   unfold N12_j1
   simp only [nn_some', add_bk]
   refine g.st 0 rfl (by simp [skC]) rfl ?_
   intro h5 g5
   exact hK h5 (stack_shut (S := { S with net := (setN S.net ip mask router).2, watched := 0, ca := if S.net.ip ≠ 0 ∧ S.net.ip ≠ ip then { S.ca with l := [] } else S.ca }) (x := u) g5)
  unfold N12_j0
  by_cases k2 : S.net.ip = 0
  ·rw [show (S.net.ip != 0) = false by simp [k2], cond_false, cond_false]
   exact fin (c := S.ca) (by rw [if_neg (fun q => q.1 k2)]) (g3.sel [0, 1, 6, 2, 3, 4, 5] (by decide) rfl)
  ·rw [show (S.net.ip != 0) = true by simp [k2], cond_true]
   by_cases k3 : S.net.ip = ip
   ·rw [show (S.net.ip != ip) = false by simp [k3], cond_false]
    exact fin (c := S.ca) (by rw [if_neg (fun q => q.2 k3)]) (g3.sel [0, 1, 6, 2, 3, 4, 5] (by decide) rfl)
   ·rw [show (S.net.ip != ip) = true by simp [k3], cond_true]
    simp only [nn_some', add_bk]
    refine g3.lP 0 rfl rfl ?_
    have g4 := g3.part [0, 1, 6, 3, 4, 5, 2] (by decide) rfl (M1 := [row b 55 (skC S u), nicA u.n bc S.nic, tableA u.r (setN S.net ip mask router).2, portsA u.p S.tb, Hw.own 25 1 u.cl (uz S.clash), laidA u.la S.laid]) (M2 := [cacheA u.c S.ca])
    refine n_clear g4 fun h5 g5 => ?_
    exact fin (c := { S.ca with l := [] }) (by rw [if_pos ⟨k2, k3⟩]) ((Sat.asc g5).sel [0, 1, 2, 6, 3, 4, 5] (by decide) rfl)
 ·rw [show ((setN S.net ip mask router).1 != 0) = true by simp [k1], cond_true]
  have e : addrS S ip mask router = ((setN S.net ip mask router).1, { S with net := (setN S.net ip mask router).2 }) := by unfold addrS; rw [if_pos k1]
  rw [e] at hK
  exact hK h4 (stack_shut (S := { S with net := (setN S.net ip mask router).2 }) (x := u) ((Sat.asc g2).sel [0, 1, 6, 2, 3, 4, 5] (by decide) rfl))
theorem c_snew {n : Nat} {N : NcS} {K : Option Addr → Hp → Prop} (hs : Sat (L ++ [nicA n bc N]) h)
  (hK : ∀ b h', Sat (L ++ [stackA b bc ⟨N, ⟨0, 0, 0⟩, ⟨N.own, 64, [], 0⟩, ⟨16, 32, []⟩, 0, 0, [], []⟩]) h' → K (some (bk b)) h') : C11 (some (bk n)) h K := by
 apply S11; unfold N11
 simp only [peq_none, Option.isNone_some, cond_false]
 refine c_rnew hs fun r h1 g1 => ?_
 have g2 : Sat ((L ++ [tableA r ⟨0, 0, 0⟩]) ++ [nicA n bc N]) h1 := g1.part [1, 0] (by decide) rfl
 refine c_nown g2 fun h2 he => ?_
 have g3 : Sat (L ++ [nicA n bc N, tableA r ⟨0, 0, 0⟩]) h2 := g1.ext he
 refine n_new g3 (fun q => by omega) (fun _ c h3 g4 => ?_)
 refine p_new g4 (fun q => by omega) (fun _ p h4 g5 => ?_)
 have g5 : Sat (L ++ [nicA n bc N, tableA r ⟨0, 0, 0⟩, cacheA c ⟨N.own, 64, [], 0⟩, portsA p ⟨16, 32, []⟩]) h4 := g5
 refine Sat.nw g5 ?_
 intro b h5 g6 _
 have g7 := Sat.addNil 25 1 g6
 have g8 : Sat (L ++ [nicA n bc N, tableA r ⟨0, 0, 0⟩, cacheA c ⟨N.own, 64, [], 0⟩, portsA p ⟨16, 32, []⟩, row b 55 [.pointer (some (bk n)), .pointer (some (bk r)), .pointer (some (bk c)), .pointer (some (bk p)), .int .i64 0, .int .u32 0, .slice none 0 0, .slice none 0 0], Hw.own 25 1 ⟨none, 0, 0⟩ []]) h5 := g7
 have g9 := Sat.addNil 32 1 g8
 have g10 : Sat ((L ++ [nicA n bc N, tableA r ⟨0, 0, 0⟩, cacheA c ⟨N.own, 64, [], 0⟩, portsA p ⟨16, 32, []⟩, row b 55 [.pointer (some (bk n)), .pointer (some (bk r)), .pointer (some (bk c)), .pointer (some (bk p)), .int .i64 0, .int .u32 0, .slice none 0 0, .slice none 0 0], Hw.own 25 1 ⟨none, 0, 0⟩ [], Hw.own 32 1 ⟨none, 0, 0⟩ []]) ++ []) h5 := by rw [List.append_nil]; exact g9
 have g11 : Sat (L ++ [nicA n bc N, tableA r ⟨0, 0, 0⟩, cacheA c ⟨N.own, 64, [], 0⟩, portsA p ⟨16, 32, []⟩, row b 55 [.pointer (some (bk n)), .pointer (some (bk r)), .pointer (some (bk c)), .pointer (some (bk p)), .int .i64 0, .int .u32 0, .slice none 0 0, .slice none 0 0], Hw.own 25 1 ⟨none, 0, 0⟩ [], Hw.own 32 1 ⟨none, 0, 0⟩ [], star []]) h5 := Sat.asc g10.close
 have g12 := g11.part [0, 1, 2, 3, 4, 5, 6, 7] (by decide) rfl (M1 := [nicA n bc N, tableA r ⟨0, 0, 0⟩, cacheA c ⟨N.own, 64, [], 0⟩, portsA p ⟨16, 32, []⟩, row b 55 [.pointer (some (bk n)), .pointer (some (bk r)), .pointer (some (bk c)), .pointer (some (bk p)), .int .i64 0, .int .u32 0, .slice none 0 0, .slice none 0 0], Hw.own 25 1 ⟨none, 0, 0⟩ []]) (M2 := [Hw.own 32 1 ⟨none, 0, 0⟩ (([] : List (List UInt8 × Sl)).map fun x => x.2.v), star (([] : List (List UInt8 × Sl)).map fun x => Hw.own 5 1 x.2 (Hw.bc x.1))])
 have g13 := Sat.asc (laid_shut (o := []) g12 rfl)
 exact hK b h5 (stack_shut (S := ⟨N, ⟨0, 0, 0⟩, ⟨N.own, 64, [], 0⟩, ⟨16, 32, []⟩, 0, 0, [], []⟩) (x := ⟨n, r, c, p, ⟨none, 0, 0⟩, ⟨none, 0, 0⟩⟩) (g13.sel [4, 0, 1, 2, 3, 5, 6] (by decide) rfl))
end
end Go.Proofs.YtbbnpmikjdgdpaaGreat

set_option linter.unusedVariables false
set_option maxRecDepth 100000
namespace Go.Proofs.YtbbnpmikjdgdpaaGreat
open Go Go.Hw
noncomputable def B45 : Code := match Tryz.f45.body with | some c => c | none => .skip
def N45 (x0 : Option Addr) (x1_0 x1_1 x1_2 x1_3 : Int) (x1_4 : Bool) (x1_5 x1_6 : Int) (h : Hp) (K : Bool → Hp → Prop) : Prop :=
 nw h (.cells ⟨[.int .i64 x1_0, .int .i64 x1_1, .int .i64 x1_2, .int .i64 x1_3, .bool x1_4, .int .u32 x1_5, .int .u32 x1_6]⟩ 96) fun b0 h0 =>
 nn x0 fun a0 =>
 xP (cell h0 (a0.add 1)) fun p0 =>
 xI .u32 (cell h0 ((bk b0).add 6)) fun n0 =>
 C71 p0 n0 h0 fun b1 h1 =>
 bif b1 then
 xI .u32 (cell h1 ((bk b0).add 5)) fun n1 =>
 C47 n1 h1 fun b2 h2 =>
 K b2 h2
 else
 K false h1
theorem S45 {x0 : Option Addr} {x1_0 x1_1 x1_2 x1_3 : Int} {x1_4 : Bool} {x1_5 x1_6 : Int} {h : Hp} {K : Bool → Hp → Prop} (hn : N45 x0 x1_0 x1_1 x1_2 x1_3 x1_4 x1_5 x1_6 h K) : C45 x0 x1_0 x1_1 x1_2 x1_3 x1_4 x1_5 x1_6 h K := by
 refine calls_of_D Tryz.func45 (c := B45) rfl (by kernel_rfl) ?_
 refine den_sound hE hm _ (.two .leaf (.two (.ord [0, 1, 2, 3, 4, 5, 6, 7, 8, 9, 10, 11, 12]) .leaf)) _ _ _ (⟨annOk_leaf, ⟨trivial, annOk_leaf⟩⟩) ?_
 refine cast ?_ hn
 kernel_rfl
end Go.Proofs.YtbbnpmikjdgdpaaGreat

set_option linter.unusedVariables false
set_option maxRecDepth 100000
namespace Go.Proofs.YtbbnpmikjdgdpaaGreat
open Go Go.Hw
noncomputable def B138 : Code := match Tryz.f138.body with | some c => c | none => .skip
def N138_j0 (x0 : Option Addr) (x1 : Int) (x26 : Bool) (h : Hp) (Kn : Hp → Prop) : Prop :=
 bif x26 then
 nn x0 fun a0 =>
 xL (cell h (a0.add 6)) fun s0 =>
 nw h (.cells ⟨[.int .u32 x1]⟩ 25) fun b0 h0 =>
 apK Tryz.prog 25 s0 (.slice (some (bk b0)) 1 1) h0 fun s1 h1 =>
 nn x0 fun a1 =>
 st h1 (a1.add 6) (.slice s1.p s1.n s1.c) fun h2 =>
 Kn h2
 else
 Kn h
noncomputable def N138_j0_t : Xf := pieceT [(0, .c (.ptr)), (1, .c (.int .u32)), (26, .c (.bool))] (codeAt B138 [1, 1]) fun x h Q => N138_j0 x.1 x.2.1 x.2.2 h (fun h' => Q .normal (Sg.env [] ()) h')
theorem N138_j0_ok : Sound Tryz.prog Tryz.f138.ntmps N138_j0_t (codeAt B138 [1, 1]) := by
 refine piece_sound (fun e => match e with | .normal => [] | _ => []) ?_
 intro x h Q hb
 refine den_sound hE hm _ .leaf _ _ _ (annOk_leaf) ?_
 refine cast ?_ hb
 kernel_rfl
def N138 (x0 : Option Addr) (x1 x2_0 x2_1 x2_2 x2_3 x2_4 x2_5 x2_6 x2_7 x2_8 x2_9 x2_10 x2_11 x2_12 x2_13 x2_14 : Int) (h : Hp) (K : Hp → Prop) : Prop :=
 nw h (.cells ⟨[.int .i64 x2_0, .int .u8 x2_1, .int .u8 x2_2, .int .u8 x2_3, .int .u8 x2_4, .int .u8 x2_5, .int .u8 x2_6, .int .u32 x2_7, .int .u8 x2_8, .int .u8 x2_9, .int .u8 x2_10, .int .u8 x2_11, .int .u8 x2_12, .int .u8 x2_13, .int .u32 x2_14]⟩ 160) fun b0 h0 =>
 bif (x1 != 0) then
 nn x0 fun a0 =>
 xP (cell h0 a0) fun p0 =>
 xI .i64 (cell h0 (bk b0)) fun n0 =>
 xI .u8 (cell h0 ((bk b0).add 1)) fun n1 =>
 xI .u8 (cell h0 ((bk b0).add 2)) fun n2 =>
 xI .u8 (cell h0 ((bk b0).add 3)) fun n3 =>
 xI .u8 (cell h0 ((bk b0).add 4)) fun n4 =>
 xI .u8 (cell h0 ((bk b0).add 5)) fun n5 =>
 xI .u8 (cell h0 ((bk b0).add 6)) fun n6 =>
 xI .u32 (cell h0 ((bk b0).add 7)) fun n7 =>
 xI .u8 (cell h0 ((bk b0).add 8)) fun n8 =>
 xI .u8 (cell h0 ((bk b0).add 9)) fun n9 =>
 xI .u8 (cell h0 ((bk b0).add 10)) fun n10 =>
 xI .u8 (cell h0 ((bk b0).add 11)) fun n11 =>
 xI .u8 (cell h0 ((bk b0).add 12)) fun n12 =>
 xI .u8 (cell h0 ((bk b0).add 13)) fun n13 =>
 xI .u32 (cell h0 ((bk b0).add 14)) fun n14 =>
 C23 p0 h0 fun n15 n16 n17 n18 n19 n20 h1 =>
 both (xI .i64 (cell h1 (bk b0)) fun n21 => xI .u8 (cell h1 ((bk b0).add 1)) fun n22 => xI .u8 (cell h1 ((bk b0).add 2)) fun n23 => xI .u8 (cell h1 ((bk b0).add 3)) fun n24 => xI .u8 (cell h1 ((bk b0).add 4)) fun n25 => xI .u8 (cell h1 ((bk b0).add 5)) fun n26 => xI .u8 (cell h1 ((bk b0).add 6)) fun n27 => xI .u32 (cell h1 ((bk b0).add 7)) fun n28 => xI .u8 (cell h1 ((bk b0).add 8)) fun n29 => xI .u8 (cell h1 ((bk b0).add 9)) fun n30 => xI .u8 (cell h1 ((bk b0).add 10)) fun n31 => xI .u8 (cell h1 ((bk b0).add 11)) fun n32 => xI .u8 (cell h1 ((bk b0).add 12)) fun n33 => xI .u8 (cell h1 ((bk b0).add 13)) fun n34 => xI .u32 (cell h1 ((bk b0).add 14)) fun n35 => Only (.agg ⟨[.int .i64 n0, .int .u8 n1, .int .u8 n2, .int .u8 n3, .int .u8 n4, .int .u8 n5, .int .u8 n6, .int .u32 n7, .int .u8 n8, .int .u8 n9, .int .u8 n10, .int .u8 n11, .int .u8 n12, .int .u8 n13, .int .u32 n14]⟩) h1 (.agg ⟨[.int .i64 n21, .int .u8 n22, .int .u8 n23, .int .u8 n24, .int .u8 n25, .int .u8 n26, .int .u8 n27, .int .u32 n28, .int .u8 n29, .int .u8 n30, .int .u8 n31, .int .u8 n32, .int .u8 n33, .int .u8 n34, .int .u32 n35]⟩) h1) <|
 C140 n15 n16 n17 n18 n19 n20 x1 n0 n1 n2 n3 n4 n5 n6 n7 n8 n9 n10 n11 n12 n13 n14 h1 fun b1 h2 =>
 bif b1 then
 nn x0 fun a1 =>
 xL (cell h2 (a1.add 6)) fun s0 =>
 C141 s0 x1 h2 fun b2 h3 =>
 N138_j0 x0 x1 (!b2) h3
 (fun h4 =>
 K h4)
 else
 N138_j0 x0 x1 false h2
 (fun h5 =>
 K h5)
 else
 N138_j0 x0 x1 false h0
 (fun h6 =>
 K h6)
theorem S138 {x0 : Option Addr} {x1 x2_0 x2_1 x2_2 x2_3 x2_4 x2_5 x2_6 x2_7 x2_8 x2_9 x2_10 x2_11 x2_12 x2_13 x2_14 : Int} {h : Hp} {K : Hp → Prop} (hn : N138 x0 x1 x2_0 x2_1 x2_2 x2_3 x2_4 x2_5 x2_6 x2_7 x2_8 x2_9 x2_10 x2_11 x2_12 x2_13 x2_14 h K) : C138 x0 x1 x2_0 x2_1 x2_2 x2_3 x2_4 x2_5 x2_6 x2_7 x2_8 x2_9 x2_10 x2_11 x2_12 x2_13 x2_14 h K := by
 refine calls_of_D Tryz.func138 (c := B138) rfl (by kernel_rfl) ?_
 refine den_sound hE hm _ (.two .leaf (.two (.ord [0, 1, 2, 3, 4, 5, 6, 8, 9, 7, 10, 11, 12, 13, 14, 15, 16, 17, 18, 19, 20]) (.xf N138_j0_t))) _ _ _ (⟨annOk_leaf, ⟨trivial, N138_j0_ok⟩⟩) ?_
 refine cast ?_ hn
 kernel_rfl
end Go.Proofs.YtbbnpmikjdgdpaaGreat

/-
 The stack: whose a packet is; a message that clashes with nothing.
-/
set_option linter.unusedSimpArgs false
set_option linter.unusedVariables false
set_option maxRecDepth 20000
namespace Go.Proofs.YtbbnpmikjdgdpaaGreat
open Go Go.Hw
section
variable {L : List Asn} {h : Hp} {b bc : Nat} {S : StS}
theorem c_sours {p : Iph} {K : Bool → Hp → Prop} (hs : Sat (L ++ [stackA b bc S]) h) (hn : S.net.ok) (hK : ∀ h', Sat (L ++ [stackA b bc S]) h' → K (takesN S.net p.dst && isHost p.src) h') :
  C45 (some (bk b)) p.tos p.id p.ttl p.proto p.keep p.src p.dst h K := by
 apply S45; unfold N45
 refine hs.nw ?_
 intro z h1 g _
 have g : Sat (L ++ [stackA b bc S, row z 96 (ipC p)]) h1 := g
 have g2 : Sat ((L ++ [row z 96 (ipC p)]) ++ [stackA b bc S]) h1 := g.part [1, 0] (by decide) rfl
 obtain ⟨u, g3⟩ := stack_open g2
 unfold skL at g3
 simp only [nn_some', add_bk]
 refine g3.lP 0 rfl rfl ?_
 refine g.lI 1 rfl rfl ?_
 refine c_rtakes (g3.part [2] (by decide) rfl (M1 := []) (M2 := [tableA u.r S.net])) hn fun h2 he => ?_
 have g4 := g.ext he
 have fin : ∀ {v : Bool}, v = (takesN S.net p.dst && isHost p.src) → K v h2 := by
  rintro v rfl; exact hK h2 (g4.sel [0] (by decide) rfl)
 cases ht : takesN S.net p.dst with
 | true =>
  rw [cond_true]
  refine g4.lI 1 rfl rfl ?_
  refine c_isHost ?_
  exact fin (by rw [ht]; rfl)
 | false => rw [cond_false]; exact fin (by rw [ht]; rfl)
theorem c_snote {ip op si di : Int} {s d : M6} {K : Hp → Prop} (hs : Sat (L ++ [stackA b bc S]) h) (hno : ip = 0 ∨ clashB S.nic.own ip op s si di = false) (hK : ∀ h', Sat (L ++ [stackA b bc S]) h' → K h') :
  C138 (some (bk b)) ip op s.a s.b s.c s.d s.e s.f si d.a d.b d.c d.d d.e d.f di h K := by
 apply S138; unfold N138
 refine hs.nw ?_
 intro z h1 g _
 have g : Sat (L ++ [stackA b bc S, row z 160 (arpC op s si d di)]) h1 := g
 have j0 : ∀ {h' : Hp}, Sat (L ++ [stackA b bc S, row z 160 (arpC op s si d di)]) h' → N138_j0 (some (bk b)) ip false h' fun h'' => K h'' := by
  intro h' g'
  unfold N138_j0
  rw [cond_false]
  exact hK h' (g'.sel [0] (by decide) rfl)
 by_cases k0 : ip = 0
 ·rw [show (ip != 0) = false by simp [k0], cond_false]
  exact j0 g
 ·rw [show (ip != 0) = true by simp [k0], cond_true]
  have hc := hno.resolve_left k0
  have g2 : Sat ((L ++ [row z 160 (arpC op s si d di)]) ++ [stackA b bc S]) h1 := g.part [1, 0] (by decide) rfl
  obtain ⟨u, g3⟩ := stack_open g2
  unfold skL at g3
  simp only [nn_some', add_bk]
  refine g3.lP 0 (k := 0) rfl rfl ?_
  refine g.lI 1 (k := 0) rfl rfl ?_
  refine g.lI 1 rfl rfl ?_
  refine g.lI 1 rfl rfl ?_
  refine g.lI 1 rfl rfl ?_
  refine g.lI 1 rfl rfl ?_
  refine g.lI 1 rfl rfl ?_
  refine g.lI 1 rfl rfl ?_
  refine g.lI 1 rfl rfl ?_
  refine g.lI 1 rfl rfl ?_
  refine g.lI 1 rfl rfl ?_
  refine g.lI 1 rfl rfl ?_
  refine g.lI 1 rfl rfl ?_
  refine g.lI 1 rfl rfl ?_
  refine g.lI 1 rfl rfl ?_
  refine g.lI 1 rfl rfl ?_
  refine c_nown (g3.part [1] (by decide) rfl (M1 := []) (M2 := [nicA u.n bc S.nic])) fun h2 he => ?_
  have g4 := g.ext he
  refine ⟨?_, ?_⟩
  ·skip
   refine g4.lI 1 (k := 0) rfl rfl ?_
   refine g4.lI 1 rfl rfl ?_
   refine g4.lI 1 rfl rfl ?_
   refine g4.lI 1 rfl rfl ?_
   refine g4.lI 1 rfl rfl ?_
   refine g4.lI 1 rfl rfl ?_
   refine g4.lI 1 rfl rfl ?_
   refine g4.lI 1 rfl rfl ?_
   refine g4.lI 1 rfl rfl ?_
   refine g4.lI 1 rfl rfl ?_
   refine g4.lI 1 rfl rfl ?_
   refine g4.lI 1 rfl rfl ?_
   refine g4.lI 1 rfl rfl ?_
   refine g4.lI 1 rfl rfl ?_
   refine g4.lI 1 rfl rfl ?_
   exact ⟨rfl, rfl⟩
  ·refine c_aclash (own := S.nic.own) (s := s) (d := d) fun h3 he3 => ?_
   rw [hc, cond_false]
   exact j0 (g4.ext he3)
end
end Go.Proofs.YtbbnpmikjdgdpaaGreat

set_option linter.unusedVariables false
set_option maxRecDepth 100000
namespace Go.Proofs.YtbbnpmikjdgdpaaGreat
open Go Go.Hw
noncomputable def B129 : Code := match Tryz.f129.body with | some c => c | none => .skip
def N129_j0 (x1 : Option Addr) (x2 : Int) (x3 : Option Addr) (x37 : Bool) (h : Hp) (Kn : Hp → Prop) : Prop :=
 bif x37 then
 nn x3 fun a0 =>
 xI .u32 (cell h (a0.add 5)) fun n0 =>
 nn x3 fun a1 =>
 xL (cell h (a1.add 10)) fun s0 =>
 C132 3 s0 h fun n1 n2 n3 s1 h0 =>
 both (xI .u32 (cell h0 (a0.add 5)) fun n4 => Only (.int .u32 n0) h0 (.int .u32 n4) h0) <|
 C131 x1 n0 n1 n2 n3 s1 x2 h0 fun h1 =>
 Kn h1
 else
 Kn h
noncomputable def N129_j0_t : Xf := pieceT [(1, .c (.ptr)), (2, .c (.int .i64)), (3, .c (.ptr)), (37, .c (.bool))] (codeAt B129 [1, 1, 1]) fun x h Q => N129_j0 x.1 x.2.1 x.2.2.1 x.2.2.2 h (fun h' => Q .normal (Sg.env [] ()) h')
theorem N129_j0_ok : Sound Tryz.prog Tryz.f129.ntmps N129_j0_t (codeAt B129 [1, 1, 1]) := by
 refine piece_sound (fun e => match e with | .normal => [] | _ => []) ?_
 intro x h Q hb
 refine den_sound hE hm _ (.two (.ord [0, 1, 2, 3, 4, 5, 7, 6, 8]) .leaf) _ _ _ (⟨trivial, annOk_leaf⟩) ?_
 refine cast ?_ hb
 kernel_rfl
def N129 (x0_0 x0_1 x0_2 x0_3 : Int) (x0_4 : Bool) (x0_5 x0_6 x0_7 x0_8 : Int) (x0_9 x0_10 : Sl) (x1 : Option Addr) (x2 : Int) (h : Hp) (K : Hp → Prop) : Prop :=
 nw h (.cells ⟨[.int .i64 x0_0, .int .i64 x0_1, .int .i64 x0_2, .int .i64 x0_3, .bool x0_4, .int .u32 x0_5, .int .u32 x0_6, .int .i64 x0_7, .int .i64 x0_8, .slice x0_9.p x0_9.n x0_9.c, .slice x0_10.p x0_10.n x0_10.c]⟩ 115) fun b0 h0 =>
 nn x1 fun a0 =>
 xP (cell h0 (a0.add 3)) fun p0 =>
 xI .u32 (cell h0 ((bk b0).add 5)) fun n0 =>
 xI .u32 (cell h0 ((bk b0).add 6)) fun n1 =>
 xI .i64 (cell h0 ((bk b0).add 7)) fun n2 =>
 xI .i64 (cell h0 ((bk b0).add 8)) fun n3 =>
 xL (cell h0 ((bk b0).add 9)) fun s0 =>
 C130 p0 n0 n1 n2 n3 s0 h0 fun n4 h1 =>
 bif (n4 == 131) then
 xI .u32 (cell h1 ((bk b0).add 6)) fun n5 =>
 C14 x1 h1 fun n6 h2 =>
 both (xI .u32 (cell h2 ((bk b0).add 6)) fun n7 => Only (.int .u32 n5) h2 (.int .u32 n7) h2) <|
 N129_j0 x1 x2 (some (bk b0)) (n5 == n6) h2
 (fun h3 =>
 K h3)
 else
 N129_j0 x1 x2 (some (bk b0)) false h1
 (fun h4 =>
 K h4)
theorem S129 {x0_0 x0_1 x0_2 x0_3 : Int} {x0_4 : Bool} {x0_5 x0_6 x0_7 x0_8 : Int} {x0_9 x0_10 : Sl} {x1 : Option Addr} {x2 : Int} {h : Hp} {K : Hp → Prop} (hn : N129 x0_0 x0_1 x0_2 x0_3 x0_4 x0_5 x0_6 x0_7 x0_8 x0_9 x0_10 x1 x2 h K) : C129 x0_0 x0_1 x0_2 x0_3 x0_4 x0_5 x0_6 x0_7 x0_8 x0_9 x0_10 x1 x2 h K := by
 refine calls_of_D Tryz.func129 (c := B129) rfl (by kernel_rfl) ?_
 refine den_sound hE hm _ (.two .leaf (.two (.ord [0, 1, 2, 3, 4, 5, 6, 7, 8, 9, 10, 11, 12, 13, 14, 15, 16, 17, 18, 19, 20, 21]) (.two (.ord [0, 1, 2, 3, 4, 5, 6, 7, 8, 9]) (.xf N129_j0_t)))) _ _ _ (⟨annOk_leaf, ⟨trivial, ⟨trivial, N129_j0_ok⟩⟩⟩) ?_
 refine cast ?_ hn
 kernel_rfl
end Go.Proofs.YtbbnpmikjdgdpaaGreat

set_option linter.unusedVariables false
set_option maxRecDepth 100000
namespace Go.Proofs.YtbbnpmikjdgdpaaGreat
open Go Go.Hw
noncomputable def B137 : Code := match Tryz.f137.body with | some c => c | none => .skip
def N137 (x0_0 x0_1 x0_2 x0_3 x0_4 x0_5 x0_6 x0_7 x0_8 x0_9 x0_10 x0_11 x0_12 x0_13 x0_14 : Int) (x1 : Option Addr) (x2 : Int) (h : Hp) (K : Hp → Prop) : Prop :=
 nw h (.cells ⟨[.int .i64 x0_0, .int .u8 x0_1, .int .u8 x0_2, .int .u8 x0_3, .int .u8 x0_4, .int .u8 x0_5, .int .u8 x0_6, .int .u32 x0_7, .int .u8 x0_8, .int .u8 x0_9, .int .u8 x0_10, .int .u8 x0_11, .int .u8 x0_12, .int .u8 x0_13, .int .u32 x0_14]⟩ 164) fun b0 h0 =>
 xI .i64 (cell h0 (bk b0)) fun n0 =>
 xI .u8 (cell h0 ((bk b0).add 1)) fun n1 =>
 xI .u8 (cell h0 ((bk b0).add 2)) fun n2 =>
 xI .u8 (cell h0 ((bk b0).add 3)) fun n3 =>
 xI .u8 (cell h0 ((bk b0).add 4)) fun n4 =>
 xI .u8 (cell h0 ((bk b0).add 5)) fun n5 =>
 xI .u8 (cell h0 ((bk b0).add 6)) fun n6 =>
 xI .u32 (cell h0 ((bk b0).add 7)) fun n7 =>
 xI .u8 (cell h0 ((bk b0).add 8)) fun n8 =>
 xI .u8 (cell h0 ((bk b0).add 9)) fun n9 =>
 xI .u8 (cell h0 ((bk b0).add 10)) fun n10 =>
 xI .u8 (cell h0 ((bk b0).add 11)) fun n11 =>
 xI .u8 (cell h0 ((bk b0).add 12)) fun n12 =>
 xI .u8 (cell h0 ((bk b0).add 13)) fun n13 =>
 xI .u32 (cell h0 ((bk b0).add 14)) fun n14 =>
 C14 x1 h0 fun n15 h1 =>
 both (xI .i64 (cell h1 (bk b0)) fun n16 => xI .u8 (cell h1 ((bk b0).add 1)) fun n17 => xI .u8 (cell h1 ((bk b0).add 2)) fun n18 => xI .u8 (cell h1 ((bk b0).add 3)) fun n19 => xI .u8 (cell h1 ((bk b0).add 4)) fun n20 => xI .u8 (cell h1 ((bk b0).add 5)) fun n21 => xI .u8 (cell h1 ((bk b0).add 6)) fun n22 => xI .u32 (cell h1 ((bk b0).add 7)) fun n23 => xI .u8 (cell h1 ((bk b0).add 8)) fun n24 => xI .u8 (cell h1 ((bk b0).add 9)) fun n25 => xI .u8 (cell h1 ((bk b0).add 10)) fun n26 => xI .u8 (cell h1 ((bk b0).add 11)) fun n27 => xI .u8 (cell h1 ((bk b0).add 12)) fun n28 => xI .u8 (cell h1 ((bk b0).add 13)) fun n29 => xI .u32 (cell h1 ((bk b0).add 14)) fun n30 => Only (.agg ⟨[.int .i64 n0, .int .u8 n1, .int .u8 n2, .int .u8 n3, .int .u8 n4, .int .u8 n5, .int .u8 n6, .int .u32 n7, .int .u8 n8, .int .u8 n9, .int .u8 n10, .int .u8 n11, .int .u8 n12, .int .u8 n13, .int .u32 n14]⟩) h1 (.agg ⟨[.int .i64 n16, .int .u8 n17, .int .u8 n18, .int .u8 n19, .int .u8 n20, .int .u8 n21, .int .u8 n22, .int .u32 n23, .int .u8 n24, .int .u8 n25, .int .u8 n26, .int .u8 n27, .int .u8 n28, .int .u8 n29, .int .u32 n30]⟩) h1) <|
 C138 x1 n15 n0 n1 n2 n3 n4 n5 n6 n7 n8 n9 n10 n11 n12 n13 n14 h1 fun h2 =>
 nn x1 fun a0 =>
 xI .u32 (cell h2 (a0.add 5)) fun n31 =>
 xI .i64 (cell h2 (bk b0)) fun n32 =>
 xI .u8 (cell h2 ((bk b0).add 1)) fun n33 =>
 xI .u8 (cell h2 ((bk b0).add 2)) fun n34 =>
 xI .u8 (cell h2 ((bk b0).add 3)) fun n35 =>
 xI .u8 (cell h2 ((bk b0).add 4)) fun n36 =>
 xI .u8 (cell h2 ((bk b0).add 5)) fun n37 =>
 xI .u8 (cell h2 ((bk b0).add 6)) fun n38 =>
 xI .u32 (cell h2 ((bk b0).add 7)) fun n39 =>
 xI .u8 (cell h2 ((bk b0).add 8)) fun n40 =>
 xI .u8 (cell h2 ((bk b0).add 9)) fun n41 =>
 xI .u8 (cell h2 ((bk b0).add 10)) fun n42 =>
 xI .u8 (cell h2 ((bk b0).add 11)) fun n43 =>
 xI .u8 (cell h2 ((bk b0).add 12)) fun n44 =>
 xI .u8 (cell h2 ((bk b0).add 13)) fun n45 =>
 xI .u32 (cell h2 ((bk b0).add 14)) fun n46 =>
 C138 x1 n31 n32 n33 n34 n35 n36 n37 n38 n39 n40 n41 n42 n43 n44 n45 n46 h2 fun h3 =>
 nn x1 fun a1 =>
 xP (cell h3 (a1.add 2)) fun p0 =>
 xI .i64 (cell h3 (bk b0)) fun n47 =>
 xI .u8 (cell h3 ((bk b0).add 1)) fun n48 =>
 xI .u8 (cell h3 ((bk b0).add 2)) fun n49 =>
 xI .u8 (cell h3 ((bk b0).add 3)) fun n50 =>
 xI .u8 (cell h3 ((bk b0).add 4)) fun n51 =>
 xI .u8 (cell h3 ((bk b0).add 5)) fun n52 =>
 xI .u8 (cell h3 ((bk b0).add 6)) fun n53 =>
 xI .u32 (cell h3 ((bk b0).add 7)) fun n54 =>
 xI .u8 (cell h3 ((bk b0).add 8)) fun n55 =>
 xI .u8 (cell h3 ((bk b0).add 9)) fun n56 =>
 xI .u8 (cell h3 ((bk b0).add 10)) fun n57 =>
 xI .u8 (cell h3 ((bk b0).add 11)) fun n58 =>
 xI .u8 (cell h3 ((bk b0).add 12)) fun n59 =>
 xI .u8 (cell h3 ((bk b0).add 13)) fun n60 =>
 xI .u32 (cell h3 ((bk b0).add 14)) fun n61 =>
 C14 x1 h3 fun n62 h4 =>
 both (xI .i64 (cell h4 (bk b0)) fun n63 => xI .u8 (cell h4 ((bk b0).add 1)) fun n64 => xI .u8 (cell h4 ((bk b0).add 2)) fun n65 => xI .u8 (cell h4 ((bk b0).add 3)) fun n66 => xI .u8 (cell h4 ((bk b0).add 4)) fun n67 => xI .u8 (cell h4 ((bk b0).add 5)) fun n68 => xI .u8 (cell h4 ((bk b0).add 6)) fun n69 => xI .u32 (cell h4 ((bk b0).add 7)) fun n70 => xI .u8 (cell h4 ((bk b0).add 8)) fun n71 => xI .u8 (cell h4 ((bk b0).add 9)) fun n72 => xI .u8 (cell h4 ((bk b0).add 10)) fun n73 => xI .u8 (cell h4 ((bk b0).add 11)) fun n74 => xI .u8 (cell h4 ((bk b0).add 12)) fun n75 => xI .u8 (cell h4 ((bk b0).add 13)) fun n76 => xI .u32 (cell h4 ((bk b0).add 14)) fun n77 => Only (.agg ⟨[.int .i64 n47, .int .u8 n48, .int .u8 n49, .int .u8 n50, .int .u8 n51, .int .u8 n52, .int .u8 n53, .int .u32 n54, .int .u8 n55, .int .u8 n56, .int .u8 n57, .int .u8 n58, .int .u8 n59, .int .u8 n60, .int .u32 n61]⟩) h4 (.agg ⟨[.int .i64 n63, .int .u8 n64, .int .u8 n65, .int .u8 n66, .int .u8 n67, .int .u8 n68, .int .u8 n69, .int .u32 n70, .int .u8 n71, .int .u8 n72, .int .u8 n73, .int .u8 n74, .int .u8 n75, .int .u8 n76, .int .u32 n77]⟩) h4) <|
 both (xP (cell h4 (a1.add 2)) fun p1 => Only (.pointer p0) h4 (.pointer p1) h4) <|
 C139 p0 n47 n48 n49 n50 n51 n52 n53 n54 n55 n56 n57 n58 n59 n60 n61 n62 x2 h4 fun s0 h5 =>
 C36 x1 s0 h5 fun h6 =>
 K h6
theorem S137 {x0_0 x0_1 x0_2 x0_3 x0_4 x0_5 x0_6 x0_7 x0_8 x0_9 x0_10 x0_11 x0_12 x0_13 x0_14 : Int} {x1 : Option Addr} {x2 : Int} {h : Hp} {K : Hp → Prop} (hn : N137 x0_0 x0_1 x0_2 x0_3 x0_4 x0_5 x0_6 x0_7 x0_8 x0_9 x0_10 x0_11 x0_12 x0_13 x0_14 x1 x2 h K) : C137 x0_0 x0_1 x0_2 x0_3 x0_4 x0_5 x0_6 x0_7 x0_8 x0_9 x0_10 x0_11 x0_12 x0_13 x0_14 x1 x2 h K := by
 refine calls_of_D Tryz.func137 (c := B137) rfl (by kernel_rfl) ?_
 refine den_sound hE hm _ (.two .leaf (.two (.ord [0, 1, 3, 4, 2, 5]) (.two (.ord [0, 1, 2, 3, 4, 5, 6, 7]) (.ord [0, 1, 2, 3, 4, 5, 6, 7, 9, 8, 10, 11])))) _ _ _ (⟨annOk_leaf, ⟨trivial, ⟨trivial, trivial⟩⟩⟩) ?_
 refine cast ?_ hn
 kernel_rfl
end Go.Proofs.YtbbnpmikjdgdpaaGreat

/-
 The stack: a datagram that comes to a port that is open; a message.
-/
set_option linter.unusedSimpArgs false
set_option linter.unusedVariables false
set_option maxRecDepth 20000
namespace Go.Proofs.YtbbnpmikjdgdpaaGreat
open Go Go.Hw
section
variable {L : List Asn} {h : Hp} {b bc : Nat} {S : StS}
theorem c_din {p : Iph} {sp dp now : Int} {data : List UInt8} {x y : Sl} {Mx : Nat} {K : Hp → Prop} (hs : Sat (L ++ [stackA b bc S]) h) (ho : Ok Mx S.tb) (hM : Mx ≤ 1000000000000000000) (hr : ∀ h', Sat L h' → RdB h' x data) (hl : data.length ≤ 140737488355328)
  (hopen : (putT S.tb ⟨p.src, p.dst, sp, dp, data⟩).1 ≠ 131) (hK : ∀ h', Sat (L ++ [stackA b bc { S with tb := (putT S.tb ⟨p.src, p.dst, sp, dp, data⟩).2 }]) h' → K h') :
  C129 p.tos p.id p.ttl p.proto p.keep p.src p.dst sp dp x y (some (bk b)) now h K := by
 apply S129; unfold N129
 refine hs.nw ?_
 intro z h1 g _
 have g2 := g.part [1, 0] (by decide) rfl (M1 := [_]) (M2 := [stackA b bc S])
 obtain ⟨u, g3⟩ := stack_open g2
 unfold skL at g3
 have gz := (Sat.asc g2).blk 0 rfl
 simp only [nn_some', add_bk]
 refine g3.lP 0 rfl rfl ?_
 refine xI_of (by rw [gz.cell]; rfl) ?_
 refine xI_of (by rw [gz.cell]; rfl) ?_
 refine xI_of (by rw [gz.cell]; rfl) ?_
 refine xI_of (by rw [gz.cell]; rfl) ?_
 refine xL_of (s := x) (by rw [gz.cell]; rfl) ?_
 have g4 := g3.part [0, 1, 2, 3, 5, 6, 4] (by decide) rfl (M1 := [row b 55 (skC S u), nicA u.n bc S.nic, tableA u.r S.net, cacheA u.c S.ca, Hw.own 25 1 u.cl (uz S.clash), laidA u.la S.laid]) (M2 := [portsA u.p S.tb])
 refine p_put (d := ⟨p.src, p.dst, sp, dp, data⟩) g4 ho hM (hr h1 g.left) hl fun h2 g5 => ?_
 rw [show ((putT S.tb ⟨p.src, p.dst, sp, dp, data⟩).1 == 131) = false by simp [hopen], cond_false]
 unfold N129_j0
 rw [cond_false]
 have g6 := stack_shut (S := { S with tb := (putT S.tb ⟨p.src, p.dst, sp, dp, data⟩).2 }) (x := u) ((Sat.asc g5).sel [0, 1, 2, 3, 6, 4, 5] (by decide) rfl)
 exact hK h2 ((Sat.asc g6).sel [1] (by decide) rfl)
theorem on_snd {c : Ca} (h : c.ok) {op si di own : Int} {s : M6} (hs : s.ok) : (onC c op s si di own).1.length ≤ 2 ∧ ∀ x ∈ (onC c op s si di own).1, x.dst.ok ∧ x.data.length ≤ 1099511627776 := by
 unfold onC
 split
 ·exact ⟨by simp, by intro x hx; cases hx⟩
 ·have h1 : ∀ {asks : Bool}, (learnC c si s asks).1.length ≤ 1 ∧ ∀ x ∈ (learnC c si s asks).1, x.dst.ok ∧ x.data.length ≤ 1099511627776 := by
   intro asks
   refine ⟨learn_n, ?_⟩
   unfold learnC
   split
   ·rename_i e he
    have := (h.all e (findK_some he).1).pk
    dsimp only
    split
    ·intro x hx; simp at hx; subst hx; exact ⟨hs, this⟩
    ·intro x hx; cases hx
   ·split
    ·split
     ·intro x hx; cases hx
     ·intro x hx; cases hx
    ·intro x hx; cases hx
  have h2 : ∀ {r : List Snd × Ca}, (r.1.length ≤ 1 ∧ ∀ x ∈ r.1, x.dst.ok ∧ x.data.length ≤ 1099511627776) → (r.1 ++ if asksC op own di then [(⟨s, 2054, arpL 2 c.own di s si⟩ : Snd)] else []).length ≤ 2 ∧ ∀ x ∈ (r.1 ++ if asksC op own di then [(⟨s, 2054, arpL 2 c.own di s si⟩ : Snd)] else []), x.dst.ok ∧ x.data.length ≤ 1099511627776 := by
   intro r hr
   refine ⟨?_, ?_⟩
   ·rw [List.length_append]
    have : (if asksC op own di then [(⟨s, 2054, arpL 2 c.own di s si⟩ : Snd)] else []).length ≤ 1 := by split <;> simp
    have := hr.1
    omega
   ·intro x hx
    rcases List.mem_append.1 hx with hx | hx
    ·exact hr.2 x hx
    ·split at hx
     ·simp at hx; subst hx; exact ⟨hs, by simp [arpL_len]⟩
     ·cases hx
  dsimp only
  split
  ·exact h2 h1
  ·exact h2 (r := ([], c)) ⟨by simp, by intro x hx; cases hx⟩
def onS (S : StS) (op : Int) (s : M6) (si di now : Int) : StS := layAll { S with ca := (onC (tellC S.ca now) op s si di S.net.ip).2 } (onC (tellC S.ca now) op s si di S.net.ip).1
theorem c_qin {op si di now : Int} {s d : M6} {K : Hp → Prop} (hs : Sat (L ++ [stackA b bc S]) h) (ho : S.ok) (hs6 : s.ok) (hsi : 0 ≤ si ∧ si < 4294967296) (hdi : 0 ≤ di ∧ di < 4294967296) (hll : S.laid.length ≤ 900000000000)
  (hn1 : S.net.ip = 0 ∨ clashB S.nic.own S.net.ip op s si di = false) (hn2 : S.watched = 0 ∨ clashB S.nic.own S.watched op s si di = false)
  (hK : ∀ h', Sat (L ++ [stackA b bc (onS S op s si di now)]) h' → K h') :
  C137 op s.a s.b s.c s.d s.e s.f si d.a d.b d.c d.d d.e d.f di (some (bk b)) now h K := by
 apply S137; unfold N137
 refine hs.nw ?_
 intro z h1 g _
 have g : Sat (L ++ [stackA b bc S, row z 164 (arpC op s si d di)]) h1 := g
 simp only [add_bk, nn_some']
 refine g.lI 1 (k := 0) rfl rfl ?_
 refine g.lI 1 rfl rfl ?_
 refine g.lI 1 rfl rfl ?_
 refine g.lI 1 rfl rfl ?_
 refine g.lI 1 rfl rfl ?_
 refine g.lI 1 rfl rfl ?_
 refine g.lI 1 rfl rfl ?_
 refine g.lI 1 rfl rfl ?_
 refine g.lI 1 rfl rfl ?_
 refine g.lI 1 rfl rfl ?_
 refine g.lI 1 rfl rfl ?_
 refine g.lI 1 rfl rfl ?_
 refine g.lI 1 rfl rfl ?_
 refine g.lI 1 rfl rfl ?_
 refine g.lI 1 rfl rfl ?_
 have g2 : Sat ((L ++ [row z 164 (arpC op s si d di)]) ++ [stackA b bc S]) h1 := g.part [1, 0] (by decide) rfl
 refine c_sown g2 ?_
 refine ⟨?_, ?_⟩
 ·skip
  refine g.lI 1 (k := 0) rfl rfl ?_
  refine g.lI 1 rfl rfl ?_
  refine g.lI 1 rfl rfl ?_
  refine g.lI 1 rfl rfl ?_
  refine g.lI 1 rfl rfl ?_
  refine g.lI 1 rfl rfl ?_
  refine g.lI 1 rfl rfl ?_
  refine g.lI 1 rfl rfl ?_
  refine g.lI 1 rfl rfl ?_
  refine g.lI 1 rfl rfl ?_
  refine g.lI 1 rfl rfl ?_
  refine g.lI 1 rfl rfl ?_
  refine g.lI 1 rfl rfl ?_
  refine g.lI 1 rfl rfl ?_
  refine g.lI 1 rfl rfl ?_
  exact ⟨rfl, rfl⟩
 refine c_snote (s := s) (d := d) g2 hn1 fun h3 g3 => ?_
 have gr3 := (Sat.asc g3)
 obtain ⟨u3, o3⟩ := stack_open g3
 unfold skL at o3
 refine o3.lI 0 rfl rfl ?_
 refine gr3.lI 0 (k := 0) rfl rfl ?_
 refine gr3.lI 0 rfl rfl ?_
 refine gr3.lI 0 rfl rfl ?_
 refine gr3.lI 0 rfl rfl ?_
 refine gr3.lI 0 rfl rfl ?_
 refine gr3.lI 0 rfl rfl ?_
 refine gr3.lI 0 rfl rfl ?_
 refine gr3.lI 0 rfl rfl ?_
 refine gr3.lI 0 rfl rfl ?_
 refine gr3.lI 0 rfl rfl ?_
 refine gr3.lI 0 rfl rfl ?_
 refine gr3.lI 0 rfl rfl ?_
 refine gr3.lI 0 rfl rfl ?_
 refine gr3.lI 0 rfl rfl ?_
 refine gr3.lI 0 rfl rfl ?_
 refine c_snote (s := s) (d := d) g3 hn2 fun h4 g4 => ?_
 have gr4 := (Sat.asc g4)
 obtain ⟨u, o4⟩ := stack_open g4
 unfold skL at o4
 refine o4.lP 0 rfl rfl ?_
 refine gr4.lI 0 (k := 0) rfl rfl ?_
 refine gr4.lI 0 rfl rfl ?_
 refine gr4.lI 0 rfl rfl ?_
 refine gr4.lI 0 rfl rfl ?_
 refine gr4.lI 0 rfl rfl ?_
 refine gr4.lI 0 rfl rfl ?_
 refine gr4.lI 0 rfl rfl ?_
 refine gr4.lI 0 rfl rfl ?_
 refine gr4.lI 0 rfl rfl ?_
 refine gr4.lI 0 rfl rfl ?_
 refine gr4.lI 0 rfl rfl ?_
 refine gr4.lI 0 rfl rfl ?_
 refine gr4.lI 0 rfl rfl ?_
 refine gr4.lI 0 rfl rfl ?_
 refine gr4.lI 0 rfl rfl ?_
 refine c_sown g4 ?_
 refine ⟨?_, o4.lP 0 rfl rfl ⟨rfl, rfl⟩, ?_⟩
 ·skip
  refine gr4.lI 0 (k := 0) rfl rfl ?_
  refine gr4.lI 0 rfl rfl ?_
  refine gr4.lI 0 rfl rfl ?_
  refine gr4.lI 0 rfl rfl ?_
  refine gr4.lI 0 rfl rfl ?_
  refine gr4.lI 0 rfl rfl ?_
  refine gr4.lI 0 rfl rfl ?_
  refine gr4.lI 0 rfl rfl ?_
  refine gr4.lI 0 rfl rfl ?_
  refine gr4.lI 0 rfl rfl ?_
  refine gr4.lI 0 rfl rfl ?_
  refine gr4.lI 0 rfl rfl ?_
  refine gr4.lI 0 rfl rfl ?_
  refine gr4.lI 0 rfl rfl ?_
  refine gr4.lI 0 rfl rfl ?_
  exact ⟨rfl, rfl⟩
 have g5 := o4.part [0, 1, 2, 4, 5, 6, 3] (by decide) rfl (M1 := [row b 55 (skC S u), nicA u.n bc S.nic, tableA u.r S.net, portsA u.p S.tb, Hw.own 25 1 u.cl (uz S.clash), laidA u.la S.laid]) (M2 := [cacheA u.c S.ca])
 refine n_on (s6 := s) (d6 := d) g5 ho.ca hs6 hsi hdi fun s2 h5 g6 => ?_
 have g7 := Sat.part (Sat.asc g6) [7, 0, 1, 2, 6, 3, 4, 5] (by decide) rfl (M1 := [sndsA s2 (onC (tellC S.ca now) op s si di S.net.ip).1]) (M2 := skL b bc { S with ca := (onC (tellC S.ca now) op s si di S.net.ip).2 } u)
 have g8 := stack_shut g7
 obtain ⟨n1, n2⟩ := on_snd (ho.ca.tell now) (op := op) (si := si) (di := di) (own := S.net.ip) hs6
 refine c_slay (S := { S with ca := (onC (tellC S.ca now) op s si di S.net.ip).2 }) ((Sat.asc g8).sel [1, 0] (by decide) rfl) ho.own n2 (by omega) hll fun h6 g9 => ?_
 exact hK h6 ((Sat.asc g9).sel [1] (by decide) rfl)
end
end Go.Proofs.YtbbnpmikjdgdpaaGreat

set_option linter.unusedVariables false
set_option maxRecDepth 100000
namespace Go.Proofs.YtbbnpmikjdgdpaaGreat
open Go Go.Hw
noncomputable def B44 : Code := match Tryz.f44.body with | some c => c | none => .skip
def N44 (x0_0 x0_1 x0_2 x0_3 x0_4 x0_5 x0_6 x0_7 x0_8 x0_9 x0_10 x0_11 x0_12 : Int) (x0_13 : Sl) (h : Hp) (K : Value → Hp → Prop) : Prop :=
 nw h (.cells ⟨[.int .u8 x0_0, .int .u8 x0_1, .int .u8 x0_2, .int .u8 x0_3, .int .u8 x0_4, .int .u8 x0_5, .int .u8 x0_6, .int .u8 x0_7, .int .u8 x0_8, .int .u8 x0_9, .int .u8 x0_10, .int .u8 x0_11, .int .i64 x0_12, .slice x0_13.p x0_13.n x0_13.c]⟩ 110) fun b0 h0 =>
 xI .i64 (cell h0 ((bk b0).add 12)) fun n0 =>
 bif (n0 == 2054) then
 xL (cell h0 ((bk b0).add 13)) fun s0 =>
 C67 s0 h0 fun n1 n2 n3 n4 n5 n6 n7 n8 n9 n10 n11 n12 n13 n14 n15 n16 h1 =>
 nw h1 (.cells ⟨[.int .i64 0, .int .u8 0, .int .u8 0, .int .u8 0, .int .u8 0, .int .u8 0, .int .u8 0, .int .u32 0, .int .u8 0, .int .u8 0, .int .u8 0, .int .u8 0, .int .u8 0, .int .u8 0, .int .u32 0]⟩ 160) fun b1 h2 =>
 st h2 (bk b1) (.int .i64 n1) fun h3 =>
 st h3 ((bk b1).add 1) (.int .u8 n2) fun h4 =>
 st h4 ((bk b1).add 2) (.int .u8 n3) fun h5 =>
 st h5 ((bk b1).add 3) (.int .u8 n4) fun h6 =>
 st h6 ((bk b1).add 4) (.int .u8 n5) fun h7 =>
 st h7 ((bk b1).add 5) (.int .u8 n6) fun h8 =>
 st h8 ((bk b1).add 6) (.int .u8 n7) fun h9 =>
 st h9 ((bk b1).add 7) (.int .u32 n8) fun h10 =>
 st h10 ((bk b1).add 8) (.int .u8 n9) fun h11 =>
 st h11 ((bk b1).add 9) (.int .u8 n10) fun h12 =>
 st h12 ((bk b1).add 10) (.int .u8 n11) fun h13 =>
 st h13 ((bk b1).add 11) (.int .u8 n12) fun h14 =>
 st h14 ((bk b1).add 12) (.int .u8 n13) fun h15 =>
 st h15 ((bk b1).add 13) (.int .u8 n14) fun h16 =>
 st h16 ((bk b1).add 14) (.int .u32 n15) fun h17 =>
 bif (n16 == 0) then
 xI .i64 (cell h17 (bk b1)) fun n17 =>
 xI .u8 (cell h17 ((bk b1).add 1)) fun n18 =>
 xI .u8 (cell h17 ((bk b1).add 2)) fun n19 =>
 xI .u8 (cell h17 ((bk b1).add 3)) fun n20 =>
 xI .u8 (cell h17 ((bk b1).add 4)) fun n21 =>
 xI .u8 (cell h17 ((bk b1).add 5)) fun n22 =>
 xI .u8 (cell h17 ((bk b1).add 6)) fun n23 =>
 xI .u32 (cell h17 ((bk b1).add 7)) fun n24 =>
 xI .u8 (cell h17 ((bk b1).add 8)) fun n25 =>
 xI .u8 (cell h17 ((bk b1).add 9)) fun n26 =>
 xI .u8 (cell h17 ((bk b1).add 10)) fun n27 =>
 xI .u8 (cell h17 ((bk b1).add 11)) fun n28 =>
 xI .u8 (cell h17 ((bk b1).add 12)) fun n29 =>
 xI .u8 (cell h17 ((bk b1).add 13)) fun n30 =>
 xI .u32 (cell h17 ((bk b1).add 14)) fun n31 =>
 K (.iface 164 (.agg ⟨[.int .i64 n17, .int .u8 n18, .int .u8 n19, .int .u8 n20, .int .u8 n21, .int .u8 n22, .int .u8 n23, .int .u32 n24, .int .u8 n25, .int .u8 n26, .int .u8 n27, .int .u8 n28, .int .u8 n29, .int .u8 n30, .int .u32 n31]⟩)) h17
 else
 K .nilIface h17
 else
 bif (n0 == 2048) then
 xL (cell h0 ((bk b0).add 13)) fun s1 =>
 C68 s1 h0 fun n32 n33 n34 n35 b2 n36 n37 s2 n38 h18 =>
 nw h18 (.cells ⟨[.int .i64 0, .int .i64 0, .int .i64 0, .int .i64 0, .bool false, .int .u32 0, .int .u32 0]⟩ 96) fun b3 h19 =>
 st h19 (bk b3) (.int .i64 n32) fun h20 =>
 st h20 ((bk b3).add 1) (.int .i64 n33) fun h21 =>
 st h21 ((bk b3).add 2) (.int .i64 n34) fun h22 =>
 st h22 ((bk b3).add 3) (.int .i64 n35) fun h23 =>
 st h23 ((bk b3).add 4) (.bool b2) fun h24 =>
 st h24 ((bk b3).add 5) (.int .u32 n36) fun h25 =>
 st h25 ((bk b3).add 6) (.int .u32 n37) fun h26 =>
 bif (n38 != 0) then
 K .nilIface h26
 else
 xI .i64 (cell h26 ((bk b3).add 3)) fun n39 =>
 bif (n39 == 17) then
 xI .u32 (cell h26 ((bk b3).add 5)) fun n40 =>
 xI .u32 (cell h26 ((bk b3).add 6)) fun n41 =>
 C69 n40 n41 s2 h26 fun n42 n43 s3 n44 h27 =>
 nw h27 (.cells ⟨[.int .i64 0, .int .i64 0, .slice none 0 0]⟩ 34) fun b4 h28 =>
 st h28 (bk b4) (.int .i64 n42) fun h29 =>
 st h29 ((bk b4).add 1) (.int .i64 n43) fun h30 =>
 st h30 ((bk b4).add 2) (.slice s3.p s3.n s3.c) fun h31 =>
 bif (n44 == 0) then
 xI .i64 (cell h31 (bk b3)) fun n45 =>
 xI .i64 (cell h31 ((bk b3).add 1)) fun n46 =>
 xI .i64 (cell h31 ((bk b3).add 2)) fun n47 =>
 xI .i64 (cell h31 ((bk b3).add 3)) fun n48 =>
 xB (cell h31 ((bk b3).add 4)) fun b5 =>
 xI .u32 (cell h31 ((bk b3).add 5)) fun n49 =>
 xI .u32 (cell h31 ((bk b3).add 6)) fun n50 =>
 xI .i64 (cell h31 (bk b4)) fun n51 =>
 xI .i64 (cell h31 ((bk b4).add 1)) fun n52 =>
 xL (cell h31 ((bk b4).add 2)) fun s4 =>
 xL (cell h31 ((bk b0).add 13)) fun s5 =>
 K (.iface 115 (.agg ⟨[.int .i64 n45, .int .i64 n46, .int .i64 n47, .int .i64 n48, .bool b5, .int .u32 n49, .int .u32 n50, .int .i64 n51, .int .i64 n52, .slice s4.p s4.n s4.c, .slice s5.p s5.n s5.c]⟩)) h31
 else
 K .nilIface h31
 else
 bif (n39 == 1) then
 C70 s2 h26 fun n53 n54 n55 s6 n56 h32 =>
 nw h32 (.cells ⟨[.int .i64 0, .int .i64 0, .int .u32 0, .slice none 0 0]⟩ 118) fun b6 h33 =>
 st h33 (bk b6) (.int .i64 n53) fun h34 =>
 st h34 ((bk b6).add 1) (.int .i64 n54) fun h35 =>
 st h35 ((bk b6).add 2) (.int .u32 n55) fun h36 =>
 st h36 ((bk b6).add 3) (.slice s6.p s6.n s6.c) fun h37 =>
 bif (n56 == 0) then
 xI .i64 (cell h37 (bk b3)) fun n57 =>
 xI .i64 (cell h37 ((bk b3).add 1)) fun n58 =>
 xI .i64 (cell h37 ((bk b3).add 2)) fun n59 =>
 xI .i64 (cell h37 ((bk b3).add 3)) fun n60 =>
 xB (cell h37 ((bk b3).add 4)) fun b7 =>
 xI .u32 (cell h37 ((bk b3).add 5)) fun n61 =>
 xI .u32 (cell h37 ((bk b3).add 6)) fun n62 =>
 xI .i64 (cell h37 (bk b6)) fun n63 =>
 xI .i64 (cell h37 ((bk b6).add 1)) fun n64 =>
 xI .u32 (cell h37 ((bk b6).add 2)) fun n65 =>
 xL (cell h37 ((bk b6).add 3)) fun s7 =>
 K (.iface 120 (.agg ⟨[.int .i64 n57, .int .i64 n58, .int .i64 n59, .int .i64 n60, .bool b7, .int .u32 n61, .int .u32 n62, .int .i64 n63, .int .i64 n64, .int .u32 n65, .slice s7.p s7.n s7.c]⟩)) h37
 else
 K .nilIface h37
 else
 K .nilIface h26
 else
 K .nilIface h0
theorem S44 {x0_0 x0_1 x0_2 x0_3 x0_4 x0_5 x0_6 x0_7 x0_8 x0_9 x0_10 x0_11 x0_12 : Int} {x0_13 : Sl} {h : Hp} {K : Value → Hp → Prop} (hn : N44 x0_0 x0_1 x0_2 x0_3 x0_4 x0_5 x0_6 x0_7 x0_8 x0_9 x0_10 x0_11 x0_12 x0_13 h K) : C44 x0_0 x0_1 x0_2 x0_3 x0_4 x0_5 x0_6 x0_7 x0_8 x0_9 x0_10 x0_11 x0_12 x0_13 h K := by
 refine calls_of_D Tryz.func44 (c := B44) rfl (by kernel_rfl) ?_
 refine den_sound hE hm _ .leaf _ _ _ (annOk_leaf) ?_
 refine cast ?_ hn
 kernel_rfl
end Go.Proofs.YtbbnpmikjdgdpaaGreat

/-
 The stack: what a frame carries (a message of the neighbours, a datagram); what is done with it.
-/
set_option linter.unusedSimpArgs false
set_option linter.unusedVariables false
set_option maxRecDepth 20000
namespace Go.Proofs.YtbbnpmikjdgdpaaGreat
open Go Go.Hw
def arpV (op : Int) (s : M6) (si : Int) (d : M6) (di : Int) : Value := .iface 164 (.agg ⟨arpC op s si d di⟩)
def dgC' (p : Iph) (sp dp : Int) (y x : Sl) : List Value := [.int .i64 p.tos, .int .i64 p.id, .int .i64 p.ttl, .int .i64 p.proto, .bool p.keep, .int .u32 p.src, .int .u32 p.dst, .int .i64 sp, .int .i64 dp, y.v, x.v]
def dgV (p : Iph) (sp dp : Int) (y x : Sl) : Value := .iface 115 (.agg ⟨dgC' p sp dp y x⟩)
section
variable {d s : M6} {x : Sl} {l : List UInt8} {h : Hp} {K : Value → Hp → Prop}
theorem told_arp (hr : RdB h x l) (hl : l.length ≤ 1099511627776) (hg : arpDE l = 0)
  (hK : ∀ h', Ext none' h h' → K (arpV (opOf l) (macOf l 8) (getV l 14 4) (macOf l 18) (getV l 24 4)) h') :
  C44 d.a d.b d.c d.d d.e d.f s.a s.b s.c s.d s.e s.f 2054 x h K := by
 apply S44; unfold N44
 have hs0 : Sat ([] ++ [Hw.was h]) h := Sat.start
 refine hs0.nw ?_
 intro z h1 g0 _
 have g : Sat ([] ++ [Hw.was h, row z 110 (frC d s 2054 x)]) h1 := g0
 simp only [add_bk]
 refine g.lI 1 rfl rfl ?_
 rw [show ((2054 : Int) == 2054) = true from rfl, cond_true]
 refine g.lL 1 rfl rfl ?_
 refine c_adec (hr.ext (g.was 0 rfl)) hl (fun q => absurd hg q) (fun _ h2 he => ?_)
 have g2 := g.ext he
 refine Sat.nw g2 ?_
 intro z2 h3 hs _
 simp only [List.cons_append, List.nil_append] at hs
 replace hs : Sat ([] ++ _) _ := hs
 repeat (first | (refine Sat.st hs 0 rfl (by simp) rfl ?_; intro _ hs; simp only [List.set_cons_zero, List.set_cons_succ] at hs) | (refine Sat.st hs 1 rfl (by simp) rfl ?_; intro _ hs; simp only [List.set_cons_zero, List.set_cons_succ] at hs) | (refine Sat.st hs 2 rfl (by simp) rfl ?_; intro _ hs; simp only [List.set_cons_zero, List.set_cons_succ] at hs) | (refine Sat.lI hs 0 rfl rfl ?_) | (refine Sat.lI hs 1 rfl rfl ?_) | (refine Sat.lI hs 2 rfl rfl ?_) | (refine Sat.lL hs 0 rfl rfl ?_) | (refine Sat.lL hs 1 rfl rfl ?_) | (refine Sat.lL hs 2 rfl rfl ?_) | (refine Sat.lP hs 0 rfl rfl ?_) | (refine Sat.lP hs 1 rfl rfl ?_) | (refine Sat.lP hs 2 rfl rfl ?_) | (refine Sat.lB hs 0 rfl rfl ?_) | (refine Sat.lB hs 1 rfl rfl ?_) | (refine Sat.lB hs 2 rfl rfl ?_) | (refine Sat.lS hs 0 rfl rfl ?_) | (refine Sat.lS hs 1 rfl rfl ?_) | (refine Sat.lS hs 2 rfl rfl ?_) | (refine Sat.lM hs 0 rfl rfl ?_) | (refine Sat.lM hs 1 rfl rfl ?_) | (refine Sat.lM hs 2 rfl rfl ?_) | (refine Sat.lA hs 0 rfl rfl ?_) | (refine Sat.lA hs 1 rfl rfl ?_) | (refine Sat.lA hs 2 rfl rfl ?_) | (simp only [nn_some', add_bk]))
 exact hK _ (Sat.was (L := []) hs 0 rfl)
theorem told_udp (hr : RdB h x l) (hl : l.length ≤ 1099511627776) (hg : ipGood l) (hp : (ipHd l).proto = 17) (hu : udpDE (ipHd l).src (ipHd l).dst (ipD l) = 0)
  (hK : ∀ h' y, NewO h h' 5 1 y (Hw.bc (udpD (ipD l))) → K (dgV (ipHd l) (getV (ipD l) 0 2) (getV (ipD l) 2 2) y x) h') :
  C44 d.a d.b d.c d.d d.e d.f s.a s.b s.c s.d s.e s.f 2048 x h K := by
 apply S44; unfold N44
 have hs0 : Sat ([] ++ [Hw.was h]) h := Sat.start
 refine hs0.nw ?_
 intro z h1 g0 _
 have g : Sat ([] ++ [Hw.was h, row z 110 (frC d s 2048 x)]) h1 := g0
 simp only [add_bk]
 refine g.lI 1 rfl rfl ?_
 rw [show ((2048 : Int) == 2054) = false from rfl, cond_false, show ((2048 : Int) == 2048) = true from rfl, cond_true]
 refine g.lL 1 rfl rfl ?_
 refine c_idec hg (hr.ext (g.was 0 rfl)) hl (fun h2 y2 hy2 => ?_)
 have hsrc : 0 ≤ (ipHd l).src ∧ (ipHd l).src < 4294967296 := ⟨by show (0 : Int) ≤ ((getV l 12 4 : Nat) : Int); omega, by show ((getV l 12 4 : Nat) : Int) < 4294967296; have := getV_lt l 12 4 (by omega); omega⟩
 have hdst : 0 ≤ (ipHd l).dst ∧ (ipHd l).dst < 4294967296 := ⟨by show (0 : Int) ≤ ((getV l 16 4 : Nat) : Int); omega, by show ((getV l 16 4 : Nat) : Int) < 4294967296; have := getV_lt l 16 4 (by omega); omega⟩
 have g2 := g.addNew hy2
 generalize ipHd l = p at hp hu hK hsrc hdst ⊢
 have hdl : (ipD l).length ≤ 1099511627776 := by unfold ipD; rw [List.length_take, List.length_drop]; omega
 generalize ipD l = q at hu hK hdl g2 ⊢
 clear hy2
 refine Sat.nw g2 ?_
 intro z2 h3 hs _
 simp only [List.cons_append, List.nil_append] at hs
 replace hs : Sat ([] ++ _) _ := hs
 repeat (first | (refine Sat.st hs 0 rfl (by simp) rfl ?_; intro _ hs; simp only [List.set_cons_zero, List.set_cons_succ] at hs) | (refine Sat.st hs 1 rfl (by simp) rfl ?_; intro _ hs; simp only [List.set_cons_zero, List.set_cons_succ] at hs) | (refine Sat.st hs 2 rfl (by simp) rfl ?_; intro _ hs; simp only [List.set_cons_zero, List.set_cons_succ] at hs) | (refine Sat.st hs 3 rfl (by simp) rfl ?_; intro _ hs; simp only [List.set_cons_zero, List.set_cons_succ] at hs) | (refine Sat.lI hs 0 rfl rfl ?_) | (refine Sat.lI hs 1 rfl rfl ?_) | (refine Sat.lI hs 2 rfl rfl ?_) | (refine Sat.lI hs 3 rfl rfl ?_) | (refine Sat.lL hs 0 rfl rfl ?_) | (refine Sat.lL hs 1 rfl rfl ?_) | (refine Sat.lL hs 2 rfl rfl ?_) | (refine Sat.lL hs 3 rfl rfl ?_) | (refine Sat.lP hs 0 rfl rfl ?_) | (refine Sat.lP hs 1 rfl rfl ?_) | (refine Sat.lP hs 2 rfl rfl ?_) | (refine Sat.lP hs 3 rfl rfl ?_) | (refine Sat.lB hs 0 rfl rfl ?_) | (refine Sat.lB hs 1 rfl rfl ?_) | (refine Sat.lB hs 2 rfl rfl ?_) | (refine Sat.lB hs 3 rfl rfl ?_) | (refine Sat.lS hs 0 rfl rfl ?_) | (refine Sat.lS hs 1 rfl rfl ?_) | (refine Sat.lS hs 2 rfl rfl ?_) | (refine Sat.lS hs 3 rfl rfl ?_) | (refine Sat.lM hs 0 rfl rfl ?_) | (refine Sat.lM hs 1 rfl rfl ?_) | (refine Sat.lM hs 2 rfl rfl ?_) | (refine Sat.lM hs 3 rfl rfl ?_) | (refine Sat.lA hs 0 rfl rfl ?_) | (refine Sat.lA hs 1 rfl rfl ?_) | (refine Sat.lA hs 2 rfl rfl ?_) | (refine Sat.lA hs 3 rfl rfl ?_) | (simp only [nn_some', add_bk]))
 rw [hp, show ((17 : Int) == 17) = true from rfl, cond_true]
 repeat (first | (refine Sat.st hs 0 rfl (by simp) rfl ?_; intro _ hs; simp only [List.set_cons_zero, List.set_cons_succ] at hs) | (refine Sat.st hs 1 rfl (by simp) rfl ?_; intro _ hs; simp only [List.set_cons_zero, List.set_cons_succ] at hs) | (refine Sat.st hs 2 rfl (by simp) rfl ?_; intro _ hs; simp only [List.set_cons_zero, List.set_cons_succ] at hs) | (refine Sat.st hs 3 rfl (by simp) rfl ?_; intro _ hs; simp only [List.set_cons_zero, List.set_cons_succ] at hs) | (refine Sat.lI hs 0 rfl rfl ?_) | (refine Sat.lI hs 1 rfl rfl ?_) | (refine Sat.lI hs 2 rfl rfl ?_) | (refine Sat.lI hs 3 rfl rfl ?_) | (refine Sat.lL hs 0 rfl rfl ?_) | (refine Sat.lL hs 1 rfl rfl ?_) | (refine Sat.lL hs 2 rfl rfl ?_) | (refine Sat.lL hs 3 rfl rfl ?_) | (refine Sat.lP hs 0 rfl rfl ?_) | (refine Sat.lP hs 1 rfl rfl ?_) | (refine Sat.lP hs 2 rfl rfl ?_) | (refine Sat.lP hs 3 rfl rfl ?_) | (refine Sat.lB hs 0 rfl rfl ?_) | (refine Sat.lB hs 1 rfl rfl ?_) | (refine Sat.lB hs 2 rfl rfl ?_) | (refine Sat.lB hs 3 rfl rfl ?_) | (refine Sat.lS hs 0 rfl rfl ?_) | (refine Sat.lS hs 1 rfl rfl ?_) | (refine Sat.lS hs 2 rfl rfl ?_) | (refine Sat.lS hs 3 rfl rfl ?_) | (refine Sat.lM hs 0 rfl rfl ?_) | (refine Sat.lM hs 1 rfl rfl ?_) | (refine Sat.lM hs 2 rfl rfl ?_) | (refine Sat.lM hs 3 rfl rfl ?_) | (refine Sat.lA hs 0 rfl rfl ?_) | (refine Sat.lA hs 1 rfl rfl ?_) | (refine Sat.lA hs 2 rfl rfl ?_) | (refine Sat.lA hs 3 rfl rfl ?_) | (simp only [nn_some', add_bk]))
 refine c_udec hsrc hdst (Sat.own (L := []) hs 2 rfl).rdb hdl (fun e => absurd hu e) (fun _ h4 y4 hy4 => ?_)
 have g4 := Sat.addNew (L := []) hs hy4
 clear hs
 refine Sat.nw g4 ?_
 intro z5 h5 hs _
 simp only [List.cons_append, List.nil_append] at hs
 replace hs : Sat ([] ++ _) _ := hs
 repeat (first | (refine Sat.st hs 0 rfl (by simp) rfl ?_; intro _ hs; simp only [List.set_cons_zero, List.set_cons_succ] at hs) | (refine Sat.st hs 1 rfl (by simp) rfl ?_; intro _ hs; simp only [List.set_cons_zero, List.set_cons_succ] at hs) | (refine Sat.st hs 2 rfl (by simp) rfl ?_; intro _ hs; simp only [List.set_cons_zero, List.set_cons_succ] at hs) | (refine Sat.st hs 3 rfl (by simp) rfl ?_; intro _ hs; simp only [List.set_cons_zero, List.set_cons_succ] at hs) | (refine Sat.st hs 4 rfl (by simp) rfl ?_; intro _ hs; simp only [List.set_cons_zero, List.set_cons_succ] at hs) | (refine Sat.st hs 5 rfl (by simp) rfl ?_; intro _ hs; simp only [List.set_cons_zero, List.set_cons_succ] at hs) | (refine Sat.lI hs 0 rfl rfl ?_) | (refine Sat.lI hs 1 rfl rfl ?_) | (refine Sat.lI hs 2 rfl rfl ?_) | (refine Sat.lI hs 3 rfl rfl ?_) | (refine Sat.lI hs 4 rfl rfl ?_) | (refine Sat.lI hs 5 rfl rfl ?_) | (refine Sat.lL hs 0 rfl rfl ?_) | (refine Sat.lL hs 1 rfl rfl ?_) | (refine Sat.lL hs 2 rfl rfl ?_) | (refine Sat.lL hs 3 rfl rfl ?_) | (refine Sat.lL hs 4 rfl rfl ?_) | (refine Sat.lL hs 5 rfl rfl ?_) | (refine Sat.lP hs 0 rfl rfl ?_) | (refine Sat.lP hs 1 rfl rfl ?_) | (refine Sat.lP hs 2 rfl rfl ?_) | (refine Sat.lP hs 3 rfl rfl ?_) | (refine Sat.lP hs 4 rfl rfl ?_) | (refine Sat.lP hs 5 rfl rfl ?_) | (refine Sat.lB hs 0 rfl rfl ?_) | (refine Sat.lB hs 1 rfl rfl ?_) | (refine Sat.lB hs 2 rfl rfl ?_) | (refine Sat.lB hs 3 rfl rfl ?_) | (refine Sat.lB hs 4 rfl rfl ?_) | (refine Sat.lB hs 5 rfl rfl ?_) | (refine Sat.lS hs 0 rfl rfl ?_) | (refine Sat.lS hs 1 rfl rfl ?_) | (refine Sat.lS hs 2 rfl rfl ?_) | (refine Sat.lS hs 3 rfl rfl ?_) | (refine Sat.lS hs 4 rfl rfl ?_) | (refine Sat.lS hs 5 rfl rfl ?_) | (refine Sat.lM hs 0 rfl rfl ?_) | (refine Sat.lM hs 1 rfl rfl ?_) | (refine Sat.lM hs 2 rfl rfl ?_) | (refine Sat.lM hs 3 rfl rfl ?_) | (refine Sat.lM hs 4 rfl rfl ?_) | (refine Sat.lM hs 5 rfl rfl ?_) | (refine Sat.lA hs 0 rfl rfl ?_) | (refine Sat.lA hs 1 rfl rfl ?_) | (refine Sat.lA hs 2 rfl rfl ?_) | (refine Sat.lA hs 3 rfl rfl ?_) | (refine Sat.lA hs 4 rfl rfl ?_) | (refine Sat.lA hs 5 rfl rfl ?_) | (simp only [nn_some', add_bk]))
 exact hK _ _ (Sat.newO (L := []) hs 0 4 rfl rfl (by omega))
end
end Go.Proofs.YtbbnpmikjdgdpaaGreat

set_option linter.unusedVariables false
set_option maxRecDepth 100000
namespace Go.Proofs.YtbbnpmikjdgdpaaGreat
open Go Go.Hw
noncomputable def B19 : Code := match Tryz.f19.body with | some c => c | none => .skip
def N19_j1 (x0 : Option Addr) (x2 : Int) (x7 : Sl) (x10 : Bool) (x11 : Value) (x21 : Sl) (x22 x23 : Int) (h : Hp) (Kn : Hp → Prop) : Prop :=
 bif x10 then
 invK Tryz.prog E "slipway/stack.in" (x11) [.pointer x0, .int .i64 x2] h fun v0 h0 =>
 Kn h0
 else
 Kn h
noncomputable def N19_j1_t : Xf := pieceT [(0, .c (.ptr)), (2, .c (.int .i64)), (7, .c (.slice)), (10, .c (.bool)), (11, .c (.any)), (21, .c (.slice)), (22, .c (.int .i64)), (23, .c (.int .i64))] (codeAt B19 [1, 1, 0, 1, 0, 0, 1, 1, 0, 0, 1, 1, 1, 1]) fun x h Q => N19_j1 x.1 x.2.1 x.2.2.1 x.2.2.2.1 x.2.2.2.2.1 x.2.2.2.2.2.1 x.2.2.2.2.2.2.1 x.2.2.2.2.2.2.2 h (fun h' => Q .normal (Sg.env [] ()) h')
theorem N19_j1_ok : Sound Tryz.prog Tryz.f19.ntmps N19_j1_t (codeAt B19 [1, 1, 0, 1, 0, 0, 1, 1, 0, 0, 1, 1, 1, 1]) := by
 refine piece_sound (fun e => match e with | .normal => [] | _ => []) ?_
 intro x h Q hb
 refine den_sound hE hm _ .leaf _ _ _ (annOk_leaf) ?_
 refine cast ?_ hb
 kernel_rfl
def N19_j3 (x0 : Option Addr) (x2 : Int) (x7 : Sl) (x10 : Bool) (x11 : Value) (x21 : Sl) (x22 x23 : Int) (x39 : Bool) (x40_0 x40_1 x40_2 x40_3 : Int) (x40_4 : Bool) (x40_5 x40_6 x40_7 x40_8 x40_9 : Int) (x40_10 : Sl) (h : Hp) (Kn : Bool → Hp → Prop) : Prop :=
 bif x39 then
 nw h (.cells ⟨[.int .i64 0, .int .i64 0, .int .i64 0, .int .i64 0, .bool false, .int .u32 0, .int .u32 0, .int .i64 0, .int .i64 0, .int .u32 0, .slice none 0 0]⟩ 120) fun b0 h0 =>
 st h0 (bk b0) (.int .i64 x40_0) fun h1 =>
 st h1 ((bk b0).add 1) (.int .i64 x40_1) fun h2 =>
 st h2 ((bk b0).add 2) (.int .i64 x40_2) fun h3 =>
 st h3 ((bk b0).add 3) (.int .i64 x40_3) fun h4 =>
 st h4 ((bk b0).add 4) (.bool x40_4) fun h5 =>
 st h5 ((bk b0).add 5) (.int .u32 x40_5) fun h6 =>
 st h6 ((bk b0).add 6) (.int .u32 x40_6) fun h7 =>
 st h7 ((bk b0).add 7) (.int .i64 x40_7) fun h8 =>
 st h8 ((bk b0).add 8) (.int .i64 x40_8) fun h9 =>
 st h9 ((bk b0).add 9) (.int .u32 x40_9) fun h10 =>
 st h10 ((bk b0).add 10) (.slice x40_10.p x40_10.n x40_10.c) fun h11 =>
 xI .i64 (cell h11 (bk b0)) fun n0 =>
 xI .i64 (cell h11 ((bk b0).add 1)) fun n1 =>
 xI .i64 (cell h11 ((bk b0).add 2)) fun n2 =>
 xI .i64 (cell h11 ((bk b0).add 3)) fun n3 =>
 xB (cell h11 ((bk b0).add 4)) fun b1 =>
 xI .u32 (cell h11 ((bk b0).add 5)) fun n4 =>
 xI .u32 (cell h11 ((bk b0).add 6)) fun n5 =>
 C45 x0 n0 n1 n2 n3 b1 n4 n5 h11 fun b2 h12 =>
 Kn b2 h12
 else
 Kn x10 h
noncomputable def N19_j3_t : Xf := pieceT [(0, .c (.ptr)), (2, .c (.int .i64)), (7, .c (.slice)), (10, .c (.bool)), (11, .c (.any)), (21, .c (.slice)), (22, .c (.int .i64)), (23, .c (.int .i64)), (39, .c (.bool)), (40, .agg [.int .i64, .int .i64, .int .i64, .int .i64, .bool, .int .u32, .int .u32, .int .i64, .int .i64, .int .u32, .slice])] (codeAt B19 [1, 1, 0, 1, 0, 0, 1, 1, 0, 0, 1, 1, 1, 0, 1, 0, 1, 1, 1, 1, 1]) fun x h Q => N19_j3 x.1 x.2.1 x.2.2.1 x.2.2.2.1 x.2.2.2.2.1 x.2.2.2.2.2.1 x.2.2.2.2.2.2.1 x.2.2.2.2.2.2.2.1 x.2.2.2.2.2.2.2.2.1 x.2.2.2.2.2.2.2.2.2.1 x.2.2.2.2.2.2.2.2.2.2.1 x.2.2.2.2.2.2.2.2.2.2.2.1 x.2.2.2.2.2.2.2.2.2.2.2.2.1 x.2.2.2.2.2.2.2.2.2.2.2.2.2.1 x.2.2.2.2.2.2.2.2.2.2.2.2.2.2.1 x.2.2.2.2.2.2.2.2.2.2.2.2.2.2.2.1 x.2.2.2.2.2.2.2.2.2.2.2.2.2.2.2.2.1 x.2.2.2.2.2.2.2.2.2.2.2.2.2.2.2.2.2.1 x.2.2.2.2.2.2.2.2.2.2.2.2.2.2.2.2.2.2.1 x.2.2.2.2.2.2.2.2.2.2.2.2.2.2.2.2.2.2.2 h (fun o0 h' => Q .normal (Sg.env [(10, .c (.bool))] o0) h')
theorem N19_j3_ok : Sound Tryz.prog Tryz.f19.ntmps N19_j3_t (codeAt B19 [1, 1, 0, 1, 0, 0, 1, 1, 0, 0, 1, 1, 1, 0, 1, 0, 1, 1, 1, 1, 1]) := by
 refine piece_sound (fun e => match e with | .normal => [10] | _ => []) ?_
 intro x h Q hb
 refine den_sound hE hm _ .leaf _ _ _ (annOk_leaf) ?_
 refine cast ?_ hb
 kernel_rfl
def N19_j2 (x0 : Option Addr) (x2 : Int) (x7 : Sl) (x10 : Bool) (x11 : Value) (x21 : Sl) (x22 x23 : Int) (x29 : Value) (x32 : Bool) (x33_0 x33_1 x33_2 x33_3 : Int) (x33_4 : Bool) (x33_5 x33_6 x33_7 x33_8 : Int) (x33_9 x33_10 : Sl) (h : Hp) (Kn : Bool → Hp → Prop) : Prop :=
 bif x32 then
 nw h (.cells ⟨[.int .i64 0, .int .i64 0, .int .i64 0, .int .i64 0, .bool false, .int .u32 0, .int .u32 0, .int .i64 0, .int .i64 0, .slice none 0 0, .slice none 0 0]⟩ 115) fun b0 h0 =>
 st h0 (bk b0) (.int .i64 x33_0) fun h1 =>
 st h1 ((bk b0).add 1) (.int .i64 x33_1) fun h2 =>
 st h2 ((bk b0).add 2) (.int .i64 x33_2) fun h3 =>
 st h3 ((bk b0).add 3) (.int .i64 x33_3) fun h4 =>
 st h4 ((bk b0).add 4) (.bool x33_4) fun h5 =>
 st h5 ((bk b0).add 5) (.int .u32 x33_5) fun h6 =>
 st h6 ((bk b0).add 6) (.int .u32 x33_6) fun h7 =>
 st h7 ((bk b0).add 7) (.int .i64 x33_7) fun h8 =>
 st h8 ((bk b0).add 8) (.int .i64 x33_8) fun h9 =>
 st h9 ((bk b0).add 9) (.slice x33_9.p x33_9.n x33_9.c) fun h10 =>
 st h10 ((bk b0).add 10) (.slice x33_10.p x33_10.n x33_10.c) fun h11 =>
 xI .i64 (cell h11 (bk b0)) fun n0 =>
 xI .i64 (cell h11 ((bk b0).add 1)) fun n1 =>
 xI .i64 (cell h11 ((bk b0).add 2)) fun n2 =>
 xI .i64 (cell h11 ((bk b0).add 3)) fun n3 =>
 xB (cell h11 ((bk b0).add 4)) fun b1 =>
 xI .u32 (cell h11 ((bk b0).add 5)) fun n4 =>
 xI .u32 (cell h11 ((bk b0).add 6)) fun n5 =>
 C45 x0 n0 n1 n2 n3 b1 n4 n5 h11 fun b2 h12 =>
 Kn b2 h12
 else
 asK 120 x29 (fun w0 => VT.on (.agg [.int .i64, .int .i64, .int .i64, .int .i64, .bool, .int .u32, .int .u32, .int .i64, .int .i64, .int .u32, .slice]) (some w0) fun r0 =>
 N19_j3 x0 x2 x7 x10 x11 x21 x22 x23 true r0.1 r0.2.1 r0.2.2.1 r0.2.2.2.1 r0.2.2.2.2.1 r0.2.2.2.2.2.1 r0.2.2.2.2.2.2.1 r0.2.2.2.2.2.2.2.1 r0.2.2.2.2.2.2.2.2.1 r0.2.2.2.2.2.2.2.2.2.1 r0.2.2.2.2.2.2.2.2.2.2 h
 (fun b3 h13 =>
 Kn b3 h13))
 (
 N19_j3 x0 x2 x7 x10 x11 x21 x22 x23 false 0 0 0 0 false 0 0 0 0 0 ⟨none, 0, 0⟩ h
 (fun b4 h14 =>
 Kn b4 h14))
noncomputable def N19_j2_t : Xf := pieceT [(0, .c (.ptr)), (2, .c (.int .i64)), (7, .c (.slice)), (10, .c (.bool)), (11, .c (.any)), (21, .c (.slice)), (22, .c (.int .i64)), (23, .c (.int .i64)), (29, .c (.any)), (32, .c (.bool)), (33, .agg [.int .i64, .int .i64, .int .i64, .int .i64, .bool, .int .u32, .int .u32, .int .i64, .int .i64, .slice, .slice])] (codeAt B19 [1, 1, 0, 1, 0, 0, 1, 1, 0, 0, 1, 1, 1, 0, 1, 0, 1, 1, 1]) fun x h Q => N19_j2 x.1 x.2.1 x.2.2.1 x.2.2.2.1 x.2.2.2.2.1 x.2.2.2.2.2.1 x.2.2.2.2.2.2.1 x.2.2.2.2.2.2.2.1 x.2.2.2.2.2.2.2.2.1 x.2.2.2.2.2.2.2.2.2.1 x.2.2.2.2.2.2.2.2.2.2.1 x.2.2.2.2.2.2.2.2.2.2.2.1 x.2.2.2.2.2.2.2.2.2.2.2.2.1 x.2.2.2.2.2.2.2.2.2.2.2.2.2.1 x.2.2.2.2.2.2.2.2.2.2.2.2.2.2.1 x.2.2.2.2.2.2.2.2.2.2.2.2.2.2.2.1 x.2.2.2.2.2.2.2.2.2.2.2.2.2.2.2.2.1 x.2.2.2.2.2.2.2.2.2.2.2.2.2.2.2.2.2.1 x.2.2.2.2.2.2.2.2.2.2.2.2.2.2.2.2.2.2.1 x.2.2.2.2.2.2.2.2.2.2.2.2.2.2.2.2.2.2.2.1 x.2.2.2.2.2.2.2.2.2.2.2.2.2.2.2.2.2.2.2.2 h (fun o0 h' => Q .normal (Sg.env [(10, .c (.bool))] o0) h')
theorem N19_j2_ok : Sound Tryz.prog Tryz.f19.ntmps N19_j2_t (codeAt B19 [1, 1, 0, 1, 0, 0, 1, 1, 0, 0, 1, 1, 1, 0, 1, 0, 1, 1, 1]) := by
 refine piece_sound (fun e => match e with | .normal => [10] | _ => []) ?_
 intro x h Q hb
 refine den_sound hE hm _ (.two .leaf (.two .leaf (.xf N19_j3_t))) _ _ _ (⟨annOk_leaf, ⟨annOk_leaf, N19_j3_ok⟩⟩) ?_
 refine cast ?_ hb
 kernel_rfl
def N19_l0_b (x0 : Option Addr) (x2 : Int) (x7 x21 : Sl) (x22 : Int) (Φ : Int → Hp → Prop) (x23 : Int) (h : Hp) (K0 : Hp → Prop) : Prop :=
 bif (decide (x23 < x22)) then
 idx x23 x21.n <|
 nn x21.p fun a0 =>
 xI .u8 (cell h (a0.add (x23.toNat * 14))) fun n0 =>
 xI .u8 (cell h ((a0.add (x23.toNat * 14)).add 1)) fun n1 =>
 xI .u8 (cell h ((a0.add (x23.toNat * 14)).add 2)) fun n2 =>
 xI .u8 (cell h ((a0.add (x23.toNat * 14)).add 3)) fun n3 =>
 xI .u8 (cell h ((a0.add (x23.toNat * 14)).add 4)) fun n4 =>
 xI .u8 (cell h ((a0.add (x23.toNat * 14)).add 5)) fun n5 =>
 xI .u8 (cell h ((a0.add (x23.toNat * 14)).add 6)) fun n6 =>
 xI .u8 (cell h ((a0.add (x23.toNat * 14)).add 7)) fun n7 =>
 xI .u8 (cell h ((a0.add (x23.toNat * 14)).add 8)) fun n8 =>
 xI .u8 (cell h ((a0.add (x23.toNat * 14)).add 9)) fun n9 =>
 xI .u8 (cell h ((a0.add (x23.toNat * 14)).add 10)) fun n10 =>
 xI .u8 (cell h ((a0.add (x23.toNat * 14)).add 11)) fun n11 =>
 xI .i64 (cell h ((a0.add (x23.toNat * 14)).add 12)) fun n12 =>
 xL (cell h ((a0.add (x23.toNat * 14)).add 13)) fun s0 =>
 nw h (.cells ⟨[.int .u8 0, .int .u8 0, .int .u8 0, .int .u8 0, .int .u8 0, .int .u8 0, .int .u8 0, .int .u8 0, .int .u8 0, .int .u8 0, .int .u8 0, .int .u8 0, .int .i64 0, .slice none 0 0]⟩ 110) fun b0 h0 =>
 st h0 (bk b0) (.int .u8 n0) fun h1 =>
 st h1 ((bk b0).add 1) (.int .u8 n1) fun h2 =>
 st h2 ((bk b0).add 2) (.int .u8 n2) fun h3 =>
 st h3 ((bk b0).add 3) (.int .u8 n3) fun h4 =>
 st h4 ((bk b0).add 4) (.int .u8 n4) fun h5 =>
 st h5 ((bk b0).add 5) (.int .u8 n5) fun h6 =>
 st h6 ((bk b0).add 6) (.int .u8 n6) fun h7 =>
 st h7 ((bk b0).add 7) (.int .u8 n7) fun h8 =>
 st h8 ((bk b0).add 8) (.int .u8 n8) fun h9 =>
 st h9 ((bk b0).add 9) (.int .u8 n9) fun h10 =>
 st h10 ((bk b0).add 10) (.int .u8 n10) fun h11 =>
 st h11 ((bk b0).add 11) (.int .u8 n11) fun h12 =>
 st h12 ((bk b0).add 12) (.int .i64 n12) fun h13 =>
 st h13 ((bk b0).add 13) (.slice s0.p s0.n s0.c) fun h14 =>
 xI .u8 (cell h14 (bk b0)) fun n13 =>
 xI .u8 (cell h14 ((bk b0).add 1)) fun n14 =>
 xI .u8 (cell h14 ((bk b0).add 2)) fun n15 =>
 xI .u8 (cell h14 ((bk b0).add 3)) fun n16 =>
 xI .u8 (cell h14 ((bk b0).add 4)) fun n17 =>
 xI .u8 (cell h14 ((bk b0).add 5)) fun n18 =>
 xI .u8 (cell h14 ((bk b0).add 6)) fun n19 =>
 xI .u8 (cell h14 ((bk b0).add 7)) fun n20 =>
 xI .u8 (cell h14 ((bk b0).add 8)) fun n21 =>
 xI .u8 (cell h14 ((bk b0).add 9)) fun n22 =>
 xI .u8 (cell h14 ((bk b0).add 10)) fun n23 =>
 xI .u8 (cell h14 ((bk b0).add 11)) fun n24 =>
 xI .i64 (cell h14 ((bk b0).add 12)) fun n25 =>
 xL (cell h14 ((bk b0).add 13)) fun s1 =>
 C44 n13 n14 n15 n16 n17 n18 n19 n20 n21 n22 n23 n24 n25 s1 h14 fun v0 h15 =>
 ifn v0 fun b1 =>
 bif b1 then
 N19_j1 x0 x2 x7 false v0 x21 x22 x23 h15
 (fun h16 =>
 Φ (IntKind.wrap .i64 (x23 + 1)) h16)
 else
 asK 115 v0 (fun w0 => VT.on (.agg [.int .i64, .int .i64, .int .i64, .int .i64, .bool, .int .u32, .int .u32, .int .i64, .int .i64, .slice, .slice]) (some w0) fun r0 =>
 N19_j2 x0 x2 x7 true v0 x21 x22 x23 v0 true r0.1 r0.2.1 r0.2.2.1 r0.2.2.2.1 r0.2.2.2.2.1 r0.2.2.2.2.2.1 r0.2.2.2.2.2.2.1 r0.2.2.2.2.2.2.2.1 r0.2.2.2.2.2.2.2.2.1 r0.2.2.2.2.2.2.2.2.2.1 r0.2.2.2.2.2.2.2.2.2.2 h15
 (fun b2 h17 =>
 N19_j1 x0 x2 x7 b2 v0 x21 x22 x23 h17
 (fun h18 =>
 Φ (IntKind.wrap .i64 (x23 + 1)) h18)))
 (
 N19_j2 x0 x2 x7 true v0 x21 x22 x23 v0 false 0 0 0 0 false 0 0 0 0 ⟨none, 0, 0⟩ ⟨none, 0, 0⟩ h15
 (fun b3 h19 =>
 N19_j1 x0 x2 x7 b3 v0 x21 x22 x23 h19
 (fun h20 =>
 Φ (IntKind.wrap .i64 (x23 + 1)) h20)))
 else
 K0 h
def N19_l0_B (x0 : Option Addr) (x2 : Int) (x7 x21 : Sl) (x22 : Int) (K0 : Hp → Prop) (s : Sg.T [(23, .c (.int .i64))]) (h : Hp) (Φ : Sg.T [(23, .c (.int .i64))] → Hp → Prop) : Prop :=
 N19_l0_b x0 x2 x7 x21 x22 (fun x23 h => Φ x23 h) s h K0
def N19_l0 (x0 : Option Addr) (x2 : Int) (x7 x21 : Sl) (x22 x23 : Int) (h : Hp) (K0 : Hp → Prop) : Prop :=
 loopP (N19_l0_B x0 x2 x7 x21 x22 K0) x23 h
noncomputable def N19_l0_t : Xf := loopT [(0, .c (.ptr)), (2, .c (.int .i64)), (7, .c (.slice)), (21, .c (.slice)), (22, .c (.int .i64))] [(23, .c (.int .i64))] (codeAt B19 [1, 1, 0, 1, 0, 0]) fun F Q => N19_l0_B F.1 F.2.1 F.2.2.1 F.2.2.2.1 F.2.2.2.2 (fun h' => Q (.exit 0) (Sg.env [] ()) h')
theorem N19_l0_ok : Sound Tryz.prog Tryz.f19.ntmps N19_l0_t (codeAt B19 [1, 1, 0, 1, 0]) := by
 refine loop_sound (fun e => match e with | .exit 0 => [] | _ => []) (by kernel_rfl) ?_
 intro F Q s h Φ hb
 refine den_sound hE hm _ (.two .leaf (.two .leaf (.two (.one (.two .leaf (.two .leaf (.two .leaf (.two (.two .leaf (.one (.two .leaf (.two .leaf (.two .leaf (.xf N19_j2_t)))))) (.xf N19_j1_t)))))) .leaf))) _ _ _ (⟨annOk_leaf, ⟨annOk_leaf, ⟨⟨annOk_leaf, ⟨annOk_leaf, ⟨annOk_leaf, ⟨⟨annOk_leaf, ⟨annOk_leaf, ⟨annOk_leaf, ⟨annOk_leaf, N19_j2_ok⟩⟩⟩⟩, N19_j1_ok⟩⟩⟩⟩, annOk_leaf⟩⟩⟩) ?_
 refine cast ?_ hb
 kernel_rfl
def N19 (x0 : Option Addr) (x1 x2 : Int) (h : Hp) (K : Int → Hp → Prop) : Prop :=
 nn x0 fun a0 =>
 xP (cell h a0) fun p0 =>
 C43 p0 x1 h fun s0 h0 =>
 N19_l0 x0 x2 s0 s0 ((s0.n : Nat) : Int) 0 h0
 (fun h1 =>
 K ((s0.n : Nat) : Int) h1)
theorem S19 {x0 : Option Addr} {x1 x2 : Int} {h : Hp} {K : Int → Hp → Prop} (hn : N19 x0 x1 x2 h K) : C19 x0 x1 x2 h K := by
 refine calls_of_D Tryz.func19 (c := B19) rfl (by kernel_rfl) ?_
 refine den_sound hE hm _ (.two .leaf (.two .leaf (.two (.two .leaf (.one (.xf N19_l0_t))) .leaf))) _ _ _ (⟨annOk_leaf, ⟨annOk_leaf, ⟨⟨annOk_leaf, N19_l0_ok⟩, annOk_leaf⟩⟩⟩) ?_
 refine cast ?_ hn
 kernel_rfl
end Go.Proofs.YtbbnpmikjdgdpaaGreat

/-
 The stack: Poll, where each frame is a message of the neighbours that clashes with nothing, or a datagram for a port that is open.
-/
set_option linter.unusedSimpArgs false
set_option linter.unusedVariables false
set_option maxRecDepth 20000
namespace Go.Proofs.YtbbnpmikjdgdpaaGreat
open Go Go.Hw
def dgIn (l : List UInt8) : Dg := ⟨(ipHd l).src, (ipHd l).dst, getV (ipD l) 0 2, getV (ipD l) 2 2, udpD (ipD l)⟩
def Step (now : Int) (S : StS) (f : FrS) (S' : StS) : Prop :=
 (f.kind = 2054 ∧ arpDE f.data = 0 ∧ S.ok ∧ S.laid.length ≤ 900000000000 ∧ (S.net.ip = 0 ∨ clashB S.nic.own S.net.ip (opOf f.data) (macOf f.data 8) (getV f.data 14 4) (getV f.data 24 4) = false) ∧
  (S.watched = 0 ∨ clashB S.nic.own S.watched (opOf f.data) (macOf f.data 8) (getV f.data 14 4) (getV f.data 24 4) = false) ∧ S' = onS S (opOf f.data) (macOf f.data 8) (getV f.data 14 4) (getV f.data 24 4) now)
 ∨ (f.kind = 2048 ∧ ipGood f.data ∧ (ipHd f.data).proto = 17 ∧ udpDE (ipHd f.data).src (ipHd f.data).dst (ipD f.data) = 0 ∧ S.net.ok ∧ (takesN S.net (ipHd f.data).dst && isHost (ipHd f.data).src) = true ∧
  (∃ M, Ok M S.tb ∧ M ≤ 1000000000000000000) ∧ (putT S.tb (dgIn f.data)).1 ≠ 131 ∧ S' = { S with tb := (putT S.tb (dgIn f.data)).2 })
def Steps (now : Int) : List FrS → StS → StS → Prop
 | [], S, S' => S' = S
 | f :: l, S, S' => ∃ S1, Step now S f S1 ∧ Steps now l S1 S'
section
variable {L : List Asn} {h : Hp} {b bc : Nat} {S S' : StS}
theorem inv_q {op si di now : Int} {s d : M6} {K : Hp → Prop} (hc : C137 op s.a s.b s.c s.d s.e s.f si d.a d.b d.c d.d d.e d.f di (some (bk b)) now h K) :
  invK Tryz.prog E "slipway/stack.in" (arpV op s si d di) [.pointer (some (bk b)), .int .i64 now] h fun _ h' => K h' := by
 unfold invK arpV
 dsimp only
 rw [show invX Tryz.prog "slipway/stack.in" 164 = some 137 by kernel_rfl]
 dsimp only
 rw [show E 137 = true from rfl, cond_true]
 exact hc
theorem inv_d {p : Iph} {sp dp now : Int} {y x : Sl} {K : Hp → Prop} (hc : C129 p.tos p.id p.ttl p.proto p.keep p.src p.dst sp dp y x (some (bk b)) now h K) :
  invK Tryz.prog E "slipway/stack.in" (dgV p sp dp y x) [.pointer (some (bk b)), .int .i64 now] h fun _ h' => K h' := by
 unfold invK dgV
 dsimp only
 rw [show invX Tryz.prog "slipway/stack.in" 115 = some 129 by kernel_rfl]
 dsimp only
 rw [show E 129 = true from rfl, cond_true]
 exact hc
theorem on_dg {p : Iph} {sp dp : Int} {y x : Sl} {F : (VT.agg [.int .i64, .int .i64, .int .i64, .int .i64, .bool, .int .u32, .int .u32, .int .i64, .int .i64, .slice, .slice]).T → Prop} (hF : F (p.tos, p.id, p.ttl, p.proto, p.keep, p.src, p.dst, sp, dp, y, x)) :
  VT.on (.agg [.int .i64, .int .i64, .int .i64, .int .i64, .bool, .int .u32, .int .u32, .int .i64, .int .i64, .slice, .slice]) (some (.agg ⟨dgC' p sp dp y x⟩)) F := hF
theorem ifn_dg {p : Iph} {sp dp : Int} {y x : Sl} {F : Bool → Prop} (hF : F false) : ifn (dgV p sp dp y x) F := hF
theorem asK_dg {p : Iph} {sp dp : Int} {y x : Sl} {A : Value → Prop} {B : Prop} (hA : A (.agg ⟨dgC' p sp dp y x⟩)) : asK 115 (dgV p sp dp y x) A B := hA
theorem ifn_arp {op si di : Int} {s d : M6} {F : Bool → Prop} (hF : F false) : ifn (arpV op s si d di) F := hF
theorem asK_arp {op si di : Int} {s d : M6} {A : Value → Prop} {B : Prop} (hB : B) : asK 115 (arpV op s si d di) A B := hB
theorem asK_arp2 {op si di : Int} {s d : M6} {A : Value → Prop} {B : Prop} (hB : B) : asK 120 (arpV op s si d di) A B := hB
theorem c_spoll {bud now : Int} {K : Int → Hp → Prop} (hs : Sat (L ++ [stackA b bc S]) h) (hl : ∀ l ∈ S.nic.rq, l.length ≤ 1514) (hb : bud ≤ 4611686018427387904)
  (hst : Steps now ((S.nic.rq.take bud.toNat).filterMap (takeF S.nic.own)) { S with nic := { S.nic with rq := S.nic.rq.drop bud.toNat } } S')
  (hK : ∀ h', Sat (L ++ [stackA b bc S']) h' → K (((S.nic.rq.take bud.toNat).filterMap (takeF S.nic.own)).length : Nat) h') : C19 (some (bk b)) bud now h K := by
 apply S19; unfold N19
 obtain ⟨u, g⟩ := stack_open hs
 have rng := nic_rng (g.part [0, 2, 3, 4, 5, 6, 1] (by decide) rfl (M1 := [row b 55 (skC S u), tableA u.r S.net, cacheA u.c S.ca, portsA u.p S.tb, Hw.own 25 1 u.cl (uz S.clash), laidA u.la S.laid]) (M2 := [nicA u.n bc S.nic]))
 unfold skL at g
 simp only [nn_some', add_bk]
 refine g.lP 0 rfl rfl ?_
 have g1 := g.part [0, 2, 3, 4, 5, 6, 1] (by decide) rfl (M1 := [row b 55 (skC S u), tableA u.r S.net, cacheA u.c S.ca, portsA u.p S.tb, Hw.own 25 1 u.cl (uz S.clash), laidA u.la S.laid]) (M2 := [nicA u.n bc S.nic])
 refine c_npoll g1 hl hb fun h2 sl g2 => ?_
 have ol : ((S.nic.rq.take bud.toNat).filterMap (takeF S.nic.own)).length ≤ 64 := by
  have := List.length_filterMap_le (takeF S.nic.own) (S.nic.rq.take bud.toNat)
  rw [List.length_take] at this; omega
 have odl : ∀ f ∈ (S.nic.rq.take bud.toNat).filterMap (takeF S.nic.own), f.data.length ≤ 1514 := by
  intro f hf
  obtain ⟨l, h1, h2⟩ := List.mem_filterMap.1 hf
  have := hl l (List.mem_of_mem_take h1)
  unfold takeF at h2
  split at h2
  ·cases h2; show (l.drop 14).length ≤ 1514; rw [List.length_drop]; omega
  ·cases h2
 generalize (S.nic.rq.take bud.toNat).filterMap (takeF S.nic.own) = o at g2 hst hK ol odl
 have g3 : Sat ((L ++ [framesA sl o]) ++ skL b bc { S with nic := { S.nic with rq := S.nic.rq.drop bud.toNat } } u) h2 := (Sat.asc g2).part [7, 0, 6, 1, 2, 3, 4, 5] (by decide) rfl
 have g4 := stack_shut g3
 have g5 : Sat ((L ++ [stackA b bc { S with nic := { S.nic with rq := S.nic.rq.drop bud.toNat } }]) ++ [framesA sl o]) h2 := (Sat.asc g4).part [1, 0] (by decide) rfl
 obtain ⟨X, g6, hX⟩ := frames_open g5
 have hXl : X.length = o.length := by rw [← hX, List.length_map]
 have ln := g6.elemN 0 rfl frX_w (by decide)
 have g7 : Sat (L ++ [Hw.own 110 14 sl (X.flatMap frX), star (X.map fun x => Hw.own 5 1 x.2 (Hw.bc x.1.data)), stackA b bc { S with nic := { S.nic with rq := S.nic.rq.drop bud.toNat } }]) h2 := (Sat.asc g6).sel [1, 2, 0] (by decide) rfl
 generalize ({ S with nic := { S.nic with rq := S.nic.rq.drop bud.toNat } } : StS) = S0 at hst g7
 clear g g1 g2 g3 g4 g5 g6 rng hl
 unfold N19_l0
 refine loopP_inv (fun (z : Int) hc => ∃ (i : Nat) (S1 : StS), z = i ∧ i ≤ X.length ∧ Sat (L ++ [Hw.own 110 14 sl (X.flatMap frX), star (X.map fun x => Hw.own 5 1 x.2 (Hw.bc x.1.data)), stackA b bc S1]) hc ∧ Steps now (o.drop i) S1 S') (fun z _ => X.length - z.toNat) ?_ ⟨0, S0, rfl, Nat.zero_le _, g7, hst⟩
 clear g7 hst
 rintro z hc ⟨i, S1, rfl, hi, g1, hst⟩
 unfold N19_l0_B N19_l0_b
 dsimp only
 by_cases hlt : i < X.length
 ·rw [show decide ((i : Int) < ((sl.n : Nat) : Int)) = true from decide_eq_true (by omega), cond_true]
  have hx : X[i]? = some X[i] := List.getElem?_eq_getElem hlt
  have hlo : i < o.length := by omega
  have hxm := List.getElem_mem hlt
  have hox : X[i].1 = o[i] := by
   have := congrArg (fun q => q[i]?) hX
   simp only [List.getElem?_map, hx, Option.map_some, List.getElem?_eq_getElem hlo, Option.some.injEq] at this
   exact this
  have hod := odl _ (List.getElem_mem hlo)
  rw [List.drop_eq_getElem_cons hlo, ← hox] at hst
  rw [← hox] at hod
  obtain ⟨S2, hstep, hst⟩ := hst
  generalize X[i] = x at hx hxm hstep hod
  have nx : IntKind.wrap .i64 ((i : Int) + 1) = ((i + 1 : Nat) : Int) := nat_succ64 (by omega)
  refine g1.elem 0 rfl frX_w (by decide) hx rfl ?_
  intro r hr rd
  simp only [add_bk, Int.toNat_natCast]
  simp only [add_mk]
  refine xI_of (rd (k := 0) rfl) ?_
  refine xI_of (rd (k := 1) rfl) ?_
  refine xI_of (rd (k := 2) rfl) ?_
  refine xI_of (rd (k := 3) rfl) ?_
  refine xI_of (rd (k := 4) rfl) ?_
  refine xI_of (rd (k := 5) rfl) ?_
  refine xI_of (rd (k := 6) rfl) ?_
  refine xI_of (rd (k := 7) rfl) ?_
  refine xI_of (rd (k := 8) rfl) ?_
  refine xI_of (rd (k := 9) rfl) ?_
  refine xI_of (rd (k := 10) rfl) ?_
  refine xI_of (rd (k := 11) rfl) ?_
  refine xI_of (rd (k := 12) rfl) ?_
  refine xL_of (s := x.2) (rd (k := 13) rfl) ?_
  refine g1.nw ?_
  intro z h2 hs _
  simp only [List.cons_append, List.nil_append] at hs
  repeat (first | (refine Sat.st hs 0 rfl (by simp) rfl ?_; intro _ hs; simp only [List.set_cons_zero, List.set_cons_succ] at hs) | (refine Sat.st hs 1 rfl (by simp) rfl ?_; intro _ hs; simp only [List.set_cons_zero, List.set_cons_succ] at hs) | (refine Sat.st hs 2 rfl (by simp) rfl ?_; intro _ hs; simp only [List.set_cons_zero, List.set_cons_succ] at hs) | (refine Sat.st hs 3 rfl (by simp) rfl ?_; intro _ hs; simp only [List.set_cons_zero, List.set_cons_succ] at hs) | (refine Sat.lI hs 0 rfl rfl ?_) | (refine Sat.lI hs 1 rfl rfl ?_) | (refine Sat.lI hs 2 rfl rfl ?_) | (refine Sat.lI hs 3 rfl rfl ?_) | (refine Sat.lL hs 0 rfl rfl ?_) | (refine Sat.lL hs 1 rfl rfl ?_) | (refine Sat.lL hs 2 rfl rfl ?_) | (refine Sat.lL hs 3 rfl rfl ?_) | (refine Sat.lP hs 0 rfl rfl ?_) | (refine Sat.lP hs 1 rfl rfl ?_) | (refine Sat.lP hs 2 rfl rfl ?_) | (refine Sat.lP hs 3 rfl rfl ?_) | (refine Sat.lB hs 0 rfl rfl ?_) | (refine Sat.lB hs 1 rfl rfl ?_) | (refine Sat.lB hs 2 rfl rfl ?_) | (refine Sat.lB hs 3 rfl rfl ?_) | (refine Sat.lS hs 0 rfl rfl ?_) | (refine Sat.lS hs 1 rfl rfl ?_) | (refine Sat.lS hs 2 rfl rfl ?_) | (refine Sat.lS hs 3 rfl rfl ?_) | (refine Sat.lM hs 0 rfl rfl ?_) | (refine Sat.lM hs 1 rfl rfl ?_) | (refine Sat.lM hs 2 rfl rfl ?_) | (refine Sat.lM hs 3 rfl rfl ?_) | (refine Sat.lA hs 0 rfl rfl ?_) | (refine Sat.lA hs 1 rfl rfl ?_) | (refine Sat.lA hs 2 rfl rfl ?_) | (refine Sat.lA hs 3 rfl rfl ?_) | (simp only [nn_some', add_bk]))
  have rx : ∀ {h' : Hp} {M : List Asn}, Sat (L ++ (Hw.own 110 14 sl (X.flatMap frX) :: star (X.map fun x => Hw.own 5 1 x.2 (Hw.bc x.1.data)) :: M)) h' → RdB h' x.2 x.1.data := by
   intro h' M g
   have g4 : Sat ((L ++ [Hw.own 110 14 sl (X.flatMap frX)]) ++ [star (X.map fun x => Hw.own 5 1 x.2 (Hw.bc x.1.data))]) h' := g.part [0, 1] (by decide) rfl
   obtain ⟨L', g5⟩ := star_get g4 hxm
   exact (g5.own 0 rfl).rdb
  rcases hstep with ⟨k1, k2, k3, k4, k5, k6, rfl⟩ | ⟨k1, k2, k3, k4, k5, k6, ⟨Mx, k7, k7'⟩, k8, rfl⟩
  ·rw [k1]
   refine told_arp (d := x.1.dst) (s := x.1.src) (rx hs) (by omega) k2 fun h5 he => ?_
   have g2 := hs.ext he
   refine ifn_arp ?_
   rw [cond_false]
   refine asK_arp ?_
   unfold N19_j2
   rw [cond_false]
   refine asK_arp2 ?_
   unfold N19_j3
   rw [cond_false]
   unfold N19_j1
   dsimp only
   rw [cond_true]
   have g3 : Sat ((L ++ [Hw.own 110 14 sl (X.flatMap frX), star (X.map fun x => Hw.own 5 1 x.2 (Hw.bc x.1.data))]) ++ [stackA b bc S1]) h5 := g2.part [0, 1, 2] (by decide) rfl
   refine inv_q ?_
   have w1 := getV_lt x.1.data 14 4 (by omega)
   have w2 := getV_lt x.1.data 24 4 (by omega)
   refine c_qin g3 k3 (macOf_ok _ _) ⟨by omega, by omega⟩ ⟨by omega, by omega⟩ k4 k5 k6 fun h6 g4 => ?_
   rw [nx]
   exact ⟨⟨i + 1, _, rfl, hlt, Sat.asc g4, hst⟩, by omega⟩
  ·rw [k1]
   refine told_udp (d := x.1.dst) (s := x.1.src) (rx hs) (by omega) k2 k3 k4 fun h5 y hy => ?_
   have g2 := hs.addNew hy
   refine ifn_dg ?_
   rw [cond_false]
   refine asK_dg ?_
   refine on_dg ?_
   dsimp only
   unfold N19_j2
   rw [cond_true]
   refine g2.nw ?_
   intro z2 h6 hs2 _
   clear hs g2
   simp only [List.cons_append, List.nil_append] at hs2
   repeat (first | (refine Sat.st hs2 0 rfl (by simp) rfl ?_; intro _ hs2; simp only [List.set_cons_zero, List.set_cons_succ] at hs2) | (refine Sat.st hs2 1 rfl (by simp) rfl ?_; intro _ hs2; simp only [List.set_cons_zero, List.set_cons_succ] at hs2) | (refine Sat.st hs2 2 rfl (by simp) rfl ?_; intro _ hs2; simp only [List.set_cons_zero, List.set_cons_succ] at hs2) | (refine Sat.st hs2 3 rfl (by simp) rfl ?_; intro _ hs2; simp only [List.set_cons_zero, List.set_cons_succ] at hs2) | (refine Sat.st hs2 4 rfl (by simp) rfl ?_; intro _ hs2; simp only [List.set_cons_zero, List.set_cons_succ] at hs2) | (refine Sat.st hs2 5 rfl (by simp) rfl ?_; intro _ hs2; simp only [List.set_cons_zero, List.set_cons_succ] at hs2) | (refine Sat.lI hs2 0 rfl rfl ?_) | (refine Sat.lI hs2 1 rfl rfl ?_) | (refine Sat.lI hs2 2 rfl rfl ?_) | (refine Sat.lI hs2 3 rfl rfl ?_) | (refine Sat.lI hs2 4 rfl rfl ?_) | (refine Sat.lI hs2 5 rfl rfl ?_) | (refine Sat.lL hs2 0 rfl rfl ?_) | (refine Sat.lL hs2 1 rfl rfl ?_) | (refine Sat.lL hs2 2 rfl rfl ?_) | (refine Sat.lL hs2 3 rfl rfl ?_) | (refine Sat.lL hs2 4 rfl rfl ?_) | (refine Sat.lL hs2 5 rfl rfl ?_) | (refine Sat.lP hs2 0 rfl rfl ?_) | (refine Sat.lP hs2 1 rfl rfl ?_) | (refine Sat.lP hs2 2 rfl rfl ?_) | (refine Sat.lP hs2 3 rfl rfl ?_) | (refine Sat.lP hs2 4 rfl rfl ?_) | (refine Sat.lP hs2 5 rfl rfl ?_) | (refine Sat.lB hs2 0 rfl rfl ?_) | (refine Sat.lB hs2 1 rfl rfl ?_) | (refine Sat.lB hs2 2 rfl rfl ?_) | (refine Sat.lB hs2 3 rfl rfl ?_) | (refine Sat.lB hs2 4 rfl rfl ?_) | (refine Sat.lB hs2 5 rfl rfl ?_) | (refine Sat.lS hs2 0 rfl rfl ?_) | (refine Sat.lS hs2 1 rfl rfl ?_) | (refine Sat.lS hs2 2 rfl rfl ?_) | (refine Sat.lS hs2 3 rfl rfl ?_) | (refine Sat.lS hs2 4 rfl rfl ?_) | (refine Sat.lS hs2 5 rfl rfl ?_) | (refine Sat.lM hs2 0 rfl rfl ?_) | (refine Sat.lM hs2 1 rfl rfl ?_) | (refine Sat.lM hs2 2 rfl rfl ?_) | (refine Sat.lM hs2 3 rfl rfl ?_) | (refine Sat.lM hs2 4 rfl rfl ?_) | (refine Sat.lM hs2 5 rfl rfl ?_) | (refine Sat.lA hs2 0 rfl rfl ?_) | (refine Sat.lA hs2 1 rfl rfl ?_) | (refine Sat.lA hs2 2 rfl rfl ?_) | (refine Sat.lA hs2 3 rfl rfl ?_) | (refine Sat.lA hs2 4 rfl rfl ?_) | (refine Sat.lA hs2 5 rfl rfl ?_) | (simp only [nn_some', add_bk]))
   have g3 : Sat ((L ++ [Hw.own 110 14 sl (X.flatMap frX), star (X.map fun x => Hw.own 5 1 x.2 (Hw.bc x.1.data)), Hw.own 5 1 y (Hw.bc (udpD (ipD x.1.data)))]) ++ [stackA b bc S1]) _ := hs2.part [0, 1, 4, 2] (by decide) rfl
   refine c_sours (p := ipHd x.1.data) g3 k5 fun h7 g4 => ?_
   rw [k6]
   unfold N19_j1
   rw [cond_true]
   refine inv_d ?_
   have hpl : (udpD (ipD x.1.data)).length ≤ 140737488355328 := by unfold udpD ipD; rw [List.length_take, List.length_drop, List.length_take, List.length_drop]; omega
   refine c_din (data := udpD (ipD x.1.data)) g4 k7 k7' (fun h' g => (g.own 2 rfl).rdb) hpl k8 fun h8 g5 => ?_
   rw [nx]
   exact ⟨⟨i + 1, _, rfl, hlt, (Sat.asc g5).sel [0, 1, 3] (by decide) rfl, hst⟩, by omega⟩
 ·rw [show decide ((i : Int) < ((sl.n : Nat) : Int)) = false from decide_eq_false (by omega), cond_false]
  have : o.drop i = [] := List.drop_of_length_le (by omega)
  rw [this] at hst
  have hst : S' = S1 := hst
  subst hst
  rw [show sl.n = o.length by omega]
  exact hK _ (g1.sel [2] (by decide) rfl)
end
end Go.Proofs.YtbbnpmikjdgdpaaGreat

set_option linter.unusedVariables false
set_option maxRecDepth 100000
namespace Go.Proofs.YtbbnpmikjdgdpaaGreat
open Go Go.Hw
noncomputable def B4 : Code := match Tryz.f4.body with | some c => c | none => .skip
def N4 (x0 x1 : Int) (h : Hp) (K : Option Addr → Hp → Prop) : Prop :=
 C9 64 64 h fun p0 h0 =>
 peq h0 p0 none fun b0 =>
 bif b0 then
 K none h0
 else
 C10 p0 2 0 0 0 0 x0 h0 fun p1 h1 =>
 peq h1 p1 none fun b1 =>
 bif b1 then
 K none h1
 else
 C11 p1 h1 fun p2 h2 =>
 peq h2 p2 none fun b2 =>
 bif b2 then
 K none h2
 else
 C12 p2 x1 4294967040 0 h2 fun n0 h3 =>
 bif (n0 != 0) then
 K none h3
 else
 nw h3 (.cells ⟨[.pointer p0, .pointer p2]⟩ 30) fun b3 h4 =>
 K (some (bk b3)) h4
theorem S4 {x0 x1 : Int} {h : Hp} {K : Option Addr → Hp → Prop} (hn : N4 x0 x1 h K) : C4 x0 x1 h K := by
 refine calls_of_D Tryz.func4 (c := B4) rfl (by kernel_rfl) ?_
 refine den_sound hE hm _ .leaf _ _ _ (annOk_leaf) ?_
 refine cast ?_ hn
 kernel_rfl
end Go.Proofs.YtbbnpmikjdgdpaaGreat

set_option linter.unusedVariables false
set_option maxRecDepth 100000
namespace Go.Proofs.YtbbnpmikjdgdpaaGreat
open Go Go.Hw
noncomputable def B7 : Code := match Tryz.f7.body with | some c => c | none => .skip
def N7_l2_b (x0 x1 : Option Addr) (x2 x7 : Int) (x10 : Option Addr) (x23 : Sl) (x24 x25 : Int) (Φ : Bool → Sl → Bool → Hp → Prop) (x8 : Bool) (x11 : Sl) (x12 : Bool) (h : Hp) (K4 : Bool → Hp → Prop) : Prop :=
 bif x12 then
 nn x10 fun a0 =>
 xP (cell h (a0.add 1)) fun p0 =>
 nn p0 fun a1 =>
 xP (cell h a1) fun p1 =>
 C18 p1 x11 h fun b0 h0 =>
 nn x10 fun a2 =>
 xP (cell h0 a2) fun p2 =>
 nn p2 fun a3 =>
 xP (cell h0 a3) fun p3 =>
 C17 p3 h0 fun s0 b1 h1 =>
 Φ true s0 b1 h1
 else
 K4 x8 h
def N7_l2_B (x0 x1 : Option Addr) (x2 x7 : Int) (x10 : Option Addr) (x23 : Sl) (x24 x25 : Int) (K4 : Bool → Hp → Prop) (s : Sg.T [(8, .c (.bool)), (11, .c (.slice)), (12, .c (.bool))]) (h : Hp) (Φ : Sg.T [(8, .c (.bool)), (11, .c (.slice)), (12, .c (.bool))] → Hp → Prop) : Prop :=
 N7_l2_b x0 x1 x2 x7 x10 x23 x24 x25 (fun x8 x11 x12 h => Φ (x8, x11, x12) h) s.1 s.2.1 s.2.2 h K4
def N7_l2 (x0 x1 : Option Addr) (x2 x7 : Int) (x10 : Option Addr) (x23 : Sl) (x24 x25 : Int) (x8 : Bool) (x11 : Sl) (x12 : Bool) (h : Hp) (K4 : Bool → Hp → Prop) : Prop :=
 loopP (N7_l2_B x0 x1 x2 x7 x10 x23 x24 x25 K4) (x8, x11, x12) h
noncomputable def N7_l2_t : Xf := loopT [(0, .c (.ptr)), (1, .c (.ptr)), (2, .c (.int .i64)), (7, .c (.int .i64)), (10, .c (.ptr)), (23, .c (.slice)), (24, .c (.int .i64)), (25, .c (.int .i64))] [(8, .c (.bool)), (11, .c (.slice)), (12, .c (.bool))] (codeAt B7 [1, 0, 1, 0, 0, 1, 0, 0, 1, 0, 1, 0, 0, 1, 1, 0, 0, 1, 1, 0, 0, 0]) fun F Q => N7_l2_B F.1 F.2.1 F.2.2.1 F.2.2.2.1 F.2.2.2.2.1 F.2.2.2.2.2.1 F.2.2.2.2.2.2.1 F.2.2.2.2.2.2.2 (fun o0 h' => Q (.exit 4) (Sg.env [(8, .c (.bool))] o0) h')
theorem N7_l2_ok : Sound Tryz.prog Tryz.f7.ntmps N7_l2_t (codeAt B7 [1, 0, 1, 0, 0, 1, 0, 0, 1, 0, 1, 0, 0, 1, 1, 0, 0, 1, 1, 0, 0]) := by
 refine loop_sound (fun e => match e with | .exit 4 => [8] | _ => []) (by kernel_rfl) ?_
 intro F Q s h Φ hb
 refine den_sound hE hm _ .leaf _ _ _ (annOk_leaf) ?_
 refine cast ?_ hb
 kernel_rfl
def N7_l1_b (x0 x1 : Option Addr) (x2 x7 : Int) (x23 : Sl) (x24 : Int) (Φ : Bool → Int → Hp → Prop) (x8 : Bool) (x25 : Int) (h : Hp) (K2 : Bool → Hp → Prop) : Prop :=
 bif (decide (x25 < x24)) then
 idx x25 x23.n <|
 nn x23.p fun a0 =>
 xP (cell h (a0.add (x25.toNat * 2))) fun p0 =>
 xP (cell h ((a0.add (x25.toNat * 2)).add 1)) fun p1 =>
 nw h (.cells ⟨[.pointer none, .pointer none]⟩ 60) fun b0 h0 =>
 st h0 (bk b0) (.pointer p0) fun h1 =>
 st h1 ((bk b0).add 1) (.pointer p1) fun h2 =>
 xP (cell h2 (bk b0)) fun p2 =>
 nn p2 fun a1 =>
 xP (cell h2 a1) fun p3 =>
 C17 p3 h2 fun s0 b1 h3 =>
 N7_l2 x0 x1 x2 x7 (some (bk b0)) x23 x24 x25 x8 s0 b1 h3
 (fun b2 h4 =>
 xP (cell h4 ((bk b0).add 1)) fun p4 =>
 nn p4 fun a2 =>
 xP (cell h4 (a2.add 1)) fun p5 =>
 C19 p5 64 x2 h4 fun n0 h5 =>
 Φ b2 (IntKind.wrap .i64 (x25 + 1)) h5)
 else
 K2 x8 h
def N7_l1_B (x0 x1 : Option Addr) (x2 x7 : Int) (x23 : Sl) (x24 : Int) (K2 : Bool → Hp → Prop) (s : Sg.T [(8, .c (.bool)), (25, .c (.int .i64))]) (h : Hp) (Φ : Sg.T [(8, .c (.bool)), (25, .c (.int .i64))] → Hp → Prop) : Prop :=
 N7_l1_b x0 x1 x2 x7 x23 x24 (fun x8 x25 h => Φ (x8, x25) h) s.1 s.2 h K2
def N7_l1 (x0 x1 : Option Addr) (x2 x7 : Int) (x23 : Sl) (x24 : Int) (x8 : Bool) (x25 : Int) (h : Hp) (K2 : Bool → Hp → Prop) : Prop :=
 loopP (N7_l1_B x0 x1 x2 x7 x23 x24 K2) (x8, x25) h
noncomputable def N7_l1_t : Xf := loopT [(0, .c (.ptr)), (1, .c (.ptr)), (2, .c (.int .i64)), (7, .c (.int .i64)), (23, .c (.slice)), (24, .c (.int .i64))] [(8, .c (.bool)), (25, .c (.int .i64))] (codeAt B7 [1, 0, 1, 0, 0, 1, 0, 0, 1, 0, 1, 0, 0]) fun F Q => N7_l1_B F.1 F.2.1 F.2.2.1 F.2.2.2.1 F.2.2.2.2.1 F.2.2.2.2.2 (fun o0 h' => Q (.exit 2) (Sg.env [(8, .c (.bool))] o0) h')
theorem N7_l1_ok : Sound Tryz.prog Tryz.f7.ntmps N7_l1_t (codeAt B7 [1, 0, 1, 0, 0, 1, 0, 0, 1, 0, 1, 0]) := by
 refine loop_sound (fun e => match e with | .exit 2 => [8] | _ => []) (by kernel_rfl) ?_
 intro F Q s h Φ hb
 refine den_sound hE hm _ (.two .leaf (.two .leaf (.two (.one (.two .leaf (.two .leaf (.two (.one (.xf N7_l2_t)) .leaf)))) .leaf))) _ _ _ (⟨annOk_leaf, ⟨annOk_leaf, ⟨⟨annOk_leaf, ⟨annOk_leaf, ⟨N7_l2_ok, annOk_leaf⟩⟩⟩, annOk_leaf⟩⟩⟩) ?_
 refine cast ?_ hb
 kernel_rfl
def N7_l0_b (x0 x1 : Option Addr) (x2 : Int) (Φ : Int → Hp → Prop) (x7 : Int) (h : Hp) (K0 : Hp → Prop) (Kr : Bool → Hp → Prop) : Prop :=
 bif (decide (x7 < 64)) then
 nw h (.cells ⟨[.pointer x0, .pointer x1, .pointer x1, .pointer x0]⟩ 60) fun b0 h0 =>
 N7_l1 x0 x1 x2 x7 ⟨some (bk b0), 2, 2⟩ 2 false 0 h0
 (fun b1 h1 =>
 bif (!b1) then
 Kr true h1
 else
 Φ (IntKind.wrap .i64 (x7 + 1)) h1)
 else
 K0 h
def N7_l0_B (x0 x1 : Option Addr) (x2 : Int) (K0 : Hp → Prop) (Kr : Bool → Hp → Prop) (s : Sg.T [(7, .c (.int .i64))]) (h : Hp) (Φ : Sg.T [(7, .c (.int .i64))] → Hp → Prop) : Prop :=
 N7_l0_b x0 x1 x2 (fun x7 h => Φ x7 h) s h K0 Kr
def N7_l0 (x0 x1 : Option Addr) (x2 x7 : Int) (h : Hp) (K0 : Hp → Prop) (Kr : Bool → Hp → Prop) : Prop :=
 loopP (N7_l0_B x0 x1 x2 K0 Kr) x7 h
noncomputable def N7_l0_t : Xf := loopT [(0, .c (.ptr)), (1, .c (.ptr)), (2, .c (.int .i64))] [(7, .c (.int .i64))] (codeAt B7 [1, 0, 1, 0, 0]) fun F Q => N7_l0_B F.1 F.2.1 F.2.2 (fun h' => Q (.exit 0) (Sg.env [] ()) h') (fun o0 h' => Q .ret (Sg.env [(6, .c (.bool))] o0) h')
theorem N7_l0_ok : Sound Tryz.prog Tryz.f7.ntmps N7_l0_t (codeAt B7 [1, 0, 1, 0]) := by
 refine loop_sound (fun e => match e with | .exit 0 => [] | .ret => [6] | _ => []) (by kernel_rfl) ?_
 intro F Q s h Φ hb
 refine den_sound hE hm _ (.two .leaf (.two (.one (.two .leaf (.two (.two .leaf (.one (.xf N7_l1_t))) .leaf))) .leaf)) _ _ _ (⟨annOk_leaf, ⟨⟨annOk_leaf, ⟨⟨annOk_leaf, N7_l1_ok⟩, annOk_leaf⟩⟩, annOk_leaf⟩⟩) ?_
 refine cast ?_ hb
 kernel_rfl
def N7 (x0 x1 : Option Addr) (x2 : Int) (h : Hp) (K : Bool → Hp → Prop) : Prop :=
 N7_l0 x0 x1 x2 0 h
 (fun h0 =>
 K false h0)
 (fun b0 h1 =>
 K b0 h1)
theorem S7 {x0 x1 : Option Addr} {x2 : Int} {h : Hp} {K : Bool → Hp → Prop} (hn : N7 x0 x1 x2 h K) : C7 x0 x1 x2 h K := by
 refine calls_of_D Tryz.func7 (c := B7) rfl (by kernel_rfl) ?_
 refine den_sound hE hm _ (.two .leaf (.two (.two .leaf (.one (.xf N7_l0_t))) .leaf)) _ _ _ (⟨annOk_leaf, ⟨⟨annOk_leaf, N7_l0_ok⟩, annOk_leaf⟩⟩) ?_
 refine cast ?_ hn
 kernel_rfl
end Go.Proofs.YtbbnpmikjdgdpaaGreat

/-
 Two machines: made, pump.
-/
set_option linter.unusedSimpArgs false
set_option linter.unusedVariables false
set_option maxRecDepth 20000
namespace Go.Proofs.YtbbnpmikjdgdpaaGreat
open Go Go.Hw
abbrev nicP (b bc : Nat) (S : StS) (u : StX) : List Asn := [row b 55 (skC S u), tableA u.r S.net, cacheA u.c S.ca, portsA u.p S.tb, Hw.own 25 1 u.cl (uz S.clash), laidA u.la S.laid]
section
variable {L M : List Asn} {h : Hp} {b bc : Nat} {S : StS}
theorem nic_out (hs : Sat (L ++ [stackA b bc S]) h) : ∃ u, Sat ((L ++ nicP b bc S u) ++ [nicA u.n bc S.nic]) h := by
 obtain ⟨u, g⟩ := stack_open hs
 exact ⟨u, g.part [0, 2, 3, 4, 5, 6, 1] (by decide) rfl⟩
theorem nic_in {u : StX} {N : NcS} (hs : Sat ((L ++ nicP b bc S u) ++ [nicA u.n bc N]) h) : Sat (L ++ [stackA b bc { S with nic := N }]) h :=
 stack_shut (S := { S with nic := N }) (x := u) ((Sat.asc hs).sel [0, 6, 1, 2, 3, 4, 5] (by decide) rfl)
theorem c_sdep {K : Sl → Bool → Hp → Prop} (hs : Sat (L ++ [stackA b bc S]) h) (h0 : S.nic.tq = [] → K ⟨none, 0, 0⟩ false h)
  (hK : ∀ d r, S.nic.tq = d :: r → ∀ h' y, Sat (L ++ [stackA b bc { S with nic := { S.nic with tq := r } }, Hw.own 5 1 y (Hw.bc d)]) h' → K y true h') : C17 (some (bk bc)) h K := by
 obtain ⟨u, g⟩ := nic_out hs
 refine c_ndep g h0 fun d r e h' y g' => ?_
 have g2 : Sat (((L ++ [Hw.own 5 1 y (Hw.bc d)]) ++ nicP b bc S u) ++ [nicA u.n bc { S.nic with tq := r }]) h' := by
  have := (Sat.asc g').part [7, 0, 1, 2, 3, 4, 5, 6] (by decide) rfl (M1 := [Hw.own 5 1 y (Hw.bc d)]) (M2 := nicP b bc S u ++ [nicA u.n bc { S.nic with tq := r }])
  exact Sat.csa this
 exact hK d r e h' y ((Sat.asc (nic_in g2)).sel [1, 0] (by decide) rfl)
theorem c_sarr {x : Sl} {l : List UInt8} {K : Bool → Hp → Prop} (hs : Sat (L ++ [stackA b bc S]) h) (hr : RdB h x l) (hl : 0 < l.length ∧ l.length ≤ 1514) (hq : S.nic.rq.length < S.nic.rn)
  (hok : ∀ h', Sat (L ++ [stackA b bc { S with nic := { S.nic with rq := S.nic.rq ++ [l] } }]) h' → K true h') : C18 (some (bk bc)) x h K := by
 obtain ⟨u, g⟩ := nic_out hs
 refine c_narr g hr (fun q => by omega) fun _ _ h' g' => ?_
 exact hok h' (nic_in g')
def S00 (own : M6) : StS := ⟨⟨own, 64, [], 64, []⟩, ⟨0, 0, 0⟩, ⟨own, 64, [], 0⟩, ⟨16, 32, []⟩, 0, 0, [], []⟩
theorem c_made {last ip : Int} {S' : StS} {K : Option Addr → Hp → Prop} (hs : Sat (L ++ M) h) (hip : 0 ≤ ip ∧ ip < 4294967296) (hS : addrS (S00 ⟨2, 0, 0, 0, 0, last⟩) ip 4294967040 0 = (0, S'))
  (hK : ∀ m bc b h', Sat (L ++ (M ++ [row m 30 [.pointer (some (bk bc)), .pointer (some (bk b))], stackA b bc S'])) h' → K (some (bk m)) h') : C4 last ip h K := by
 apply S4; unfold N4
 refine c_cnew hs (fun q => by omega) fun _ bc h1 g1 => ?_
 simp only [peq_none, Option.isNone_some, cond_false]
 refine c_nnew (own := ⟨2, 0, 0, 0, 0, last⟩) (k := ⟨64, 0, [], 64, 0, []⟩) (L := L ++ M) (Sat.csa g1) fun n h2 g2 => ?_
 simp only [peq_none, Option.isNone_some, cond_false]
 refine c_snew g2 fun b h3 g3 => ?_
 simp only [peq_none, Option.isNone_some, cond_false]
 refine c_saddr (S := S00 ⟨2, 0, 0, 0, 0, last⟩) g3 hip ⟨by omega, by omega⟩ ⟨by omega, by omega⟩ fun h4 g4 => ?_
 rw [hS] at g4 ⊢
 rw [show ((0 : Int) != 0) = false from rfl, cond_false]
 refine Sat.nw g4 ?_
 intro m h5 g5 _
 have g6 : Sat ((L ++ M) ++ [row m 30 [.pointer (some (bk bc)), .pointer (some (bk b))], stackA b bc S']) h5 := Sat.sel (L := L ++ M) g5 [1, 0] (by decide) rfl
 exact hK m bc b h5 (Sat.asc g6)
end
/-! ### pump -/
def Half (now : Int) (A B B' : StS) : Prop := B.nic.rq = [] ∧ B.nic.rn = 64 ∧ A.nic.tq.length ≤ 64 ∧ (∀ l ∈ A.nic.tq, 0 < l.length ∧ l.length ≤ 1514) ∧ Steps now (A.nic.tq.filterMap (takeF B.nic.own)) B B'
def sent (A : StS) : StS := { A with nic := { A.nic with tq := [] } }
def PumpN (now : Int) : Nat → StS → StS → StS → StS → Prop
 | 0, A, B, A', B' => A.nic.tq = [] ∧ B.nic.tq = [] ∧ A.nic.rq = [] ∧ B.nic.rq = [] ∧ A.nic.rn = 64 ∧ B.nic.rn = 64 ∧ A' = A ∧ B' = B
 | n + 1, A, B, A', B' => ∃ B1 A1, Half now A B B1 ∧ Half now B1 (sent A) A1 ∧ (A.nic.tq ≠ [] ∨ B1.nic.tq ≠ []) ∧ PumpN now n A1 (sent B1) A' B'
def mch (m bc b : Nat) : Asn := row m 30 [.pointer (some (bk bc)), .pointer (some (bk b))]
section
variable {L : List Asn} {h : Hp} {ma ca ba mb_ cb bb : Nat} {A B A' B' : StS}
theorem pump_over {pz : Nat} {pa pb : Option Addr} {now turns : Int} {x23 : Sl} {x24 x25 : Int} {mv : Bool} {K : Bool → Hp → Prop}
  (hs : Sat (L ++ [row pz 60 [.pointer (some (bk ma)), .pointer (some (bk mb_))], mch ma ca ba, mch mb_ cb bb, stackA ba ca A, stackA bb cb B]) h)
  (hH : B.nic.rq = [] ∧ B.nic.rn = 64 ∧ A.nic.tq.length ≤ 64 ∧ (∀ l ∈ A.nic.tq, 0 < l.length ∧ l.length ≤ 1514))
  (hK : ∀ h', Sat (L ++ [row pz 60 [.pointer (some (bk ma)), .pointer (some (bk mb_))], mch ma ca ba, mch mb_ cb bb, stackA ba ca (sent A), stackA bb cb { B with nic := { B.nic with rq := A.nic.tq } }]) h' → K (mv || !A.nic.tq.isEmpty) h') :
  C17 (some (bk ca)) h fun s0 b1 h3 => N7_l2 pa pb now turns (some (bk pz)) x23 x24 x25 mv s0 b1 h3 K := by
 obtain ⟨h1, h2, h3, h4⟩ := hH
 -- the loop, from any point on
 have loop : ∀ (q done : List (List UInt8)) (s0 : Sl) (d : List UInt8) (hc : Hp) (mv' : Bool), A.nic.tq = done ++ d :: q →
   (mv' = (mv || !done.isEmpty)) →
   Sat (L ++ [row pz 60 [.pointer (some (bk ma)), .pointer (some (bk mb_))], mch ma ca ba, mch mb_ cb bb, stackA ba ca { A with nic := { A.nic with tq := q } }, stackA bb cb { B with nic := { B.nic with rq := done } }, Hw.own 5 1 s0 (Hw.bc d)]) hc →
   N7_l2 pa pb now turns (some (bk pz)) x23 x24 x25 mv' s0 true hc K := by
  intro q done s0 d hc mv' e emv g
  unfold N7_l2
  refine loopP_ghost (fun (z : Bool × Sl × Bool) hc (x : Option (List (List UInt8) × List (List UInt8) × List UInt8)) => match x with
   | none => z.2.2 = false ∧ z.1 = (mv || !A.nic.tq.isEmpty) ∧ Sat (L ++ [row pz 60 [.pointer (some (bk ma)), .pointer (some (bk mb_))], mch ma ca ba, mch mb_ cb bb, stackA ba ca (sent A), stackA bb cb { B with nic := { B.nic with rq := A.nic.tq } }]) hc
   | some (q, done, d) => z.2.2 = true ∧ A.nic.tq = done ++ d :: q ∧
    Sat (L ++ [row pz 60 [.pointer (some (bk ma)), .pointer (some (bk mb_))], mch ma ca ba, mch mb_ cb bb, stackA ba ca { A with nic := { A.nic with tq := q } }, stackA bb cb { B with nic := { B.nic with rq := done } }, Hw.own 5 1 z.2.1 (Hw.bc d)]) hc)
   (fun x => match x with | none => 0 | some (q, _, _) => q.length + 1) ?_ (some (q, done, d)) ⟨rfl, e, g⟩
  clear g e emv
  rintro ⟨mv', s0, is⟩ hc x hx
  unfold N7_l2_B N7_l2_b
  dsimp only
  match x, hx with
  | none, ⟨e1, e2, g⟩ =>
   simp only at e1 e2
   subst e1 e2
   rw [cond_false]
   exact hK hc g
  | some (q, done, d), ⟨e1, e2, g⟩ =>
   simp only at e1 g
   subst e1
   rw [cond_true]
   simp only [nn_some', add_bk]
   refine g.lP 0 rfl rfl ?_
   simp only [nn_some', add_bk]
   unfold mch at g
   refine g.lP 2 rfl rfl ?_
   have dl := h4 d (by rw [e2]; simp)
   have len := congrArg List.length e2
   simp only [List.length_append, List.length_cons] at len
   have g1 := g.part [0, 1, 2, 3, 5, 4] (by decide) rfl (M1 := [row pz 60 [.pointer (some (bk ma)), .pointer (some (bk mb_))], row ma 30 [.pointer (some (bk ca)), .pointer (some (bk ba))], row mb_ 30 [.pointer (some (bk cb)), .pointer (some (bk bb))], stackA ba ca { A with nic := { A.nic with tq := q } }, Hw.own 5 1 s0 (Hw.bc d)]) (M2 := [stackA bb cb { B with nic := { B.nic with rq := done } }])
   refine c_sarr g1 (Sat.own (Sat.asc g1) 4 rfl).rdb dl (by show done.length < B.nic.rn; omega) fun h5 g2 => ?_
   have g2 := Sat.asc g2
   refine Sat.lP g2 0 (k := 0) rfl rfl ?_
   simp only [nn_some', add_bk]
   refine Sat.lP g2 1 (k := 0) rfl rfl ?_
   have g3 := g2.part [0, 1, 2, 5, 3] (by decide) rfl (M1 := [row pz 60 [.pointer (some (bk ma)), .pointer (some (bk mb_))], row ma 30 [.pointer (some (bk ca)), .pointer (some (bk ba))], row mb_ 30 [.pointer (some (bk cb)), .pointer (some (bk bb))], stackA bb cb { B with nic := { B.nic with rq := done ++ [d] } }]) (M2 := [stackA ba ca { A with nic := { A.nic with tq := q } }])
   refine c_sdep g3 (fun hq => ?_) (fun d2 r hq h6 y g4 => ?_)
   ·have hq : q = [] := hq
    subst hq
    refine ⟨none, ⟨rfl, ?_, ?_⟩, by simp⟩
    ·rw [e2]; simp
    ·rw [e2]; exact (Sat.asc g3).sel [0, 1, 2, 4, 3] (by decide) rfl
   ·have hq : q = d2 :: r := hq
    subst hq
    refine ⟨some (r, done ++ [d], d2), ⟨rfl, by rw [e2]; simp, ?_⟩, by simp⟩
    exact (Sat.asc g4).sel [0, 1, 2, 4, 3, 5] (by decide) rfl
 have g1 := hs.part [0, 1, 2, 4, 3] (by decide) rfl (M1 := [row pz 60 [.pointer (some (bk ma)), .pointer (some (bk mb_))], mch ma ca ba, mch mb_ cb bb, stackA bb cb B]) (M2 := [stackA ba ca A])
 have eB : ({ B with nic := { B.nic with rq := [] } } : StS) = B := by
  obtain ⟨⟨b1, b2, b3, b4, b5⟩, b6, b7, b8, b9, b10, b11, b12⟩ := B
  simp only at h1; subst h1; rfl
 refine c_sdep g1 (fun hq => ?_) (fun d r hq h6 y g4 => ?_)
 ·unfold N7_l2
  refine loopP_inv (fun (z : Bool × Sl × Bool) hc => z.2.2 = false ∧ z.1 = mv ∧ hc = h) (fun _ _ => 0) ?_ ⟨rfl, rfl, rfl⟩
  rintro ⟨mv', s0, is⟩ hc ⟨e1, e2, e3⟩
  simp only at e1 e2
  subst e1 e2 e3
  unfold N7_l2_B N7_l2_b
  dsimp only
  rw [cond_false]
  have hk := hK hc
  rw [hq, eB, show sent A = A from by obtain ⟨⟨b1, b2, b3, b4, b5⟩, b6, b7, b8, b9, b10, b11, b12⟩ := A; simp only at hq; subst hq; rfl] at hk
  simpa using hk hs
 ·refine loop r [] y d h6 mv hq (by simp) ?_
  rw [eB]
  exact (Sat.asc g4).sel [0, 1, 2, 4, 3, 5] (by decide) rfl
theorem pump_half {pz k : Nat} {pa pb : Option Addr} {now turns : Int} {x23 : Sl} {x24 : Int} {mv : Bool} {K : Bool → Hp → Prop}
  (hs : Sat (L ++ [row pz 60 [.pointer (some (bk ma)), .pointer (some (bk mb_))], mch ma ca ba, mch mb_ cb bb, stackA ba ca A, stackA bb cb B]) h) (hH : Half now A B B')
  (hK : ∀ h', Sat (L ++ [mch ma ca ba, mch mb_ cb bb, stackA ba ca (sent A), stackA bb cb B']) h' → K (mv || !A.nic.tq.isEmpty) h') :
  C17 (some (bk ca)) h fun s0 b1 h3 => N7_l2 pa pb now turns (some (bk pz)) x23 x24 (k : Int) mv s0 b1 h3 fun b2 h4 =>
   xP (cell h4 ((bk pz).add 1)) fun p4 => nn p4 fun a2 => xP (cell h4 (a2.add 1)) fun p5 => C19 p5 64 now h4 fun n0 h5 => K b2 h5 := by
 obtain ⟨h1, h2, h3, h4, h5⟩ := hH
 refine pump_over hs ⟨h1, h2, h3, h4⟩ fun h6 g => ?_
 simp only [add_bk]
 refine g.lP 0 (k := 1) rfl rfl ?_
 simp only [nn_some', add_bk]
 unfold mch at g
 refine g.lP 2 rfl rfl ?_
 have g1 := g.part [0, 1, 2, 3, 4] (by decide) rfl (M1 := [row pz 60 [.pointer (some (bk ma)), .pointer (some (bk mb_))], mch ma ca ba, mch mb_ cb bb, stackA ba ca (sent A)]) (M2 := [stackA bb cb { B with nic := { B.nic with rq := A.nic.tq } }])
 have e64 : (64 : Int).toNat = 64 := rfl
 have et : A.nic.tq.take 64 = A.nic.tq := List.take_of_length_le h3
 have ed : A.nic.tq.drop 64 = [] := List.drop_of_length_le h3
 have eB : ({ B with nic := { B.nic with rq := [] } } : StS) = B := by
  obtain ⟨⟨b1, b2, b3, b4, b5⟩, b6, b7, b8, b9, b10, b11, b12⟩ := B
  simp only at h1; subst h1; rfl
 refine c_spoll (S' := B') g1 (fun l hl => (h4 l hl).2) (by decide) ?_ fun h7 g2 => ?_
 ·show Steps now ((A.nic.tq.take (64 : Int).toNat).filterMap (takeF B.nic.own)) { B with nic := { B.nic with rq := A.nic.tq.drop (64 : Int).toNat } } B'
  rw [e64, et, ed, eB]; exact h5
 ·exact hK h7 ((Sat.asc g2).sel [1, 2, 3, 4] (by decide) rfl)
end
section
variable {L : List Asn} {h : Hp} {ma ca ba mb_ cb bb : Nat} {now : Int}
theorem c_pump : ∀ {n : Nat} {A B A' B' : StS} {K : Bool → Hp → Prop}, Sat (L ++ [mch ma ca ba, mch mb_ cb bb, stackA ba ca A, stackA bb cb B]) h → PumpN now n A B A' B' → n < 64 →
  (∀ h', Sat (L ++ [mch ma ca ba, mch mb_ cb bb, stackA ba ca A', stackA bb cb B']) h' → K true h') → C7 (some (bk ma)) (some (bk mb_)) now h K := by
 intro n A B A' B' K hs hp hn hK
 apply S7; unfold N7 N7_l0
 refine loopP_ghost (fun (z : Int) hc (x : Nat × StS × StS) => z = (n : Int) - x.1 ∧ x.1 ≤ n ∧ Sat (L ++ [mch ma ca ba, mch mb_ cb bb, stackA ba ca x.2.1, stackA bb cb x.2.2]) hc ∧ PumpN now x.1 x.2.1 x.2.2 A' B') (fun x => x.1) ?_ (n, A, B) ⟨by simp, Nat.le_refl _, hs, hp⟩
 clear hs hp
 rintro z hc ⟨m, A, B⟩ ⟨rfl, hm, g, hp⟩
 simp only at hm g hp
 unfold N7_l0_B N7_l0_b
 rw [show decide ((n : Int) - (m : Int) < 64) = true from decide_eq_true (by omega), cond_true]
 refine g.nw ?_
 intro pr h1 g1 _
 have g1 : Sat (L ++ [mch ma ca ba, mch mb_ cb bb, stackA ba ca A, stackA bb cb B, row pr 60 [.pointer (some (bk ma)), .pointer (some (bk mb_)), .pointer (some (bk mb_)), .pointer (some (bk ma))]]) h1 := g1
 -- both ways
 have turn : ∀ {B1 A1 : StS} {K2 : Bool → Hp → Prop}, Half now A B B1 → Half now B1 (sent A) A1 → (∀ h', Sat (L ++ [mch ma ca ba, mch mb_ cb bb, stackA ba ca A1, stackA bb cb (sent B1)]) h' → K2 (!A.nic.tq.isEmpty || !B1.nic.tq.isEmpty) h') →
   N7_l1 (some (bk ma)) (some (bk mb_)) now ((n : Int) - (m : Int)) ⟨some (bk pr), 2, 2⟩ 2 false 0 h1 K2 := by
  intro B1 A1 K2 H1 H2 hK2
  unfold N7_l1
  refine loopP_ghost (fun (z : Bool × Int) hc (i : Nat) => z.2 = 2 - (i : Int) ∧ ((i = 2 ∧ z.1 = false ∧ Sat (L ++ [mch ma ca ba, mch mb_ cb bb, stackA ba ca A, stackA bb cb B, row pr 60 [.pointer (some (bk ma)), .pointer (some (bk mb_)), .pointer (some (bk mb_)), .pointer (some (bk ma))]]) hc) ∨
    (i = 1 ∧ z.1 = !A.nic.tq.isEmpty ∧ Sat (L ++ [mch ma ca ba, mch mb_ cb bb, stackA ba ca (sent A), stackA bb cb B1, row pr 60 [.pointer (some (bk ma)), .pointer (some (bk mb_)), .pointer (some (bk mb_)), .pointer (some (bk ma))]]) hc) ∨
    (i = 0 ∧ z.1 = (!A.nic.tq.isEmpty || !B1.nic.tq.isEmpty) ∧ Sat (L ++ [mch ma ca ba, mch mb_ cb bb, stackA ba ca A1, stackA bb cb (sent B1)]) hc))) (fun i => i) ?_ 2 ⟨rfl, .inl ⟨rfl, rfl, g1⟩⟩
  rintro ⟨mv, z⟩ hc i ⟨hz, hx⟩
  simp only at hz hx
  unfold N7_l1_B N7_l1_b
  dsimp only
  rcases hx with ⟨rfl, rfl, g⟩ | ⟨rfl, rfl, g⟩ | ⟨rfl, rfl, g⟩
  ·have hz : z = 0 := by omega
   subst hz
   rw [show decide ((0 : Int) < 2) = true from rfl, cond_true]
   refine idx_of (by omega) (by show (0 : Int) < 2; omega) ?_
   simp only [nn_some', add_bk]
   refine g.lP 4 (k := 0) rfl rfl ?_
   refine g.lP 4 (k := 1) rfl rfl ?_
   refine g.nw ?_
   intro pz h2 hs _
   simp only [List.cons_append, List.nil_append] at hs
   repeat (first | (refine Sat.st hs 0 rfl (by simp) rfl ?_; intro _ hs; simp only [List.set_cons_zero, List.set_cons_succ] at hs) | (refine Sat.st hs 1 rfl (by simp) rfl ?_; intro _ hs; simp only [List.set_cons_zero, List.set_cons_succ] at hs) | (refine Sat.st hs 2 rfl (by simp) rfl ?_; intro _ hs; simp only [List.set_cons_zero, List.set_cons_succ] at hs) | (refine Sat.st hs 3 rfl (by simp) rfl ?_; intro _ hs; simp only [List.set_cons_zero, List.set_cons_succ] at hs) | (refine Sat.st hs 4 rfl (by simp) rfl ?_; intro _ hs; simp only [List.set_cons_zero, List.set_cons_succ] at hs) | (refine Sat.st hs 5 rfl (by simp) rfl ?_; intro _ hs; simp only [List.set_cons_zero, List.set_cons_succ] at hs) | (refine Sat.lI hs 0 rfl rfl ?_) | (refine Sat.lI hs 1 rfl rfl ?_) | (refine Sat.lI hs 2 rfl rfl ?_) | (refine Sat.lI hs 3 rfl rfl ?_) | (refine Sat.lI hs 4 rfl rfl ?_) | (refine Sat.lI hs 5 rfl rfl ?_) | (refine Sat.lL hs 0 rfl rfl ?_) | (refine Sat.lL hs 1 rfl rfl ?_) | (refine Sat.lL hs 2 rfl rfl ?_) | (refine Sat.lL hs 3 rfl rfl ?_) | (refine Sat.lL hs 4 rfl rfl ?_) | (refine Sat.lL hs 5 rfl rfl ?_) | (refine Sat.lP hs 0 rfl rfl ?_) | (refine Sat.lP hs 1 rfl rfl ?_) | (refine Sat.lP hs 2 rfl rfl ?_) | (refine Sat.lP hs 3 rfl rfl ?_) | (refine Sat.lP hs 4 rfl rfl ?_) | (refine Sat.lP hs 5 rfl rfl ?_) | (refine Sat.lB hs 0 rfl rfl ?_) | (refine Sat.lB hs 1 rfl rfl ?_) | (refine Sat.lB hs 2 rfl rfl ?_) | (refine Sat.lB hs 3 rfl rfl ?_) | (refine Sat.lB hs 4 rfl rfl ?_) | (refine Sat.lB hs 5 rfl rfl ?_) | (refine Sat.lS hs 0 rfl rfl ?_) | (refine Sat.lS hs 1 rfl rfl ?_) | (refine Sat.lS hs 2 rfl rfl ?_) | (refine Sat.lS hs 3 rfl rfl ?_) | (refine Sat.lS hs 4 rfl rfl ?_) | (refine Sat.lS hs 5 rfl rfl ?_) | (refine Sat.lM hs 0 rfl rfl ?_) | (refine Sat.lM hs 1 rfl rfl ?_) | (refine Sat.lM hs 2 rfl rfl ?_) | (refine Sat.lM hs 3 rfl rfl ?_) | (refine Sat.lM hs 4 rfl rfl ?_) | (refine Sat.lM hs 5 rfl rfl ?_) | (refine Sat.lA hs 0 rfl rfl ?_) | (refine Sat.lA hs 1 rfl rfl ?_) | (refine Sat.lA hs 2 rfl rfl ?_) | (refine Sat.lA hs 3 rfl rfl ?_) | (refine Sat.lA hs 4 rfl rfl ?_) | (refine Sat.lA hs 5 rfl rfl ?_) | (simp only [nn_some', add_bk]))
   have g2 : Sat ((L ++ [row pr 60 [.pointer (some (bk ma)), .pointer (some (bk mb_)), .pointer (some (bk mb_)), .pointer (some (bk ma))]]) ++ [row pz 60 [.pointer (some (bk ma)), .pointer (some (bk mb_))], mch ma ca ba, mch mb_ cb bb, stackA ba ca A, stackA bb cb B]) _ := hs.part [4, 5, 0, 1, 2, 3] (by decide) rfl
   unfold mch at hs
   repeat (first | (refine Sat.st hs 0 rfl (by simp) rfl ?_; intro _ hs; simp only [List.set_cons_zero, List.set_cons_succ] at hs) | (refine Sat.st hs 1 rfl (by simp) rfl ?_; intro _ hs; simp only [List.set_cons_zero, List.set_cons_succ] at hs) | (refine Sat.st hs 2 rfl (by simp) rfl ?_; intro _ hs; simp only [List.set_cons_zero, List.set_cons_succ] at hs) | (refine Sat.st hs 3 rfl (by simp) rfl ?_; intro _ hs; simp only [List.set_cons_zero, List.set_cons_succ] at hs) | (refine Sat.st hs 4 rfl (by simp) rfl ?_; intro _ hs; simp only [List.set_cons_zero, List.set_cons_succ] at hs) | (refine Sat.st hs 5 rfl (by simp) rfl ?_; intro _ hs; simp only [List.set_cons_zero, List.set_cons_succ] at hs) | (refine Sat.lI hs 0 rfl rfl ?_) | (refine Sat.lI hs 1 rfl rfl ?_) | (refine Sat.lI hs 2 rfl rfl ?_) | (refine Sat.lI hs 3 rfl rfl ?_) | (refine Sat.lI hs 4 rfl rfl ?_) | (refine Sat.lI hs 5 rfl rfl ?_) | (refine Sat.lL hs 0 rfl rfl ?_) | (refine Sat.lL hs 1 rfl rfl ?_) | (refine Sat.lL hs 2 rfl rfl ?_) | (refine Sat.lL hs 3 rfl rfl ?_) | (refine Sat.lL hs 4 rfl rfl ?_) | (refine Sat.lL hs 5 rfl rfl ?_) | (refine Sat.lP hs 0 rfl rfl ?_) | (refine Sat.lP hs 1 rfl rfl ?_) | (refine Sat.lP hs 2 rfl rfl ?_) | (refine Sat.lP hs 3 rfl rfl ?_) | (refine Sat.lP hs 4 rfl rfl ?_) | (refine Sat.lP hs 5 rfl rfl ?_) | (refine Sat.lB hs 0 rfl rfl ?_) | (refine Sat.lB hs 1 rfl rfl ?_) | (refine Sat.lB hs 2 rfl rfl ?_) | (refine Sat.lB hs 3 rfl rfl ?_) | (refine Sat.lB hs 4 rfl rfl ?_) | (refine Sat.lB hs 5 rfl rfl ?_) | (refine Sat.lS hs 0 rfl rfl ?_) | (refine Sat.lS hs 1 rfl rfl ?_) | (refine Sat.lS hs 2 rfl rfl ?_) | (refine Sat.lS hs 3 rfl rfl ?_) | (refine Sat.lS hs 4 rfl rfl ?_) | (refine Sat.lS hs 5 rfl rfl ?_) | (refine Sat.lM hs 0 rfl rfl ?_) | (refine Sat.lM hs 1 rfl rfl ?_) | (refine Sat.lM hs 2 rfl rfl ?_) | (refine Sat.lM hs 3 rfl rfl ?_) | (refine Sat.lM hs 4 rfl rfl ?_) | (refine Sat.lM hs 5 rfl rfl ?_) | (refine Sat.lA hs 0 rfl rfl ?_) | (refine Sat.lA hs 1 rfl rfl ?_) | (refine Sat.lA hs 2 rfl rfl ?_) | (refine Sat.lA hs 3 rfl rfl ?_) | (refine Sat.lA hs 4 rfl rfl ?_) | (refine Sat.lA hs 5 rfl rfl ?_) | (simp only [nn_some', add_bk]))
   refine pump_half (k := 0) g2 H1 fun h3 g3 => ?_
   refine ⟨1, ⟨rfl, .inr (.inl ⟨rfl, by simp, (Sat.asc g3).sel [1, 2, 3, 4, 0] (by decide) rfl⟩)⟩, by omega⟩
  ·have hz : z = 1 := by omega
   subst hz
   rw [show decide ((1 : Int) < 2) = true from rfl, cond_true]
   refine idx_of (by omega) (by show (1 : Int) < 2; omega) ?_
   simp only [nn_some', add_bk]
   refine g.lP 4 (k := 2) rfl rfl ?_
   refine g.lP 4 (k := 3) rfl rfl ?_
   refine g.nw ?_
   intro pz h2 hs _
   simp only [List.cons_append, List.nil_append] at hs
   repeat (first | (refine Sat.st hs 0 rfl (by simp) rfl ?_; intro _ hs; simp only [List.set_cons_zero, List.set_cons_succ] at hs) | (refine Sat.st hs 1 rfl (by simp) rfl ?_; intro _ hs; simp only [List.set_cons_zero, List.set_cons_succ] at hs) | (refine Sat.st hs 2 rfl (by simp) rfl ?_; intro _ hs; simp only [List.set_cons_zero, List.set_cons_succ] at hs) | (refine Sat.st hs 3 rfl (by simp) rfl ?_; intro _ hs; simp only [List.set_cons_zero, List.set_cons_succ] at hs) | (refine Sat.st hs 4 rfl (by simp) rfl ?_; intro _ hs; simp only [List.set_cons_zero, List.set_cons_succ] at hs) | (refine Sat.st hs 5 rfl (by simp) rfl ?_; intro _ hs; simp only [List.set_cons_zero, List.set_cons_succ] at hs) | (refine Sat.lI hs 0 rfl rfl ?_) | (refine Sat.lI hs 1 rfl rfl ?_) | (refine Sat.lI hs 2 rfl rfl ?_) | (refine Sat.lI hs 3 rfl rfl ?_) | (refine Sat.lI hs 4 rfl rfl ?_) | (refine Sat.lI hs 5 rfl rfl ?_) | (refine Sat.lL hs 0 rfl rfl ?_) | (refine Sat.lL hs 1 rfl rfl ?_) | (refine Sat.lL hs 2 rfl rfl ?_) | (refine Sat.lL hs 3 rfl rfl ?_) | (refine Sat.lL hs 4 rfl rfl ?_) | (refine Sat.lL hs 5 rfl rfl ?_) | (refine Sat.lP hs 0 rfl rfl ?_) | (refine Sat.lP hs 1 rfl rfl ?_) | (refine Sat.lP hs 2 rfl rfl ?_) | (refine Sat.lP hs 3 rfl rfl ?_) | (refine Sat.lP hs 4 rfl rfl ?_) | (refine Sat.lP hs 5 rfl rfl ?_) | (refine Sat.lB hs 0 rfl rfl ?_) | (refine Sat.lB hs 1 rfl rfl ?_) | (refine Sat.lB hs 2 rfl rfl ?_) | (refine Sat.lB hs 3 rfl rfl ?_) | (refine Sat.lB hs 4 rfl rfl ?_) | (refine Sat.lB hs 5 rfl rfl ?_) | (refine Sat.lS hs 0 rfl rfl ?_) | (refine Sat.lS hs 1 rfl rfl ?_) | (refine Sat.lS hs 2 rfl rfl ?_) | (refine Sat.lS hs 3 rfl rfl ?_) | (refine Sat.lS hs 4 rfl rfl ?_) | (refine Sat.lS hs 5 rfl rfl ?_) | (refine Sat.lM hs 0 rfl rfl ?_) | (refine Sat.lM hs 1 rfl rfl ?_) | (refine Sat.lM hs 2 rfl rfl ?_) | (refine Sat.lM hs 3 rfl rfl ?_) | (refine Sat.lM hs 4 rfl rfl ?_) | (refine Sat.lM hs 5 rfl rfl ?_) | (refine Sat.lA hs 0 rfl rfl ?_) | (refine Sat.lA hs 1 rfl rfl ?_) | (refine Sat.lA hs 2 rfl rfl ?_) | (refine Sat.lA hs 3 rfl rfl ?_) | (refine Sat.lA hs 4 rfl rfl ?_) | (refine Sat.lA hs 5 rfl rfl ?_) | (simp only [nn_some', add_bk]))
   have g2 : Sat ((L ++ [row pr 60 [.pointer (some (bk ma)), .pointer (some (bk mb_)), .pointer (some (bk mb_)), .pointer (some (bk ma))]]) ++ [row pz 60 [.pointer (some (bk mb_)), .pointer (some (bk ma))], mch mb_ cb bb, mch ma ca ba, stackA bb cb B1, stackA ba ca (sent A)]) _ := hs.part [4, 5, 1, 0, 3, 2] (by decide) rfl
   unfold mch at hs
   repeat (first | (refine Sat.st hs 0 rfl (by simp) rfl ?_; intro _ hs; simp only [List.set_cons_zero, List.set_cons_succ] at hs) | (refine Sat.st hs 1 rfl (by simp) rfl ?_; intro _ hs; simp only [List.set_cons_zero, List.set_cons_succ] at hs) | (refine Sat.st hs 2 rfl (by simp) rfl ?_; intro _ hs; simp only [List.set_cons_zero, List.set_cons_succ] at hs) | (refine Sat.st hs 3 rfl (by simp) rfl ?_; intro _ hs; simp only [List.set_cons_zero, List.set_cons_succ] at hs) | (refine Sat.st hs 4 rfl (by simp) rfl ?_; intro _ hs; simp only [List.set_cons_zero, List.set_cons_succ] at hs) | (refine Sat.st hs 5 rfl (by simp) rfl ?_; intro _ hs; simp only [List.set_cons_zero, List.set_cons_succ] at hs) | (refine Sat.lI hs 0 rfl rfl ?_) | (refine Sat.lI hs 1 rfl rfl ?_) | (refine Sat.lI hs 2 rfl rfl ?_) | (refine Sat.lI hs 3 rfl rfl ?_) | (refine Sat.lI hs 4 rfl rfl ?_) | (refine Sat.lI hs 5 rfl rfl ?_) | (refine Sat.lL hs 0 rfl rfl ?_) | (refine Sat.lL hs 1 rfl rfl ?_) | (refine Sat.lL hs 2 rfl rfl ?_) | (refine Sat.lL hs 3 rfl rfl ?_) | (refine Sat.lL hs 4 rfl rfl ?_) | (refine Sat.lL hs 5 rfl rfl ?_) | (refine Sat.lP hs 0 rfl rfl ?_) | (refine Sat.lP hs 1 rfl rfl ?_) | (refine Sat.lP hs 2 rfl rfl ?_) | (refine Sat.lP hs 3 rfl rfl ?_) | (refine Sat.lP hs 4 rfl rfl ?_) | (refine Sat.lP hs 5 rfl rfl ?_) | (refine Sat.lB hs 0 rfl rfl ?_) | (refine Sat.lB hs 1 rfl rfl ?_) | (refine Sat.lB hs 2 rfl rfl ?_) | (refine Sat.lB hs 3 rfl rfl ?_) | (refine Sat.lB hs 4 rfl rfl ?_) | (refine Sat.lB hs 5 rfl rfl ?_) | (refine Sat.lS hs 0 rfl rfl ?_) | (refine Sat.lS hs 1 rfl rfl ?_) | (refine Sat.lS hs 2 rfl rfl ?_) | (refine Sat.lS hs 3 rfl rfl ?_) | (refine Sat.lS hs 4 rfl rfl ?_) | (refine Sat.lS hs 5 rfl rfl ?_) | (refine Sat.lM hs 0 rfl rfl ?_) | (refine Sat.lM hs 1 rfl rfl ?_) | (refine Sat.lM hs 2 rfl rfl ?_) | (refine Sat.lM hs 3 rfl rfl ?_) | (refine Sat.lM hs 4 rfl rfl ?_) | (refine Sat.lM hs 5 rfl rfl ?_) | (refine Sat.lA hs 0 rfl rfl ?_) | (refine Sat.lA hs 1 rfl rfl ?_) | (refine Sat.lA hs 2 rfl rfl ?_) | (refine Sat.lA hs 3 rfl rfl ?_) | (refine Sat.lA hs 4 rfl rfl ?_) | (refine Sat.lA hs 5 rfl rfl ?_) | (simp only [nn_some', add_bk]))
   refine pump_half (k := 1) g2 H2 fun h3 g3 => ?_
   refine ⟨0, ⟨rfl, .inr (.inr ⟨rfl, rfl, (Sat.asc g3).sel [2, 1, 4, 3] (by decide) rfl⟩)⟩, by omega⟩
  ·have hz : z = 2 := by omega
   subst hz
   rw [show decide ((2 : Int) < 2) = false from rfl, cond_false]
   exact hK2 hc g
 cases m with
 | zero =>
  obtain ⟨p1, p2, p3, p4, p5, p6, rfl, rfl⟩ := hp
  have eA : sent A' = A' := by obtain ⟨⟨b1, b2, b3, b4, b5⟩, b6, b7, b8, b9, b10, b11, b12⟩ := A'; simp only at p1; subst p1; rfl
  have eB : sent B' = B' := by obtain ⟨⟨b1, b2, b3, b4, b5⟩, b6, b7, b8, b9, b10, b11, b12⟩ := B'; simp only at p2; subst p2; rfl
  refine turn (B1 := B') (A1 := A') ⟨p4, p6, by rw [p1]; simp, by rw [p1]; simp, by rw [p1]; rfl⟩ ⟨by rw [eA]; exact p3, by rw [eA]; exact p5, by rw [p2]; simp, by rw [p2]; simp, by rw [p2, eA]; rfl⟩ fun h2 g2 => ?_
  rw [p1, p2, eB] at *
  exact hK h2 g2
 | succ m =>
  obtain ⟨B1, A1, H1, H2, H3, hp⟩ := hp
  refine turn H1 H2 fun h2 g2 => ?_
  rw [show (!A.nic.tq.isEmpty || !B1.nic.tq.isEmpty) = true by rcases H3 with h | h <;> simp [h]]
  refine ⟨(m, A1, sent B1), ⟨?_, by simp only; omega, g2, hp⟩, by simp only; omega⟩
  simp only
  rw [wi64i (by omega) (by omega)]
  omega
end
end Go.Proofs.YtbbnpmikjdgdpaaGreat

/-
 TopTalks, the plain law: two machines in one net; what one sends is at the other one's port.
-/
set_option linter.unusedSimpArgs false
set_option linter.unusedVariables false
set_option maxRecDepth 20000
namespace Go.Proofs.YtbbnpmikjdgdpaaGreat
open Go Go.Hw
abbrev ipA : Int := 167772161
abbrev ipB : Int := 167772162
abbrev msk : Int := 4294967040
def mcA : M6 := ⟨2, 0, 0, 0, 0, 1⟩
def mcB : M6 := ⟨2, 0, 0, 0, 0, 2⟩
def netA : Net := ⟨ipA, msk, 0⟩
def netB : Net := ⟨ipB, msk, 0⟩
def gA (id : Int) (c : Ca) (tq laid : List (List UInt8)) : StS := ⟨⟨mcA, 64, [], 64, tq⟩, netA, c, ⟨16, 32, [newP 8]⟩, id, 0, [], laid⟩
def gB (c : Ca) (q : List Dg) (tq laid : List (List UInt8)) : StS := ⟨⟨mcB, 64, [], 64, tq⟩, netB, c, ⟨16, 32, [⟨7, q, 0⟩]⟩, 0, 0, [], laid⟩
theorem mcA_ok : mcA.ok := by unfold M6.ok mcA; decide
theorem mcB_ok : mcB.ok := by unfold M6.ok mcB; decide
theorem one_ok : oneEighty.ok := by unfold M6.ok oneEighty; decide
theorem netA_ok : netA.ok := by unfold Net.ok netA; decide
theorem netB_ok : netB.ok := by unfold Net.ok netB; decide
def c0A : Ca := ⟨mcA, 64, [], 0⟩
def c0B : Ca := ⟨mcB, 64, [], 0⟩
theorem host_A : isHost ipA = true := by decide
theorem host_B : isHost ipB = true := by decide
theorem isOnes_m : IsOnes msk.toNat 24 := ⟨by decide, by decide⟩
theorem ones_m : onesOf msk.toNat = 24 := onesOf_is isOnes_m
theorem has_A : hasN netA ipA = true := by decide
theorem has_B : hasN netB ipB = true := by decide
theorem has_AB : hasN netA ipB = true := by decide
theorem low_A : lowN netA = 167772160 := by decide
theorem low_B : lowN netB = 167772160 := by decide
theorem high_A : highN netA = 167772415 := by decide
theorem high_B : highN netB = 167772415 := by decide
theorem hostN_A : hostN netA ipA = true := by
 unfold hostN
 rw [host_A, has_A, low_A, high_A]
 simp [ipA]
theorem hostN_B : hostN netB ipB = true := by
 unfold hostN
 rw [host_B, has_B, low_B, high_B]
 simp [ipB]
theorem set_A : setN ⟨0, 0, 0⟩ ipA msk 0 = (0, netA) := by
 have h := hostN_A
 unfold setN
 rw [host_A, ones_m]
 unfold netA at h
 rw [h]
 simp [netA, ipA, ipB, msk]
theorem set_B : setN ⟨0, 0, 0⟩ ipB msk 0 = (0, netB) := by
 have h := hostN_B
 unfold setN
 rw [host_B, ones_m]
 unfold netB at h
 rw [h]
 simp [netB, ipA, ipB, msk]
theorem addr_A : addrS (S00 mcA) ipA msk 0 = (0, ⟨⟨mcA, 64, [], 64, []⟩, netA, c0A, ⟨16, 32, []⟩, 0, 0, [], []⟩) := by
 unfold addrS
 rw [show (S00 mcA).net = ⟨0, 0, 0⟩ from rfl, set_A]
 simp [S00, c0A]
theorem addr_B : addrS (S00 mcB) ipB msk 0 = (0, ⟨⟨mcB, 64, [], 64, []⟩, netB, c0B, ⟨16, 32, []⟩, 0, 0, [], []⟩) := by
 unfold addrS
 rw [show (S00 mcB).net = ⟨0, 0, 0⟩ from rfl, set_B]
 simp [S00, c0B]
theorem open_A : openT ⟨16, 32, []⟩ 8 = (0, ⟨16, 32, [newP 8]⟩) := by simp [openT, findP, addP]
theorem open_B : openT ⟨16, 32, []⟩ 7 = (0, ⟨16, 32, [⟨7, [], 0⟩]⟩) := by simp [openT, findP, addP, newP]
theorem hop_AB : hopN netA ipB = (2, ipB) := by
 unfold hopN
 rw [host_B]
 have e1 : bcN netA ipB = false := by unfold bcN; rw [high_A]; simp [ipB]
 rw [e1, has_AB]
 simp [netA, ipA, ipB, msk]
theorem takes_B : takesN netB ipB = true := by
 unfold takesN
 simp [netB, ipA, ipB, msk]
def kn (own : M6) (ip : Int) (m : M6) (now : Int) : Ca := ⟨own, 64, [⟨ip, m, now + 600, 0, 0, []⟩], now⟩
theorem tell_kn {own : M6} {ip : Int} {m : M6} {now : Int} (h : now ≤ maxT) : tellC (kn own ip m now) now = kn own ip m now := by
 unfold tellC kn
 rw [show max now (min now maxT) = now by omega]
theorem kn_ok {own : M6} {ip : Int} {m : M6} {now : Int} (ho : own.ok) (hm : m.ok) (hi : 0 ≤ ip ∧ ip < 4294967296) (h : 0 ≤ now ∧ now + 600 ≤ maxT) : (kn own ip m now).ok := by
 refine ⟨ho, by show (1 : Int) ≤ 64 ∧ (64 : Int) ≤ 64; decide, by simp [kn], ?_, by simp [kn], ?_⟩
 ·intro e he
  simp only [kn, List.mem_cons, List.not_mem_nil, or_false] at he
  subst he
  refine ⟨hi, hm, ?_, by show (0 : Int) ≤ 0 ∧ (0 : Int) ≤ 3; decide, by show (0 : Int) ≤ 0 ∧ (0 : Int) < 4294967296; decide, fun _ => ⟨rfl, rfl⟩, fun q => absurd rfl q, by simp⟩
  show 0 ≤ now + 600 ∧ now + 600 ≤ maxT
  omega
 ·show 0 ≤ now ∧ now ≤ maxT
  simp only [maxT] at *; omega
structure Ud where
 src : Int
 data : List UInt8
def Ud.dg (u : Ud) : Dg := ⟨ipA, ipB, u.src, 7, u.data⟩
def Ud.may (u : Ud) : Prop := (0 ≤ u.src ∧ u.src ≤ 65535) ∧ u.data.length ≤ 1472
def frU (id : Int) (u : Ud) : List UInt8 := sealL mcB mcA 2048 (ipL ⟨0, id, 64, 17, true, ipA, ipB⟩ (udpL ipA ipB u.src 7 u.data))
theorem udpE_may {u : Ud} : udpE u.src 7 u.data = 0 ↔ u.may := by
 unfold udpE Ud.may
 split
 ·rename_i h; simp; omega
 ·rename_i h
  split
  ·rename_i h2; omega
  ·split
   ·rename_i h3; simp; omega
   ·rename_i h3; simp; omega
theorem udp_len {u : Ud} : (udpL ipA ipB u.src 7 u.data).length = 8 + u.data.length := by
 show (udpH _ _ _ _).length = _
 exact udpH_len
theorem pk_len {id : Int} {u : Ud} (h : u.may) : (ipL ⟨0, id, 64, 17, true, ipA, ipB⟩ (udpL ipA ipB u.src 7 u.data)).length ≤ 1500 := by
 rw [ipL_len, udp_len]
 have := h.2
 omega
theorem frU_len {id : Int} {u : Ud} (h : u.may) : 0 < (frU id u).length ∧ (frU id u).length ≤ 1514 := by
 unfold frU
 rw [seal_len]
 have := pk_len (id := id) h
 omega
theorem frU_take {id : Int} {u : Ud} (h : u.may) : takeF mcB (frU id u) = some ⟨mcB, mcA, 2048, ipL ⟨0, id, 64, 17, true, ipA, ipB⟩ (udpL ipA ipB u.src 7 u.data) ++ padL (ipL ⟨0, id, 64, 17, true, ipA, ipB⟩ (udpL ipA ipB u.src 7 u.data)).length⟩ := by
 obtain ⟨a1, a2, a3, a4, a5⟩ := seal_back (d := mcB) (s := mcA) (kind := 2048) (data := ipL ⟨0, id, 64, 17, true, ipA, ipB⟩ (udpL ipA ipB u.src 7 u.data)) mcB_ok mcA_ok (by omega) (pk_len h)
 have e : frU id u = sealL mcB mcA 2048 (ipL ⟨0, id, 64, 17, true, ipA, ipB⟩ (udpL ipA ipB u.src 7 u.data)) := rfl
 rw [← e] at a1 a2 a3 a4 a5
 unfold takeF
 rw [if_pos ⟨a1, by rw [a2, a3]; decide⟩]
 unfold frOf
 rw [a2, a3, a5, a4]
theorem frU_step {id now : Int} {u : Ud} {c : Ca} {q : List Dg} {tq laid : List (List UInt8)} {f : FrS} (hu : u.may) (hid : 0 ≤ id ∧ id < 65536) (hq : q.length < 32) (hf : takeF mcB (frU id u) = some f) :
  Step now (gB c q tq laid) f (gB c (q ++ [u.dg]) tq laid) := by
 rw [frU_take hu] at hf
 cases hf
 have hw : (Iph.mk 0 id 64 17 true ipA ipB).well := ⟨⟨by show (0 : Int) ≤ 0; decide, by show (0 : Int) < 256; decide⟩, hid, ⟨by show (1 : Int) ≤ 64; decide, by show (64 : Int) ≤ 255; decide⟩, ⟨by show (0 : Int) ≤ 17; decide, by show (17 : Int) < 256; decide⟩⟩
 have hdl : (udpL ipA ipB u.src 7 u.data).length ≤ 1480 := by rw [udp_len]; have := hu.2; omega
 obtain ⟨b1, b2, b3⟩ := ip_back (p := Iph.mk 0 id 64 17 true ipA ipB) (data := udpL ipA ipB u.src 7 u.data) (pad := padL (ipL ⟨0, id, 64, 17, true, ipA, ipB⟩ (udpL ipA ipB u.src 7 u.data)).length) hw (by show (0 : Int) ≤ 167772161 ∧ (167772161 : Int) < 4294967296; decide) (by show (0 : Int) ≤ 167772162 ∧ (167772162 : Int) < 4294967296; decide) hdl
 obtain ⟨u1, u2, u3, u4⟩ := udp_back (si := ipA) (di := ipB) (sp := u.src) (dp := 7) (data := u.data) hu.1 (by omega) hu.2
 refine .inr ⟨rfl, b1, by rw [b2], ?_, netB_ok, ?_, ?_, ?_, ?_⟩
 ·show udpDE (ipHd _).src (ipHd _).dst (ipD _) = 0
  rw [b2, b3]; exact u1
 ·show (takesN netB (ipHd _).dst && isHost (ipHd _).src) = true
  rw [b2]
  show (takesN netB ipB && isHost ipA) = true
  rw [takes_B, host_A]; rfl
 ·refine ⟨0, ⟨by simp [gB], ?_, by simp [gB], ?_, by simp [gB], by simp [gB]⟩, by omega⟩
  ·intro p hp; simp only [gB, List.mem_cons, List.not_mem_nil, or_false] at hp; subst hp; exact ⟨by show (1 : Int) ≤ 7; decide, by show (7 : Int) ≤ 65535; decide⟩
  ·intro p hp; simp only [gB, List.mem_cons, List.not_mem_nil, or_false] at hp; subst hp; exact ⟨by show q.length ≤ 32; omega, by show (0 : Int) ≤ 0; decide, by show (0 : Int) ≤ 0; decide⟩
 all_goals
  have ed : dgIn (ipL ⟨0, id, 64, 17, true, ipA, ipB⟩ (udpL ipA ipB u.src 7 u.data) ++ padL (ipL ⟨0, id, 64, 17, true, ipA, ipB⟩ (udpL ipA ipB u.src 7 u.data)).length) = u.dg := by
   unfold dgIn Ud.dg
   rw [b2, b3, u2, u3, u4]
  have ep : putT (gB c q tq laid).tb u.dg = (0, ⟨16, 32, [⟨7, q ++ [u.dg], 0⟩]⟩) := by
   show putT ⟨16, 32, [⟨7, q, 0⟩]⟩ u.dg = _
   unfold putT
   rw [show findP u.dg.d [⟨7, q, 0⟩] = some ⟨7, q, 0⟩ from rfl]
   simp only
   rw [if_neg (by omega)]
   rfl
 ·show (putT (gB c q tq laid).tb (dgIn _)).1 ≠ 131
  rw [ed, ep]; show (0 : Int) ≠ 131; decide
 ·simp only []
  rw [ed, ep]; rfl
/-! ### what waits -/
def Wait : List (List UInt8) → List Ud → Prop
 | [], [] => True
 | f :: l, u :: w => (∃ id : Int, (0 ≤ id ∧ id < 65536) ∧ f = frU id u) ∧ u.may ∧ Wait l w
 | _, _ => False
theorem Wait.len : ∀ {l : List (List UInt8)} {w : List Ud}, Wait l w → l.length = w.length
 | [], [], _ => rfl
 | _ :: l, _ :: w, h => by simp [Wait.len (l := l) (w := w) h.2.2]
 | [], _ :: _, h => h.elim
 | _ :: _, [], h => h.elim
theorem Wait.snoc : ∀ {l : List (List UInt8)} {w : List Ud} {id : Int} {u : Ud}, Wait l w → (0 ≤ id ∧ id < 65536) → u.may → Wait (l ++ [frU id u]) (w ++ [u])
 | [], [], id, u, _, hi, hu => ⟨⟨id, hi, rfl⟩, hu, trivial⟩
 | _ :: l, _ :: w, id, u, h, hi, hu => ⟨h.1, h.2.1, Wait.snoc (l := l) (w := w) h.2.2 hi hu⟩
 | [], _ :: _, _, _, h, _, _ => h.elim
 | _ :: _, [], _, _, h, _, _ => h.elim
theorem Wait.all : ∀ {l : List (List UInt8)} {w : List Ud}, Wait l w → ∀ f ∈ l, 0 < f.length ∧ f.length ≤ 1514
 | [], [], _, f, hf => by cases hf
 | _ :: l, u :: w, ⟨⟨id, _, e⟩, hu, h⟩, f, hf => by
  rcases List.mem_cons.1 hf with rfl | hf
  ·rw [e]; exact frU_len hu
  ·exact Wait.all (l := l) (w := w) h f hf
 | [], _ :: _, h, _, _ => h.elim
 | _ :: _, [], h, _, _ => h.elim
theorem Wait.steps {now : Int} {c : Ca} {tq laid : List (List UInt8)} : ∀ {l : List (List UInt8)} {w : List Ud} {q : List Dg}, Wait l w → q.length + w.length ≤ 32 →
  Steps now (l.filterMap (takeF mcB)) (gB c q tq laid) (gB c (q ++ w.map Ud.dg) tq laid)
 | [], [], q, _, _ => by show gB c (q ++ []) tq laid = gB c q tq laid; rw [List.append_nil]
 | f :: l, u :: w, q, ⟨⟨id, hid, e⟩, hu, h⟩, hq => by
  simp only [List.length_cons] at hq
  subst e
  have ht := frU_take (id := id) hu
  rw [List.filterMap_cons_some ht]
  refine ⟨gB c (q ++ [u.dg]) tq laid, frU_step hu hid (by omega) ht, ?_⟩
  have := Wait.steps (now := now) (c := c) (tq := tq) (laid := laid) (l := l) (w := w) (q := q ++ [u.dg]) h (by simp; omega)
  rw [List.append_assoc] at this
  exact this
 | [], _ :: _, _, h, _ => h.elim
 | _ :: _, [], _, h, _ => h.elim
theorem pump_wait {now id : Int} {cA cB : Ca} {l la lb : List (List UInt8)} {w : List Ud} (h : Wait l w) (hw : w.length ≤ 32) : ∃ n, n ≤ 1 ∧ PumpN now n (gA id cA l la) (gB cB [] [] lb) (gA id cA [] la) (gB cB (w.map Ud.dg) [] lb) := by
 have hl := h.len
 cases l with
 | nil =>
  cases w with
  | nil => exact ⟨0, by omega, rfl, rfl, rfl, rfl, rfl, rfl, rfl, rfl⟩
  | cons u w => exact h.elim
 | cons f l =>
  refine ⟨1, Nat.le_refl _, gB cB (w.map Ud.dg) [] lb, gA id cA [] la, ⟨rfl, rfl, by show (f :: l).length ≤ 64; omega, h.all, ?_⟩, ⟨rfl, rfl, by show (0 : Nat) ≤ 64; omega, (fun x hx => by cases hx), rfl⟩, .inl (by intro e; cases e), rfl, rfl, rfl, rfl, rfl, rfl, rfl, rfl⟩
  exact Wait.steps (q := []) h (by simpa using hw)
end Go.Proofs.YtbbnpmikjdgdpaaGreat

/-
 TopTalks, the plain law: what is sent; the first datagram.
-/
set_option linter.unusedSimpArgs false
set_option linter.unusedVariables false
set_option maxRecDepth 20000
namespace Go.Proofs.YtbbnpmikjdgdpaaGreat
open Go Go.Hw
theorem layAll_1 (S : StS) (x : Snd) : layAll S [x] = layOne S x := rfl
theorem send_go {id now : Int} {c : Ca} {tq la : List (List UInt8)} {u : Ud} (hu : u.may) : sendS (gA id c tq la) ipA ipB u.src 7 u.data now =
  (0, layAll { gA id c tq la with id := id % 65535 + 1, ca := (askC (tellC c now) ipA ipB (ipL ⟨0, id % 65535 + 1, 64, 17, true, ipA, ipB⟩ (udpL ipA ipB u.src 7 u.data))).2 } (askC (tellC c now) ipA ipB (ipL ⟨0, id % 65535 + 1, 64, 17, true, ipA, ipB⟩ (udpL ipA ipB u.src 7 u.data))).1) := by
 unfold sendS
 rw [if_neg (by simp [gA, netA, ipA]), if_neg (by rw [udpE_may.2 hu]; simp)]
 unfold packetS
 rw [show (gA id c tq la).net = netA from rfl, hop_AB, if_neg (by simp), if_neg (by rw [udp_len]; have := hu.2; omega), if_neg (by simp)]
 rfl
theorem send_bad {id now : Int} {c : Ca} {tq la : List (List UInt8)} {u : Ud} (hu : ¬ u.may) : (sendS (gA id c tq la) ipA ipB u.src 7 u.data now).1 ≠ 0 ∧ (sendS (gA id c tq la) ipA ipB u.src 7 u.data now).2 = gA id c tq la := by
 have e : udpE u.src 7 u.data ≠ 0 := fun q => hu (udpE_may.1 q)
 unfold sendS
 rw [if_neg (by simp [gA, netA, ipA]), if_pos e]
 exact ⟨e, rfl⟩
theorem seal_ok {kind : Int} {l : List UInt8} (h1 : 1536 ≤ kind ∧ kind ≤ 65535) (h2 : l.length ≤ 1500) : sealE kind l = 0 := by
 unfold sealE
 rw [if_neg (by omega), if_neg (by omega)]
theorem send_known {id now : Int} {tq la : List (List UInt8)} {u : Ud} (hu : u.may) (hn : 0 ≤ now ∧ now + 600 ≤ maxT) (hq : tq.length < 64) : sendS (gA id (kn mcA ipB mcB now) tq la) ipA ipB u.src 7 u.data now =
  (0, gA (id % 65535 + 1) (kn mcA ipB mcB now) (tq ++ [frU (id % 65535 + 1) u]) (la ++ [frU (id % 65535 + 1) u])) := by
 rw [send_go hu, tell_kn (by omega)]
 have hp := pk_len (id := id % 65535 + 1) hu
 have ef : frU (id % 65535 + 1) u = sealL mcB mcA 2048 (ipL ⟨0, id % 65535 + 1, 64, 17, true, ipA, ipB⟩ (udpL ipA ipB u.src 7 u.data)) := rfl
 rw [ef]
 generalize ipL ⟨0, id % 65535 + 1, 64, 17, true, ipA, ipB⟩ (udpL ipA ipB u.src 7 u.data) = pk at hp
 have ea : askC (kn mcA ipB mcB now) ipA ipB pk = ([⟨mcB, 2048, pk⟩], kn mcA ipB mcB now) := by
  unfold askC
  rw [show findK keyE ipB (kn mcA ipB mcB now).l = some ⟨ipB, mcB, now + 600, 0, 0, []⟩ by simp [kn, findK]]
  simp only
  rw [if_neg (by simp), if_pos (by show now < now + 600; omega)]
 rw [ea]
 simp only [layAll_1]
 unfold layOne
 rw [if_pos ⟨seal_ok (by simp) hp, hq⟩]
 rfl
def u1 : Ud := ⟨8, [120]⟩
theorem u1_may : u1.may := by unfold Ud.may u1; decide
def pk1 : List UInt8 := ipL ⟨0, 1, 64, 17, true, ipA, ipB⟩ (udpL ipA ipB 8 7 [120])
theorem pk1_len : pk1.length ≤ 1500 := pk_len (u := u1) u1_may
def qf : List UInt8 := sealL oneEighty mcA 2054 (arpL 1 mcA ipA mac0 ipB)
def af : List UInt8 := sealL mcA mcB 2054 (arpL 2 mcB ipB mcA ipA)
def cQ (now : Int) : Ca := ⟨mcA, 64, [⟨ipB, mac0, now + 10, 1, ipA, pk1⟩], now⟩
theorem tell_0 {own : M6} {now : Int} (hn : 0 ≤ now ∧ now + 600 ≤ maxT) : tellC ⟨own, 64, [], 0⟩ now = ⟨own, 64, [], now⟩ := by
 unfold tellC
 rw [show max (0 : Int) (min now maxT) = now by omega]
theorem first_send {now : Int} (hn : 0 ≤ now ∧ now + 600 ≤ maxT) : sendS (gA 0 c0A [] []) ipA ipB 8 7 [120] now = (0, gA 1 (cQ now) [qf] [qf]) := by
 have h := send_go (id := 0) (now := now) (c := c0A) (tq := []) (la := []) u1_may
 rw [show u1.src = 8 from rfl, show u1.data = [120] from rfl] at h
 rw [h, show (0 : Int) % 65535 + 1 = 1 from rfl]
 rw [show ipL ⟨0, 1, 64, 17, true, ipA, ipB⟩ (udpL ipA ipB 8 7 [120]) = pk1 from rfl, show c0A = ⟨mcA, 64, [], 0⟩ from rfl, tell_0 hn]
 generalize hpk : pk1 = pk
 have ea : askC ⟨mcA, 64, [], now⟩ ipA ipB pk = ([⟨oneEighty, 2054, arpL 1 mcA ipA mac0 ipB⟩], ⟨mcA, 64, [⟨ipB, mac0, now + 10, 1, ipA, pk⟩], now⟩) := by
  unfold askC
  rw [show findK keyE ipB (Ca.mk mcA 64 [] now).l = none by simp [findK]]
  simp only
  unfold newC
  rw [show roomL (Ca.mk mcA 64 [] now).most (delK keyE ipB (Ca.mk mcA 64 [] now).l) = some [] by simp [roomL, delK]]
  simp only [putL', questC, behindC]
  rw [show min (now + 10) maxT = now + 10 by omega]
 rw [ea]
 simp only [layAll_1]
 unfold layOne
 rw [if_pos ⟨seal_ok (by simp) (by simp [arpL_len]), by show (0 : Nat) < 64; omega⟩]
 unfold cQ
 rw [hpk]
 rfl
theorem q_take : takeF mcB qf = some ⟨oneEighty, mcA, 2054, arpL 1 mcA ipA mac0 ipB ++ padL 28⟩ := by
 obtain ⟨a1, a2, a3, a4, a5⟩ := seal_back (d := oneEighty) (s := mcA) (kind := 2054) (data := arpL 1 mcA ipA mac0 ipB) one_ok mcA_ok (by omega) (by rw [arpL_len]; omega)
 have e : qf = sealL oneEighty mcA 2054 (arpL 1 mcA ipA mac0 ipB) := rfl
 rw [← e] at a1 a2 a3 a4 a5
 unfold takeF
 rw [if_pos ⟨a1, by rw [a2, a3]; decide⟩]
 unfold frOf
 rw [a2, a3, a5, a4, arpL_len]
theorem a_take : takeF mcA af = some ⟨mcA, mcB, 2054, arpL 2 mcB ipB mcA ipA ++ padL 28⟩ := by
 obtain ⟨a1, a2, a3, a4, a5⟩ := seal_back (d := mcA) (s := mcB) (kind := 2054) (data := arpL 2 mcB ipB mcA ipA) mcA_ok mcB_ok (by omega) (by rw [arpL_len]; omega)
 have e : af = sealL mcA mcB 2054 (arpL 2 mcB ipB mcA ipA) := rfl
 rw [← e] at a1 a2 a3 a4 a5
 unfold takeF
 rw [if_pos ⟨a1, by rw [a2, a3]; decide⟩]
 unfold frOf
 rw [a2, a3, a5, a4, arpL_len]
theorem ca0_ok {own : M6} {now : Int} (ho : own.ok) (hn : 0 ≤ now ∧ now ≤ maxT) : (Ca.mk own 64 [] now).ok :=
 ⟨ho, by show (1 : Int) ≤ 64 ∧ (64 : Int) ≤ 64; decide, by simp, by simp, by simp, hn⟩
theorem gB_ok {c : Ca} {q : List Dg} {tq la : List (List UInt8)} (hc : c.ok) (ho : c.own = mcB) : (gB c q tq la).ok :=
 ⟨mcB_ok, netB_ok, hc, ho, by show (0 : Int) ≤ 0 ∧ (0 : Int) ≤ 65535; decide, by show (0 : Int) ≤ 0 ∧ (0 : Int) < 4294967296; decide⟩
theorem gA_ok {c : Ca} {id : Int} {tq la : List (List UInt8)} (hc : c.ok) (ho : c.own = mcA) (hi : 0 ≤ id ∧ id ≤ 65535) : (gA id c tq la).ok :=
 ⟨mcA_ok, netA_ok, hc, ho, hi, by show (0 : Int) ≤ 0 ∧ (0 : Int) < 4294967296; decide⟩
theorem cQ_ok {now : Int} (hn : 0 ≤ now ∧ now + 600 ≤ maxT) : (cQ now).ok := by
 refine ⟨mcA_ok, by show (1 : Int) ≤ 64 ∧ (64 : Int) ≤ 64; decide, by simp [cQ], ?_, by simp [cQ], by show 0 ≤ now ∧ now ≤ maxT; omega⟩
 intro e he
 simp only [cQ, List.mem_cons, List.not_mem_nil, or_false] at he
 subst he
 refine ⟨by show (0 : Int) ≤ 167772162 ∧ (167772162 : Int) < 4294967296; decide, mac0_ok, ?_, by show (0 : Int) ≤ 1 ∧ (1 : Int) ≤ 3; decide, by show (0 : Int) ≤ 167772161 ∧ (167772161 : Int) < 4294967296; decide, fun q => absurd (show (1 : Int) = 0 from q) (by decide), fun _ => rfl, ?_⟩
 ·show 0 ≤ now + 10 ∧ now + 10 ≤ maxT; omega
 ·show pk1.length ≤ 1099511627776
  have := pk1_len; omega
theorem q_step {now : Int} (hn : 0 ≤ now ∧ now + 600 ≤ maxT) {f : FrS} (hf : takeF mcB qf = some f) : Step now (gB c0B [] [] []) f (gB (kn mcB ipA mcA now) [] [af] [af]) := by
 rw [q_take] at hf
 cases hf
 obtain ⟨b1, b2, b3, b4, b5, b6⟩ := arp_back (op := 1) (s := mcA) (si := ipA) (d := mac0) (di := ipB) (pad := padL 28) (.inl rfl) mcA_ok mac0_ok (by decide) (by decide)
 refine .inl ⟨rfl, b1, gB_ok (ca0_ok mcB_ok (by simp only [maxT]; omega)) rfl, by show (0 : Nat) ≤ _; omega, .inr ?_, .inl rfl, ?_⟩
 ·show clashB mcB ipB (opOf _) (macOf _ 8) (getV _ 14 4 : Nat) (getV _ 24 4 : Nat) = false
  rw [b2, b3, b4, b6]; decide
 ·show _ = onS (gB c0B [] [] []) (opOf _) (macOf _ 8) (getV _ 14 4 : Nat) (getV _ 24 4 : Nat) now
  rw [b2, b3, b4, b6]
  unfold onS
  have e : onC (tellC (gB c0B [] [] []).ca now) 1 mcA ipA ipB (gB c0B [] [] []).net.ip = ([⟨mcA, 2054, arpL 2 mcB ipB mcA ipA⟩], kn mcB ipA mcA now) := by
   show onC (tellC ⟨mcB, 64, [], 0⟩ now) 1 mcA ipA ipB ipB = _
   rw [tell_0 hn]
   unfold onC
   rw [if_neg (by decide), show asksC 1 ipB ipB = true by decide, host_A, show decide (ipA ≠ ipB) = true by decide]
   simp only [Bool.and_self, if_true]
   have el : learnC (Ca.mk mcB 64 [] now) ipA mcA true = ([], kn mcB ipA mcA now) := by
    unfold learnC
    rw [show findK keyE ipA (Ca.mk mcB 64 [] now).l = none by simp [findK]]
    simp only [if_true]
    rw [show roomL (Ca.mk mcB 64 [] now).most (Ca.mk mcB 64 [] now).l = some [] by simp [roomL]]
    simp only [putL', behindC]
    rw [show min (now + 600) maxT = now + 600 by omega]
    rfl
   rw [el]
   rfl
  rw [e]
  simp only [layAll_1]
  unfold layOne
  rw [if_pos ⟨seal_ok (by simp) (by simp [arpL_len]), by show (0 : Nat) < 64; omega⟩]
  rfl
theorem a_step {now : Int} (hn : 0 ≤ now ∧ now + 600 ≤ maxT) {f : FrS} (hf : takeF mcA af = some f) : Step now (gA 1 (cQ now) [] [qf]) f (gA 1 (kn mcA ipB mcB now) [frU 1 u1] [qf, frU 1 u1]) := by
 rw [a_take] at hf
 cases hf
 obtain ⟨b1, b2, b3, b4, b5, b6⟩ := arp_back (op := 2) (s := mcB) (si := ipB) (d := mcA) (di := ipA) (pad := padL 28) (.inr rfl) mcB_ok mcA_ok (by decide) (by decide)
 refine .inl ⟨rfl, b1, gA_ok (cQ_ok hn) rfl (by decide), by show (1 : Nat) ≤ _; omega, .inr ?_, .inl rfl, ?_⟩
 ·show clashB mcA ipA (opOf _) (macOf _ 8) (getV _ 14 4 : Nat) (getV _ 24 4 : Nat) = false
  rw [b2, b3, b4, b6]; decide
 ·show _ = onS (gA 1 (cQ now) [] [qf]) (opOf _) (macOf _ 8) (getV _ 14 4 : Nat) (getV _ 24 4 : Nat) now
  rw [b2, b3, b4, b6]
  unfold onS
  have e : onC (tellC (gA 1 (cQ now) [] [qf]).ca now) 2 mcB ipB ipA (gA 1 (cQ now) [] [qf]).net.ip = ([⟨mcB, 2048, pk1⟩], kn mcA ipB mcB now) := by
   show onC (tellC (cQ now) now) 2 mcB ipB ipA ipA = _
   have et : tellC (cQ now) now = cQ now := by unfold tellC cQ; rw [show max now (min now maxT) = now by omega]
   rw [et]
   unfold onC
   rw [if_neg (by decide), show asksC 2 ipA ipA = false by decide, host_B, show decide (ipB ≠ ipA) = true by decide]
   simp only [Bool.and_self, if_true]
   have el : learnC (cQ now) ipB mcB false = ([⟨mcB, 2048, pk1⟩], kn mcA ipB mcB now) := by
    unfold learnC
    rw [show findK keyE ipB (cQ now).l = some ⟨ipB, mac0, now + 10, 1, ipA, pk1⟩ by simp [cQ, findK]]
    simp only [behindC]
    rw [if_pos (by simp), show min ((cQ now).now + 600) maxT = now + 600 by show min (now + 600) maxT = now + 600; omega]
    simp [cQ, updK, kn]
   rw [el]
   rfl
  rw [e]
  simp only [layAll_1]
  unfold layOne
  have := pk1_len
  rw [if_pos ⟨seal_ok (by simp) pk1_len, by show (0 : Nat) < 64; omega⟩]
  rfl
theorem first_pump {now : Int} (hn : 0 ≤ now ∧ now + 600 ≤ maxT) : ∃ n, n ≤ 2 ∧ PumpN now n (gA 1 (cQ now) [qf] [qf]) (gB c0B [] [] []) (gA 1 (kn mcA ipB mcB now) [] [qf, frU 1 u1]) (gB (kn mcB ipA mcA now) [u1.dg] [] [af]) := by
 have hw : Wait [frU 1 u1] [u1] := ⟨⟨1, by omega, rfl⟩, u1_may, trivial⟩
 obtain ⟨n, h1, h2⟩ := pump_wait (now := now) (id := 1) (cA := kn mcA ipB mcB now) (cB := kn mcB ipA mcA now) (la := [qf, frU 1 u1]) (lb := [af]) hw (by simp)
 have ql : qf.length = 60 := by unfold qf; rw [seal_len, arpL_len]; rfl
 have al : af.length = 60 := by unfold af; rw [seal_len, arpL_len]; rfl
 refine ⟨n + 1, by omega, gB (kn mcB ipA mcA now) [] [af] [af], gA 1 (kn mcA ipB mcB now) [frU 1 u1] [qf, frU 1 u1], ⟨rfl, rfl, by show (1 : Nat) ≤ 64; omega, ?_, ?_⟩, ⟨rfl, rfl, by show (1 : Nat) ≤ 64; omega, ?_, ?_⟩, .inl (by intro e; cases e), h2⟩
 ·intro l hl
  have hl : l ∈ [qf] := hl
  simp at hl; subst hl; omega
 ·show Steps now ([qf].filterMap (takeF mcB)) _ _
  rw [List.filterMap_cons_some q_take]
  exact ⟨_, q_step hn q_take, rfl⟩
 ·intro l hl
  have hl : l ∈ [af] := hl
  simp at hl; subst hl; omega
 ·show Steps now ([af].filterMap (takeF mcA)) _ _
  rw [List.filterMap_cons_some a_take]
  exact ⟨_, a_step hn a_take, rfl⟩
end Go.Proofs.YtbbnpmikjdgdpaaGreat

set_option linter.unusedVariables false
set_option maxRecDepth 100000
namespace Go.Proofs.YtbbnpmikjdgdpaaGreat
open Go Go.Hw
noncomputable def B3 : Code := match Tryz.f3.body with | some c => c | none => .skip
def N3_l5_b (x1 : Int) (x5 x6 : Option Addr) (x65 : Sl) (x66 x67 : Int) (x119 : Sl) (x120 : Int) (Φ : Int → Hp → Prop) (x121 : Int) (h : Hp) (K2 : Hp → Prop) (Kr : Bool → Hp → Prop) : Prop :=
 bif (decide (x121 < x120)) then
 idx x121 x119.n <|
 nn x119.p fun a0 =>
 xI .i64 (cell h (a0.add (x121.toNat * 3))) fun n0 =>
 xI .i64 (cell h ((a0.add (x121.toNat * 3)).add 1)) fun n1 =>
 xL (cell h ((a0.add (x121.toNat * 3)).add 2)) fun s0 =>
 nw h (.cells ⟨[.int .i64 0, .int .i64 0, .slice none 0 0]⟩ 34) fun b0 h0 =>
 st h0 (bk b0) (.int .i64 n0) fun h1 =>
 st h1 ((bk b0).add 1) (.int .i64 n1) fun h2 =>
 st h2 ((bk b0).add 2) (.slice s0.p s0.n s0.c) fun h3 =>
 nn x6 fun a1 =>
 xP (cell h3 (a1.add 1)) fun p0 =>
 C8 p0 7 h3 fun n2 n3 n4 n5 s1 b1 h4 =>
 nw h4 (.cells ⟨[.int .u32 0, .int .u32 0, .int .i64 0, .int .i64 0, .slice none 0 0]⟩ 36) fun b2 h5 =>
 st h5 (bk b2) (.int .u32 n2) fun h6 =>
 st h6 ((bk b2).add 1) (.int .u32 n3) fun h7 =>
 st h7 ((bk b2).add 2) (.int .i64 n4) fun h8 =>
 st h8 ((bk b2).add 3) (.int .i64 n5) fun h9 =>
 st h9 ((bk b2).add 4) (.slice s1.p s1.n s1.c) fun h10 =>
 bif (!b1) then
 Kr false h10
 else
 xI .u32 (cell h10 (bk b2)) fun n6 =>
 bif (n6 != 167772161) then
 Kr false h10
 else
 xI .u32 (cell h10 ((bk b2).add 1)) fun n7 =>
 bif (n7 != 167772162) then
 Kr false h10
 else
 xI .i64 (cell h10 ((bk b2).add 2)) fun n8 =>
 xI .i64 (cell h10 (bk b0)) fun n9 =>
 bif (n8 != n9) then
 Kr false h10
 else
 xI .i64 (cell h10 ((bk b2).add 3)) fun n10 =>
 bif (n10 != 7) then
 Kr false h10
 else
 xL (cell h10 ((bk b2).add 4)) fun s2 =>
 b2s h10 s2.p s2.n fun s3 =>
 xL (cell h10 ((bk b0).add 2)) fun s4 =>
 b2s h10 s4.p s4.n fun s5 =>
 bif (!(s3.toList == s5.toList)) then
 Kr false h10
 else
 Φ (IntKind.wrap .i64 (x121 + 1)) h10
 else
 K2 h
def N3_l5_B (x1 : Int) (x5 x6 : Option Addr) (x65 : Sl) (x66 x67 : Int) (x119 : Sl) (x120 : Int) (K2 : Hp → Prop) (Kr : Bool → Hp → Prop) (s : Sg.T [(121, .c (.int .i64))]) (h : Hp) (Φ : Sg.T [(121, .c (.int .i64))] → Hp → Prop) : Prop :=
 N3_l5_b x1 x5 x6 x65 x66 x67 x119 x120 (fun x121 h => Φ x121 h) s h K2 Kr
def N3_l5 (x1 : Int) (x5 x6 : Option Addr) (x65 : Sl) (x66 x67 : Int) (x119 : Sl) (x120 x121 : Int) (h : Hp) (K2 : Hp → Prop) (Kr : Bool → Hp → Prop) : Prop :=
 loopP (N3_l5_B x1 x5 x6 x65 x66 x67 x119 x120 K2 Kr) x121 h
noncomputable def N3_l5_t : Xf := loopT [(1, .c (.int .i64)), (5, .c (.ptr)), (6, .c (.ptr)), (65, .c (.slice)), (66, .c (.int .i64)), (67, .c (.int .i64)), (119, .c (.slice)), (120, .c (.int .i64))] [(121, .c (.int .i64))] (codeAt B3 [1, 1, 1, 1, 1, 1, 1, 1, 0, 1, 0, 0, 1, 1, 0, 0, 1, 1, 1, 1, 1, 1, 1, 0, 1, 0, 0]) fun F Q => N3_l5_B F.1 F.2.1 F.2.2.1 F.2.2.2.1 F.2.2.2.2.1 F.2.2.2.2.2.1 F.2.2.2.2.2.2.1 F.2.2.2.2.2.2.2 (fun h' => Q (.exit 2) (Sg.env [] ()) h') (fun o0 h' => Q .ret (Sg.env [(4, .c (.bool))] o0) h')
theorem N3_l5_ok : Sound Tryz.prog Tryz.f3.ntmps N3_l5_t (codeAt B3 [1, 1, 1, 1, 1, 1, 1, 1, 0, 1, 0, 0, 1, 1, 0, 0, 1, 1, 1, 1, 1, 1, 1, 0, 1, 0]) := by
 refine loop_sound (fun e => match e with | .exit 2 => [] | .ret => [4] | _ => []) (by kernel_rfl) ?_
 intro F Q s h Φ hb
 refine den_sound hE hm _ .leaf _ _ _ (annOk_leaf) ?_
 refine cast ?_ hb
 kernel_rfl
def N3_j4 (x1 : Int) (x5 x6 : Option Addr) (x7 x65 : Sl) (x66 x67 : Int) (h : Hp) (Kn : Sl → Hp → Prop) (Kr : Bool → Hp → Prop) : Prop :=
 C7 x5 x6 x1 h fun b0 h0 =>
 bif (!b0) then
 Kr false h0
 else
 N3_l5 x1 x5 x6 x65 x66 x67 x7 ((x7.n : Nat) : Int) 0 h0
 (fun h1 =>
 nn x6 fun a0 =>
 xP (cell h1 (a0.add 1)) fun p0 =>
 C8 p0 7 h1 fun n0 n1 n2 n3 s0 b1 h2 =>
 nw h2 (.cells ⟨[.int .u32 0, .int .u32 0, .int .i64 0, .int .i64 0, .slice none 0 0]⟩ 36) fun b2 h3 =>
 st h3 (bk b2) (.int .u32 n0) fun h4 =>
 st h4 ((bk b2).add 1) (.int .u32 n1) fun h5 =>
 st h5 ((bk b2).add 2) (.int .i64 n2) fun h6 =>
 st h6 ((bk b2).add 3) (.int .i64 n3) fun h7 =>
 st h7 ((bk b2).add 4) (.slice s0.p s0.n s0.c) fun h8 =>
 nn x5 fun a1 =>
 xP (cell h8 (a1.add 1)) fun p1 =>
 C8 p1 8 h8 fun n4 n5 n6 n7 s1 b3 h9 =>
 nw h9 (.cells ⟨[.int .u32 0, .int .u32 0, .int .i64 0, .int .i64 0, .slice none 0 0]⟩ 36) fun b4 h10 =>
 st h10 (bk b4) (.int .u32 n4) fun h11 =>
 st h11 ((bk b4).add 1) (.int .u32 n5) fun h12 =>
 st h12 ((bk b4).add 2) (.int .i64 n6) fun h13 =>
 st h13 ((bk b4).add 3) (.int .i64 n7) fun h14 =>
 st h14 ((bk b4).add 4) (.slice s1.p s1.n s1.c) fun h15 =>
 bif b1 then
 Kr false h15
 else
 bif b3 then
 Kr false h15
 else
 Kn ⟨none, 0, 0⟩ h15)
 (fun b5 h16 =>
 Kr b5 h16)
noncomputable def N3_j4_t : Xf := pieceT [(1, .c (.int .i64)), (5, .c (.ptr)), (6, .c (.ptr)), (7, .c (.slice)), (65, .c (.slice)), (66, .c (.int .i64)), (67, .c (.int .i64))] (codeAt B3 [1, 1, 1, 1, 1, 1, 1, 1, 0, 1, 0, 0, 1, 1, 0, 0, 1, 1, 1, 1, 1, 1]) fun x h Q => N3_j4 x.1 x.2.1 x.2.2.1 x.2.2.2.1 x.2.2.2.2.1 x.2.2.2.2.2.1 x.2.2.2.2.2.2 h (fun o0 h' => Q .normal (Sg.env [(7, .c (.slice))] o0) h') (fun o0 h' => Q .ret (Sg.env [(4, .c (.bool))] o0) h')
theorem N3_j4_ok : Sound Tryz.prog Tryz.f3.ntmps N3_j4_t (codeAt B3 [1, 1, 1, 1, 1, 1, 1, 1, 0, 1, 0, 0, 1, 1, 0, 0, 1, 1, 1, 1, 1, 1]) := by
 refine piece_sound (fun e => match e with | .normal => [7] | .ret => [4] | _ => []) ?_
 intro x h Q hb
 refine den_sound hE hm _ (.two .leaf (.two (.two .leaf (.one (.xf N3_l5_t))) .leaf)) _ _ _ (⟨annOk_leaf, ⟨⟨annOk_leaf, N3_l5_ok⟩, annOk_leaf⟩⟩) ?_
 refine cast ?_ hb
 kernel_rfl
def N3_j3 (x1 : Int) (x5 x6 : Option Addr) (x7 : Sl) (x9 : Option Addr) (x65 : Sl) (x66 x67 : Int) (h : Hp) (K1 Kn : Sl → Hp → Prop) (Kr : Bool → Hp → Prop) : Prop :=
 nn x9 fun a0 =>
 xI .i64 (cell h (a0.add 1)) fun n0 =>
 bif ((Int.tmod n0 2) == 0) then
 bif (decide (((x7.n : Nat) : Int) < 8)) then
 K1 x7 h
 else
 N3_j4 x1 x5 x6 x7 x65 x66 x67 h
 (fun s0 h0 =>
 Kn s0 h0)
 (fun b0 h1 =>
 Kr b0 h1)
 else
 N3_j4 x1 x5 x6 x7 x65 x66 x67 h
 (fun s1 h2 =>
 Kn s1 h2)
 (fun b1 h3 =>
 Kr b1 h3)
noncomputable def N3_j3_t : Xf := pieceT [(1, .c (.int .i64)), (5, .c (.ptr)), (6, .c (.ptr)), (7, .c (.slice)), (9, .c (.ptr)), (65, .c (.slice)), (66, .c (.int .i64)), (67, .c (.int .i64))] (codeAt B3 [1, 1, 1, 1, 1, 1, 1, 1, 0, 1, 0, 0, 1, 1, 0, 0, 1, 1, 1, 1, 1]) fun x h Q => N3_j3 x.1 x.2.1 x.2.2.1 x.2.2.2.1 x.2.2.2.2.1 x.2.2.2.2.2.1 x.2.2.2.2.2.2.1 x.2.2.2.2.2.2.2 h (fun o0 h' => Q (.exit 1) (Sg.env [(7, .c (.slice))] o0) h') (fun o0 h' => Q .normal (Sg.env [(7, .c (.slice))] o0) h') (fun o0 h' => Q .ret (Sg.env [(4, .c (.bool))] o0) h')
theorem N3_j3_ok : Sound Tryz.prog Tryz.f3.ntmps N3_j3_t (codeAt B3 [1, 1, 1, 1, 1, 1, 1, 1, 0, 1, 0, 0, 1, 1, 0, 0, 1, 1, 1, 1, 1]) := by
 refine piece_sound (fun e => match e with | .exit 1 => [7] | .normal => [7] | .ret => [4] | _ => []) ?_
 intro x h Q hb
 refine den_sound hE hm _ (.two .leaf (.xf N3_j4_t)) _ _ _ (⟨annOk_leaf, N3_j4_ok⟩) ?_
 refine cast ?_ hb
 kernel_rfl
def N3_j2 (x1 : Int) (x5 x6 : Option Addr) (x7 : Sl) (x9 x10 : Option Addr) (x11 : Bool) (x65 : Sl) (x66 x67 : Int) (h : Hp) (K1 Kn : Sl → Hp → Prop) (Kr : Bool → Hp → Prop) : Prop :=
 nn x5 fun a0 =>
 xP (cell h (a0.add 1)) fun p0 =>
 nn x10 fun a1 =>
 xI .u32 (cell h a1) fun n0 =>
 xI .u32 (cell h (a1.add 1)) fun n1 =>
 xI .i64 (cell h (a1.add 2)) fun n2 =>
 xI .i64 (cell h (a1.add 3)) fun n3 =>
 xL (cell h (a1.add 4)) fun s0 =>
 C6 p0 n0 n1 n2 n3 s0 x1 h fun n4 h0 =>
 bif (!((n4 == 0) == x11)) then
 Kr false h0
 else
 bif x11 then
 nn x9 fun a2 =>
 xI .i64 (cell h0 a2) fun n5 =>
 xI .i64 (cell h0 (a2.add 1)) fun n6 =>
 xL (cell h0 (a2.add 2)) fun s1 =>
 nw h0 (.cells ⟨[.int .i64 n5, .int .i64 n6, .slice s1.p s1.n s1.c]⟩ 34) fun b0 h1 =>
 apK Tryz.prog 34 x7 (.slice (some (bk b0)) 1 1) h1 fun s2 h2 =>
 N3_j3 x1 x5 x6 s2 x9 x65 x66 x67 h2
 (fun s3 h3 =>
 K1 s3 h3)
 (fun s4 h4 =>
 Kn s4 h4)
 (fun b1 h5 =>
 Kr b1 h5)
 else
 N3_j3 x1 x5 x6 x7 x9 x65 x66 x67 h0
 (fun s5 h6 =>
 K1 s5 h6)
 (fun s6 h7 =>
 Kn s6 h7)
 (fun b2 h8 =>
 Kr b2 h8)
noncomputable def N3_j2_t : Xf := pieceT [(1, .c (.int .i64)), (5, .c (.ptr)), (6, .c (.ptr)), (7, .c (.slice)), (9, .c (.ptr)), (10, .c (.ptr)), (11, .c (.bool)), (65, .c (.slice)), (66, .c (.int .i64)), (67, .c (.int .i64))] (codeAt B3 [1, 1, 1, 1, 1, 1, 1, 1, 0, 1, 0, 0, 1, 1, 0, 0, 1, 1, 1]) fun x h Q => N3_j2 x.1 x.2.1 x.2.2.1 x.2.2.2.1 x.2.2.2.2.1 x.2.2.2.2.2.1 x.2.2.2.2.2.2.1 x.2.2.2.2.2.2.2.1 x.2.2.2.2.2.2.2.2.1 x.2.2.2.2.2.2.2.2.2 h (fun o0 h' => Q (.exit 1) (Sg.env [(7, .c (.slice))] o0) h') (fun o0 h' => Q .normal (Sg.env [(7, .c (.slice))] o0) h') (fun o0 h' => Q .ret (Sg.env [(4, .c (.bool))] o0) h')
theorem N3_j2_ok : Sound Tryz.prog Tryz.f3.ntmps N3_j2_t (codeAt B3 [1, 1, 1, 1, 1, 1, 1, 1, 0, 1, 0, 0, 1, 1, 0, 0, 1, 1, 1]) := by
 refine piece_sound (fun e => match e with | .exit 1 => [7] | .normal => [7] | .ret => [4] | _ => []) ?_
 intro x h Q hb
 refine den_sound hE hm _ (.two (.two (.ord [0, 1, 2, 3, 4, 5, 8, 6, 7, 9]) .leaf) (.two .leaf (.xf N3_j3_t))) _ _ _ (⟨⟨trivial, annOk_leaf⟩, ⟨annOk_leaf, N3_j3_ok⟩⟩) ?_
 refine cast ?_ hb
 kernel_rfl
def N3_l1_b (x1 : Int) (x5 x6 : Option Addr) (x65 : Sl) (x66 : Int) (Φ : Sl → Int → Hp → Prop) (x7 : Sl) (x67 : Int) (h : Hp) (K0 : Hp → Prop) (Kr : Bool → Hp → Prop) : Prop :=
 bif (decide (x67 < x66)) then
 idx x67 x65.n <|
 nn x65.p fun a0 =>
 xI .i64 (cell h (a0.add (x67.toNat * 3))) fun n0 =>
 xI .i64 (cell h ((a0.add (x67.toNat * 3)).add 1)) fun n1 =>
 xL (cell h ((a0.add (x67.toNat * 3)).add 2)) fun s0 =>
 nw h (.cells ⟨[.int .i64 0, .int .i64 0, .slice none 0 0]⟩ 34) fun b0 h0 =>
 st h0 (bk b0) (.int .i64 n0) fun h1 =>
 st h1 ((bk b0).add 1) (.int .i64 n1) fun h2 =>
 st h2 ((bk b0).add 2) (.slice s0.p s0.n s0.c) fun h3 =>
 xI .i64 (cell h3 (bk b0)) fun n2 =>
 xL (cell h3 ((bk b0).add 2)) fun s1 =>
 nw h3 (.cells ⟨[.int .u32 0, .int .u32 0, .int .i64 0, .int .i64 0, .slice none 0 0]⟩ 36) fun b1 h4 =>
 st h4 (bk b1) (.int .u32 167772161) fun h5 =>
 st h5 ((bk b1).add 1) (.int .u32 167772162) fun h6 =>
 st h6 ((bk b1).add 2) (.int .i64 n2) fun h7 =>
 st h7 ((bk b1).add 3) (.int .i64 7) fun h8 =>
 st h8 ((bk b1).add 4) (.slice s1.p s1.n s1.c) fun h9 =>
 xI .i64 (cell h9 (bk b0)) fun n3 =>
 bif (decide (n3 ≥ 0)) then
 xI .i64 (cell h9 (bk b0)) fun n4 =>
 bif (decide (n4 ≤ 65535)) then
 xL (cell h9 ((bk b0).add 2)) fun s2 =>
 N3_j2 x1 x5 x6 x7 (some (bk b0)) (some (bk b1)) (decide (((s2.n : Nat) : Int) ≤ 1472)) x65 x66 x67 h9
 (fun s3 h10 =>
 Φ s3 (IntKind.wrap .i64 (x67 + 1)) h10)
 (fun s4 h11 =>
 Φ s4 (IntKind.wrap .i64 (x67 + 1)) h11)
 (fun b2 h12 =>
 Kr b2 h12)
 else
 N3_j2 x1 x5 x6 x7 (some (bk b0)) (some (bk b1)) false x65 x66 x67 h9
 (fun s5 h13 =>
 Φ s5 (IntKind.wrap .i64 (x67 + 1)) h13)
 (fun s6 h14 =>
 Φ s6 (IntKind.wrap .i64 (x67 + 1)) h14)
 (fun b3 h15 =>
 Kr b3 h15)
 else
 N3_j2 x1 x5 x6 x7 (some (bk b0)) (some (bk b1)) false x65 x66 x67 h9
 (fun s7 h16 =>
 Φ s7 (IntKind.wrap .i64 (x67 + 1)) h16)
 (fun s8 h17 =>
 Φ s8 (IntKind.wrap .i64 (x67 + 1)) h17)
 (fun b4 h18 =>
 Kr b4 h18)
 else
 K0 h
def N3_l1_B (x1 : Int) (x5 x6 : Option Addr) (x65 : Sl) (x66 : Int) (K0 : Hp → Prop) (Kr : Bool → Hp → Prop) (s : Sg.T [(7, .c (.slice)), (67, .c (.int .i64))]) (h : Hp) (Φ : Sg.T [(7, .c (.slice)), (67, .c (.int .i64))] → Hp → Prop) : Prop :=
 N3_l1_b x1 x5 x6 x65 x66 (fun x7 x67 h => Φ (x7, x67) h) s.1 s.2 h K0 Kr
def N3_l1 (x1 : Int) (x5 x6 : Option Addr) (x65 : Sl) (x66 : Int) (x7 : Sl) (x67 : Int) (h : Hp) (K0 : Hp → Prop) (Kr : Bool → Hp → Prop) : Prop :=
 loopP (N3_l1_B x1 x5 x6 x65 x66 K0 Kr) (x7, x67) h
noncomputable def N3_l1_t : Xf := loopT [(1, .c (.int .i64)), (5, .c (.ptr)), (6, .c (.ptr)), (65, .c (.slice)), (66, .c (.int .i64))] [(7, .c (.slice)), (67, .c (.int .i64))] (codeAt B3 [1, 1, 1, 1, 1, 1, 1, 1, 0, 1, 0, 0]) fun F Q => N3_l1_B F.1 F.2.1 F.2.2.1 F.2.2.2.1 F.2.2.2.2 (fun h' => Q (.exit 0) (Sg.env [] ()) h') (fun o0 h' => Q .ret (Sg.env [(4, .c (.bool))] o0) h')
theorem N3_l1_ok : Sound Tryz.prog Tryz.f3.ntmps N3_l1_t (codeAt B3 [1, 1, 1, 1, 1, 1, 1, 1, 0, 1, 0]) := by
 refine loop_sound (fun e => match e with | .exit 0 => [] | .ret => [4] | _ => []) (by kernel_rfl) ?_
 intro F Q s h Φ hb
 refine den_sound hE hm _ (.two .leaf (.two .leaf (.two (.one (.two .leaf (.two .leaf (.two .leaf (.xf N3_j2_t))))) .leaf))) _ _ _ (⟨annOk_leaf, ⟨annOk_leaf, ⟨⟨annOk_leaf, ⟨annOk_leaf, ⟨annOk_leaf, N3_j2_ok⟩⟩⟩, annOk_leaf⟩⟩⟩) ?_
 refine cast ?_ hb
 kernel_rfl
def N3_j0 (x0 : Sl) (x1 : Int) (x5 x6 : Option Addr) (h : Hp) (Kr : Bool → Hp → Prop) : Prop :=
 nw h (.cells ⟨[.int .u8 120]⟩ 5) fun b0 h0 =>
 mkSh h0 (bk b0) fun h1 =>
 nw h1 (.cells ⟨[.int .i64 8, .int .i64 1, .slice (some (bk b0)) 1 1]⟩ 34) fun b1 h2 =>
 apK Tryz.prog 34 ⟨some (bk b1), 1, 1⟩ (.slice x0.p x0.n x0.c) h2 fun s0 h3 =>
 nw h3 (.cells ⟨[.int .u8 121]⟩ 5) fun b2 h4 =>
 mkSh h4 (bk b2) fun h5 =>
 nw h5 (.cells ⟨[.int .u8 122]⟩ 5) fun b3 h6 =>
 mkSh h6 (bk b3) fun h7 =>
 nw h7 (.cells ⟨[.int .i64 9, .int .i64 0, .slice (some (bk b2)) 1 1, .int .i64 9, .int .i64 1, .slice (some (bk b3)) 1 1]⟩ 34) fun b4 h8 =>
 apK Tryz.prog 34 s0 (.slice (some (bk b4)) 2 2) h8 fun s1 h9 =>
 N3_l1 x1 x5 x6 s1 ((s1.n : Nat) : Int) ⟨none, 0, 0⟩ 0 h9
 (fun h10 =>
 Kr true h10)
 (fun b5 h11 =>
 Kr b5 h11)
noncomputable def N3_j0_t : Xf := pieceT [(0, .c (.slice)), (1, .c (.int .i64)), (5, .c (.ptr)), (6, .c (.ptr))] (codeAt B3 [1, 1, 1, 1, 1]) fun x h Q => N3_j0 x.1 x.2.1 x.2.2.1 x.2.2.2 h (fun o0 h' => Q .ret (Sg.env [(4, .c (.bool))] o0) h')
theorem N3_j0_ok : Sound Tryz.prog Tryz.f3.ntmps N3_j0_t (codeAt B3 [1, 1, 1, 1, 1]) := by
 refine piece_sound (fun e => match e with | .ret => [4] | _ => []) ?_
 intro x h Q hb
 refine den_sound hE hm _ (.two .leaf (.two .leaf (.two .leaf (.two (.two .leaf (.one (.xf N3_l1_t))) .leaf)))) _ _ _ (⟨annOk_leaf, ⟨annOk_leaf, ⟨annOk_leaf, ⟨⟨annOk_leaf, N3_l1_ok⟩, annOk_leaf⟩⟩⟩⟩) ?_
 refine cast ?_ hb
 kernel_rfl
def N3 (x0 : Sl) (x1 : Int) (h : Hp) (K : Bool → Hp → Prop) : Prop :=
 C4 1 167772161 h fun p0 h0 =>
 C4 2 167772162 h0 fun p1 h1 =>
 peq h1 p0 none fun b0 =>
 bif b0 then
 K false h1
 else
 peq h1 p1 none fun b1 =>
 bif b1 then
 K false h1
 else
 nn p1 fun a0 =>
 xP (cell h1 (a0.add 1)) fun p2 =>
 C5 p2 7 h1 fun n0 h2 =>
 bif (n0 != 0) then
 K false h2
 else
 nn p0 fun a1 =>
 xP (cell h2 (a1.add 1)) fun p3 =>
 C5 p3 8 h2 fun n1 h3 =>
 bif (n1 != 0) then
 K false h3
 else
 bif (decide (x1 < 0)) then
 N3_j0 x0 0 p0 p1 h3
 (fun b2 h4 =>
 K b2 h4)
 else
 bif (decide (x1 > 562949953421312)) then
 N3_j0 x0 0 p0 p1 h3
 (fun b3 h5 =>
 K b3 h5)
 else
 N3_j0 x0 x1 p0 p1 h3
 (fun b4 h6 =>
 K b4 h6)
theorem S3 {x0 : Sl} {x1 : Int} {h : Hp} {K : Bool → Hp → Prop} (hn : N3 x0 x1 h K) : C3 x0 x1 h K := by
 refine calls_of_D Tryz.func3 (c := B3) rfl (by kernel_rfl) ?_
 refine den_sound hE hm _ (.two .leaf (.two .leaf (.two .leaf (.two .leaf (.two .leaf (.xf N3_j0_t)))))) _ _ _ (⟨annOk_leaf, ⟨annOk_leaf, ⟨annOk_leaf, ⟨annOk_leaf, ⟨annOk_leaf, N3_j0_ok⟩⟩⟩⟩⟩) ?_
 refine cast ?_ hn
 kernel_rfl
end Go.Proofs.YtbbnpmikjdgdpaaGreat

/-
 TopTalks: the walk.
-/
set_option linter.unusedSimpArgs false
set_option linter.unusedVariables false
set_option maxRecDepth 20000
namespace Go.Proofs.YtbbnpmikjdgdpaaGreat
open Go Go.Hw
structure UdE where
 src : Int
 dst : Int
 data : List UInt8
 s : Sl
def UdE.ud (e : UdE) : Ud := ⟨e.src, e.data⟩
def utC (e : UdE) : List Value := [.int .i64 e.src, .int .i64 e.dst, e.s.v]
theorem utC_w (e : UdE) : (utC e).length = 3 := rfl
theorem utC_plain {e : UdE} : ∀ v ∈ utC e, plain v = true := by
 intro v hv
 simp only [utC, List.mem_cons, List.not_mem_nil, or_false] at hv
 rcases hv with rfl | rfl | rfl <;> rfl
theorem ut_a : Tryz.prog.cellsOf 34 = 3 := by kernel_rfl
theorem ut_z : (zc Tryz.prog 34).length = 3 := by kernel_rfl
theorem ut_b : Tryz.prog.bytesOf 34 ≤ 64 := by rw [show Tryz.prog.bytesOf 34 = 40 by kernel_rfl]; omega
theorem lit1 {L M : List Asn} {h : Hp} {c : UInt8} {F : Nat → Hp → Prop} (hs : Sat (L ++ M) h) (hF : ∀ b h', Sat (L ++ (M ++ [byt 5 ⟨some (bk b), 1, 1⟩ [c]])) h' → F b h') :
  nw h (.cells ⟨[.int .u8 (c.toNat : Int)]⟩ 5) fun b h0 => mkSh h0 (bk b) fun h1 => F b h1 := by
 intro b e
 have es : shp (upd h b (.cells ⟨[.int .u8 (c.toNat : Int)]⟩ 5 (0, 0))) b = some (5, 1) := by unfold shp; rw [upd_same]; rfl
 unfold mkSh
 rw [show (bk b).block = b from rfl, es]
 simp only []
 have ef : frzn (upd h b (.cells ⟨[.int .u8 (c.toNat : Int)]⟩ 5 (0, 0))) ⟨b, 1, none⟩ 1 = upd (upd h b (.cells ⟨[.int .u8 (c.toNat : Int)]⟩ 5 (0, 0))) b (.cells ⟨[.int .u8 (c.toNat : Int)]⟩ 5 (1, 2)) := by
  unfold frzn
  simp only [upd_same]
  rfl
 rw [ef]
 have x4 : Ext none' h (upd (upd h b (.cells ⟨[.int .u8 (c.toNat : Int)]⟩ 5 (0, 0))) b (.cells ⟨[.int .u8 (c.toNat : Int)]⟩ 5 (1, 2))) := by
  intro d o hc _
  have : d ≠ b := by rintro rfl; rw [e] at hc; cases hc
  rw [upd_ne this, upd_ne this]; exact hc
 refine hF b _ (hs.addB (s := ⟨some (bk b), 1, 1⟩) x4 ⟨rfl, Nat.le_refl _, rfl, [.int .u8 (c.toNat : Int)], ⟨(1, 2), .inr (Nat.le_refl _), upd_same⟩, rfl, rfl⟩ ?_)
 intro b' hb'
 simp only [Option.some.injEq] at hb'
 have : b = b' := congrArg Addr.block hb'
 subst this; exact e
theorem rowOwn {L M : List Asn} {h : Hp} {T : TypeId} {w k : Nat} {vs : List Value} {F : Nat → Hp → Prop} (hs : Sat (L ++ M) h) (hl : vs.length = k * w) (hF : ∀ b h', Sat (L ++ (M ++ [Hw.own T w ⟨some (bk b), k, k⟩ vs])) h' → F b h') :
  nw h (.cells ⟨vs⟩ T) F := by
 intro b hb
 refine hF b _ (hs.addOwn (T := T) (sz := w) (s := ⟨some (bk b), k, k⟩) (vs := vs) (Ext.new (o := .cells ⟨vs⟩ T (0, 0)) hb) ⟨hl, Nat.le_refl _, rfl, vs, upd_same, hl, ?_⟩ ?_)
 ·show vs.take vs.length = vs
  exact List.take_length
 ·intro b' hb'
  simp only [Option.some.injEq] at hb'
  have : b = b' := congrArg Addr.block hb'
  subst this; exact hb
theorem rde_src {α : Type} {h : Hp} {w : Nat} {s : Sl} {f : α → List Value} {Q : List α} (H : RdE h s f Q) (hw : ∀ x, (f x).length = w) {F : List Value → Prop} (hF : F (Q.flatMap f)) : srcK h w s.n s.v F := by
 have hl : (Q.flatMap f).length = s.n * w := by rw [flat_len hw, H.n]
 have hr := H.r
 obtain ⟨p, n, c⟩ := s
 cases p with
 | none =>
  have e : Q.flatMap f = [] := by
   cases hq : Q.flatMap f with
   | nil => rfl
   | cons v l =>
    obtain ⟨a, ha, _⟩ := hr 0 v (by rw [hq]; rfl)
    cases ha
  rw [e] at hF
  exact hF
 | some a =>
  have hr : Rdc h (some a) (Q.flatMap f) := hr
  unfold srcK
  show (match rdN h a 0 (n * w) with | some l => F l | none => False)
  have hl : (Q.flatMap f).length = n * w := hl
  rw [hr.rdN _ _ (by omega)]
  simp only [List.drop_zero]
  rw [List.take_of_length_le (by omega)]
  exact hF
def TI (now : Int) (i : Nat) (SA SB : StS) (W : List Ud) : Prop :=
 (i = 0 ∧ SA = gA 0 c0A [] [] ∧ SB = gB c0B [] [] [] ∧ W = []) ∨
 (1 ≤ i ∧ ∃ (id : Int) (tq la lb : List (List UInt8)) (cB : Ca), SA = gA id (kn mcA ipB mcB now) tq la ∧ SB = gB cB [] [] lb ∧ Wait tq W ∧ W.length < 8 ∧ (0 ≤ id ∧ id ≤ 65535) ∧ la.length ≤ i + 1)
def TS (now : Int) (i : Nat) (SA SB : StS) (W : List Ud) : Prop :=
 (i = 1 ∧ SA = gA 1 (cQ now) [qf] [qf] ∧ SB = gB c0B [] [] [] ∧ W = [u1]) ∨
 (1 ≤ i ∧ ∃ (id : Int) (tq la lb : List (List UInt8)) (cB : Ca), SA = gA id (kn mcA ipB mcB now) tq la ∧ SB = gB cB [] [] lb ∧ Wait tq W ∧ W.length ≤ 8 ∧ (0 ≤ id ∧ id ≤ 65535) ∧ la.length ≤ i + 1)
theorem TI.send {now : Int} {i : Nat} {SA SB : StS} {W : List Ud} {u : Ud} (h : TI now i SA SB W) (hn : 0 ≤ now ∧ now + 600 ≤ maxT) (h0 : i = 0 → u = u1) [Decidable u.may] :
  SA.ok ∧ SA.laid.length ≤ i + 1 ∧ ((sendS SA ipA ipB u.src 7 u.data now).1 == 0) = decide u.may ∧ TS now (i + 1) (sendS SA ipA ipB u.src 7 u.data now).2 SB (if u.may then W ++ [u] else W) := by
 rcases h with ⟨rfl, rfl, rfl, rfl⟩ | ⟨hi, id, tq, la, lb, cB, rfl, rfl, hW, hl, hid, hla⟩
 ·have e := h0 rfl
  subst e
  have := first_send hn
  rw [show u1.src = 8 from rfl, show u1.data = [120] from rfl, this, if_pos u1_may]
  exact ⟨gA_ok (ca0_ok mcA_ok (by decide)) rfl (by decide), by show (0 : Nat) ≤ _; omega, by rw [decide_eq_true u1_may]; rfl, .inl ⟨rfl, rfl, rfl, rfl⟩⟩
 ·refine ⟨gA_ok (kn_ok mcA_ok mcB_ok (by decide) hn) rfl hid, hla, ?_⟩
  by_cases hu : u.may
  ·have hq := hW.len
   rw [send_known hu hn (by omega), if_pos hu, decide_eq_true hu]
   refine ⟨rfl, .inr ⟨by omega, id % 65535 + 1, _, _, lb, cB, rfl, rfl, hW.snoc (by omega) hu, by rw [List.length_append, List.length_singleton]; omega, by omega, by rw [List.length_append, List.length_singleton]; omega⟩⟩
  ·obtain ⟨e1, e2⟩ := send_bad (id := id) (now := now) (c := kn mcA ipB mcB now) (tq := tq) (la := la) hu
   rw [e2, if_neg hu, decide_eq_false hu]
   exact ⟨by simp [e1], .inr ⟨by omega, id, tq, la, lb, cB, rfl, rfl, hW, by omega, hid, by omega⟩⟩
theorem TS.pump {now : Int} {i : Nat} {SA SB : StS} {W : List Ud} (h : TS now i SA SB W) (hn : 0 ≤ now ∧ now + 600 ≤ maxT) :
  ∃ (n : Nat) (id : Int) (la lb : List (List UInt8)) (cB : Ca), n < 64 ∧ PumpN now n SA SB (gA id (kn mcA ipB mcB now) [] la) (gB cB (W.map Ud.dg) [] lb) ∧ (0 ≤ id ∧ id ≤ 65535) ∧ la.length ≤ i + 1 ∧ 1 ≤ i := by
 rcases h with ⟨rfl, rfl, rfl, rfl⟩ | ⟨hi, id, tq, la, lb, cB, rfl, rfl, hW, hl, hid, hla⟩
 ·obtain ⟨n, h1, h2⟩ := first_pump hn
  exact ⟨n, 1, _, _, _, by omega, h2, by omega, by simp, Nat.le_refl _⟩
 ·obtain ⟨n, h1, h2⟩ := pump_wait (now := now) (id := id) (cA := kn mcA ipB mcB now) (cB := cB) (la := la) (lb := lb) hW (by omega)
  exact ⟨n, id, la, lb, cB, by omega, h2, hid, hla, hi⟩
theorem take_B {c : Ca} {u : Dg} {q : List Dg} {tq lb : List (List UInt8)} : takeT (gB c (u :: q) tq lb).tb 7 = (some u, (gB c q tq lb).tb) := by
 show takeT ⟨16, 32, [⟨7, u :: q, 0⟩]⟩ 7 = _
 unfold takeT
 rw [show findP 7 [⟨7, u :: q, 0⟩] = some ⟨7, u :: q, 0⟩ from rfl]
 rfl
theorem take_B0 {c : Ca} {tq lb : List (List UInt8)} : takeT (gB c [] tq lb).tb 7 = (none, (gB c [] tq lb).tb) := rfl
theorem take_A0 {id : Int} {c : Ca} {tq lb : List (List UInt8)} : takeT (gA id c tq lb).tb 8 = (none, (gA id c tq lb).tb) := rfl
theorem nod_B {c : Ca} {q : List Dg} {tq lb : List (List UInt8)} : NodN (gB c q tq lb).tb.ps := by simp [gB, NodN]
theorem nod_A {id : Int} {c : Ca} {tq lb : List (List UInt8)} : NodN (gA id c tq lb).tb.ps := by simp [gA, NodN]
end Go.Proofs.YtbbnpmikjdgdpaaGreat

/-
 TopTalks: the walk of its loop.
-/
set_option linter.unusedSimpArgs false
set_option linter.unusedVariables false
set_option maxRecDepth 20000
namespace Go.Proofs.YtbbnpmikjdgdpaaGreat
open Go Go.Hw
section
variable {L : List Asn} {h : Hp} {ma ca ba mb_ cb bb : Nat} {now : Int} {Q W : List UdE} {s1 sw : Sl}
theorem talks_take {x65 : Sl} {x66 x67 : Int} {id : Int} {cA cB : Ca} {la lb : List (List UInt8)} {K1 : Hp → Prop} {K2 : Bool → Hp → Prop}
  (hs : Sat (L ++ [mch ma ca ba, mch mb_ cb bb, stackA ba ca (gA id cA [] la), stackA bb cb (gB cB (W.map fun e => e.ud.dg) [] lb), Hw.own 34 3 sw (W.flatMap utC)]) h)
  (hW : ∀ e ∈ W, (∀ h', Sat L h' → RdB h' e.s e.data)) (hl : W.length ≤ 8)
  (hK : ∀ h', Sat (L ++ [mch ma ca ba, mch mb_ cb bb, stackA ba ca (gA id cA [] la), stackA bb cb (gB cB [] [] lb), Hw.own 34 3 sw (W.flatMap utC)]) h' → K1 h') :
  N3_l5 now (some (bk ma)) (some (bk mb_)) x65 x66 x67 sw ((sw.n : Nat) : Int) 0 h K1 K2 := by
 have wn := hs.elemN 4 rfl utC_w (by decide)
 unfold N3_l5
 refine loopP_inv (fun (z : Int) hc => ∃ j : Nat, z = j ∧ j ≤ W.length ∧ Sat (L ++ [mch ma ca ba, mch mb_ cb bb, stackA ba ca (gA id cA [] la), stackA bb cb (gB cB ((W.drop j).map fun e => e.ud.dg) [] lb), Hw.own 34 3 sw (W.flatMap utC)]) hc) (fun z _ => W.length - z.toNat) ?_ ⟨0, rfl, Nat.zero_le _, hs⟩
 clear hs
 rintro z hc ⟨j, rfl, hj, g⟩
 unfold N3_l5_B N3_l5_b
 dsimp only
 by_cases hlt : j < W.length
 ·rw [show decide ((j : Int) < ((sw.n : Nat) : Int)) = true from decide_eq_true (by omega), cond_true]
  have hx : W[j]? = some W[j] := List.getElem?_eq_getElem hlt
  have hd : W.drop j = W[j] :: W.drop (j + 1) := List.drop_eq_getElem_cons hlt
  have hr := hW _ (List.getElem_mem hlt)
  generalize W[j] = e at hx hd hr
  rw [hd, List.map_cons] at g
  have nx : IntKind.wrap .i64 ((j : Int) + 1) = ((j + 1 : Nat) : Int) := nat_succ64 (by omega)
  refine g.elem 4 rfl utC_w (by decide) hx rfl ?_
  intro r hr2 rd
  simp only [add_bk, Int.toNat_natCast]
  simp only [add_mk]
  refine xI_of (rd (k := 0) rfl) ?_
  refine xI_of (rd (k := 1) rfl) ?_
  refine xL_of (s := e.s) (rd (k := 2) rfl) ?_
  unfold mch at g
  refine g.nw ?_
  intro z1 h1 hs _
  simp only [List.cons_append, List.nil_append] at hs
  repeat (first | (refine Sat.st hs 0 rfl (by simp) rfl ?_; intro _ hs; simp only [List.set_cons_zero, List.set_cons_succ] at hs) | (refine Sat.st hs 1 rfl (by simp) rfl ?_; intro _ hs; simp only [List.set_cons_zero, List.set_cons_succ] at hs) | (refine Sat.st hs 2 rfl (by simp) rfl ?_; intro _ hs; simp only [List.set_cons_zero, List.set_cons_succ] at hs) | (refine Sat.st hs 3 rfl (by simp) rfl ?_; intro _ hs; simp only [List.set_cons_zero, List.set_cons_succ] at hs) | (refine Sat.st hs 4 rfl (by simp) rfl ?_; intro _ hs; simp only [List.set_cons_zero, List.set_cons_succ] at hs) | (refine Sat.st hs 5 rfl (by simp) rfl ?_; intro _ hs; simp only [List.set_cons_zero, List.set_cons_succ] at hs) | (refine Sat.lI hs 0 rfl rfl ?_) | (refine Sat.lI hs 1 rfl rfl ?_) | (refine Sat.lI hs 2 rfl rfl ?_) | (refine Sat.lI hs 3 rfl rfl ?_) | (refine Sat.lI hs 4 rfl rfl ?_) | (refine Sat.lI hs 5 rfl rfl ?_) | (refine Sat.lL hs 0 rfl rfl ?_) | (refine Sat.lL hs 1 rfl rfl ?_) | (refine Sat.lL hs 2 rfl rfl ?_) | (refine Sat.lL hs 3 rfl rfl ?_) | (refine Sat.lL hs 4 rfl rfl ?_) | (refine Sat.lL hs 5 rfl rfl ?_) | (refine Sat.lP hs 0 rfl rfl ?_) | (refine Sat.lP hs 1 rfl rfl ?_) | (refine Sat.lP hs 2 rfl rfl ?_) | (refine Sat.lP hs 3 rfl rfl ?_) | (refine Sat.lP hs 4 rfl rfl ?_) | (refine Sat.lP hs 5 rfl rfl ?_) | (refine Sat.lB hs 0 rfl rfl ?_) | (refine Sat.lB hs 1 rfl rfl ?_) | (refine Sat.lB hs 2 rfl rfl ?_) | (refine Sat.lB hs 3 rfl rfl ?_) | (refine Sat.lB hs 4 rfl rfl ?_) | (refine Sat.lB hs 5 rfl rfl ?_) | (refine Sat.lS hs 0 rfl rfl ?_) | (refine Sat.lS hs 1 rfl rfl ?_) | (refine Sat.lS hs 2 rfl rfl ?_) | (refine Sat.lS hs 3 rfl rfl ?_) | (refine Sat.lS hs 4 rfl rfl ?_) | (refine Sat.lS hs 5 rfl rfl ?_) | (refine Sat.lM hs 0 rfl rfl ?_) | (refine Sat.lM hs 1 rfl rfl ?_) | (refine Sat.lM hs 2 rfl rfl ?_) | (refine Sat.lM hs 3 rfl rfl ?_) | (refine Sat.lM hs 4 rfl rfl ?_) | (refine Sat.lM hs 5 rfl rfl ?_) | (refine Sat.lA hs 0 rfl rfl ?_) | (refine Sat.lA hs 1 rfl rfl ?_) | (refine Sat.lA hs 2 rfl rfl ?_) | (refine Sat.lA hs 3 rfl rfl ?_) | (refine Sat.lA hs 4 rfl rfl ?_) | (refine Sat.lA hs 5 rfl rfl ?_) | (simp only [nn_some', add_bk]))
  have g2 : Sat ((L ++ [row ma 30 [.pointer (some (bk ca)), .pointer (some (bk ba))], row mb_ 30 [.pointer (some (bk cb)), .pointer (some (bk bb))], stackA ba ca (gA id cA [] la), Hw.own 34 3 sw (W.flatMap utC), row z1 34 (utC e)]) ++ [stackA bb cb (gB cB (e.ud.dg :: (W.drop (j + 1)).map fun e => e.ud.dg) [] lb)]) _ := hs.part [0, 1, 2, 4, 5, 3] (by decide) rfl
  have et := take_B (c := cB) (u := e.ud.dg) (q := (W.drop (j + 1)).map fun e => e.ud.dg) (tq := []) (lb := lb)
  refine c_stake g2 nod_B (fun q => by rw [et] at q; cases q) (fun d q s2 h2 g3 => ?_)
  rw [et] at q g3
  have q : some e.ud.dg = some d := q
  cases q
  have g4 : Sat (L ++ [row ma 30 [.pointer (some (bk ca)), .pointer (some (bk ba))], row mb_ 30 [.pointer (some (bk cb)), .pointer (some (bk bb))], stackA ba ca (gA id cA [] la), Hw.own 34 3 sw (W.flatMap utC), row z1 34 [.int .i64 e.src, .int .i64 e.dst, .slice e.s.p e.s.n e.s.c], stackA bb cb (gB cB ((W.drop (j + 1)).map fun e => e.ud.dg) [] lb), Hw.own 5 1 s2 (Hw.bc e.ud.dg.data)]) h2 := Sat.asc g3
  clear hs g3 g2 g
  refine g4.nw ?_
  intro z2 h3 hs _
  simp only [List.cons_append, List.nil_append] at hs
  repeat (first | (refine Sat.st hs 0 rfl (by simp) rfl ?_; intro _ hs; simp only [List.set_cons_zero, List.set_cons_succ] at hs) | (refine Sat.st hs 1 rfl (by simp) rfl ?_; intro _ hs; simp only [List.set_cons_zero, List.set_cons_succ] at hs) | (refine Sat.st hs 2 rfl (by simp) rfl ?_; intro _ hs; simp only [List.set_cons_zero, List.set_cons_succ] at hs) | (refine Sat.st hs 3 rfl (by simp) rfl ?_; intro _ hs; simp only [List.set_cons_zero, List.set_cons_succ] at hs) | (refine Sat.st hs 4 rfl (by simp) rfl ?_; intro _ hs; simp only [List.set_cons_zero, List.set_cons_succ] at hs) | (refine Sat.st hs 5 rfl (by simp) rfl ?_; intro _ hs; simp only [List.set_cons_zero, List.set_cons_succ] at hs) | (refine Sat.st hs 6 rfl (by simp) rfl ?_; intro _ hs; simp only [List.set_cons_zero, List.set_cons_succ] at hs) | (refine Sat.st hs 7 rfl (by simp) rfl ?_; intro _ hs; simp only [List.set_cons_zero, List.set_cons_succ] at hs) | (refine Sat.lI hs 0 rfl rfl ?_) | (refine Sat.lI hs 1 rfl rfl ?_) | (refine Sat.lI hs 2 rfl rfl ?_) | (refine Sat.lI hs 3 rfl rfl ?_) | (refine Sat.lI hs 4 rfl rfl ?_) | (refine Sat.lI hs 5 rfl rfl ?_) | (refine Sat.lI hs 6 rfl rfl ?_) | (refine Sat.lI hs 7 rfl rfl ?_) | (refine Sat.lL hs 0 rfl rfl ?_) | (refine Sat.lL hs 1 rfl rfl ?_) | (refine Sat.lL hs 2 rfl rfl ?_) | (refine Sat.lL hs 3 rfl rfl ?_) | (refine Sat.lL hs 4 rfl rfl ?_) | (refine Sat.lL hs 5 rfl rfl ?_) | (refine Sat.lL hs 6 rfl rfl ?_) | (refine Sat.lL hs 7 rfl rfl ?_) | (refine Sat.lP hs 0 rfl rfl ?_) | (refine Sat.lP hs 1 rfl rfl ?_) | (refine Sat.lP hs 2 rfl rfl ?_) | (refine Sat.lP hs 3 rfl rfl ?_) | (refine Sat.lP hs 4 rfl rfl ?_) | (refine Sat.lP hs 5 rfl rfl ?_) | (refine Sat.lP hs 6 rfl rfl ?_) | (refine Sat.lP hs 7 rfl rfl ?_) | (refine Sat.lB hs 0 rfl rfl ?_) | (refine Sat.lB hs 1 rfl rfl ?_) | (refine Sat.lB hs 2 rfl rfl ?_) | (refine Sat.lB hs 3 rfl rfl ?_) | (refine Sat.lB hs 4 rfl rfl ?_) | (refine Sat.lB hs 5 rfl rfl ?_) | (refine Sat.lB hs 6 rfl rfl ?_) | (refine Sat.lB hs 7 rfl rfl ?_) | (refine Sat.lS hs 0 rfl rfl ?_) | (refine Sat.lS hs 1 rfl rfl ?_) | (refine Sat.lS hs 2 rfl rfl ?_) | (refine Sat.lS hs 3 rfl rfl ?_) | (refine Sat.lS hs 4 rfl rfl ?_) | (refine Sat.lS hs 5 rfl rfl ?_) | (refine Sat.lS hs 6 rfl rfl ?_) | (refine Sat.lS hs 7 rfl rfl ?_) | (refine Sat.lM hs 0 rfl rfl ?_) | (refine Sat.lM hs 1 rfl rfl ?_) | (refine Sat.lM hs 2 rfl rfl ?_) | (refine Sat.lM hs 3 rfl rfl ?_) | (refine Sat.lM hs 4 rfl rfl ?_) | (refine Sat.lM hs 5 rfl rfl ?_) | (refine Sat.lM hs 6 rfl rfl ?_) | (refine Sat.lM hs 7 rfl rfl ?_) | (refine Sat.lA hs 0 rfl rfl ?_) | (refine Sat.lA hs 1 rfl rfl ?_) | (refine Sat.lA hs 2 rfl rfl ?_) | (refine Sat.lA hs 3 rfl rfl ?_) | (refine Sat.lA hs 4 rfl rfl ?_) | (refine Sat.lA hs 5 rfl rfl ?_) | (refine Sat.lA hs 6 rfl rfl ?_) | (refine Sat.lA hs 7 rfl rfl ?_) | (simp only [nn_some', add_bk]))
  rw [show (e.ud.dg.c != e.src) = false by show (e.src != e.src) = false; simp, cond_false]
  repeat (first | (refine Sat.st hs 0 rfl (by simp) rfl ?_; intro _ hs; simp only [List.set_cons_zero, List.set_cons_succ] at hs) | (refine Sat.st hs 1 rfl (by simp) rfl ?_; intro _ hs; simp only [List.set_cons_zero, List.set_cons_succ] at hs) | (refine Sat.st hs 2 rfl (by simp) rfl ?_; intro _ hs; simp only [List.set_cons_zero, List.set_cons_succ] at hs) | (refine Sat.st hs 3 rfl (by simp) rfl ?_; intro _ hs; simp only [List.set_cons_zero, List.set_cons_succ] at hs) | (refine Sat.st hs 4 rfl (by simp) rfl ?_; intro _ hs; simp only [List.set_cons_zero, List.set_cons_succ] at hs) | (refine Sat.st hs 5 rfl (by simp) rfl ?_; intro _ hs; simp only [List.set_cons_zero, List.set_cons_succ] at hs) | (refine Sat.st hs 6 rfl (by simp) rfl ?_; intro _ hs; simp only [List.set_cons_zero, List.set_cons_succ] at hs) | (refine Sat.st hs 7 rfl (by simp) rfl ?_; intro _ hs; simp only [List.set_cons_zero, List.set_cons_succ] at hs) | (refine Sat.lI hs 0 rfl rfl ?_) | (refine Sat.lI hs 1 rfl rfl ?_) | (refine Sat.lI hs 2 rfl rfl ?_) | (refine Sat.lI hs 3 rfl rfl ?_) | (refine Sat.lI hs 4 rfl rfl ?_) | (refine Sat.lI hs 5 rfl rfl ?_) | (refine Sat.lI hs 6 rfl rfl ?_) | (refine Sat.lI hs 7 rfl rfl ?_) | (refine Sat.lL hs 0 rfl rfl ?_) | (refine Sat.lL hs 1 rfl rfl ?_) | (refine Sat.lL hs 2 rfl rfl ?_) | (refine Sat.lL hs 3 rfl rfl ?_) | (refine Sat.lL hs 4 rfl rfl ?_) | (refine Sat.lL hs 5 rfl rfl ?_) | (refine Sat.lL hs 6 rfl rfl ?_) | (refine Sat.lL hs 7 rfl rfl ?_) | (refine Sat.lP hs 0 rfl rfl ?_) | (refine Sat.lP hs 1 rfl rfl ?_) | (refine Sat.lP hs 2 rfl rfl ?_) | (refine Sat.lP hs 3 rfl rfl ?_) | (refine Sat.lP hs 4 rfl rfl ?_) | (refine Sat.lP hs 5 rfl rfl ?_) | (refine Sat.lP hs 6 rfl rfl ?_) | (refine Sat.lP hs 7 rfl rfl ?_) | (refine Sat.lB hs 0 rfl rfl ?_) | (refine Sat.lB hs 1 rfl rfl ?_) | (refine Sat.lB hs 2 rfl rfl ?_) | (refine Sat.lB hs 3 rfl rfl ?_) | (refine Sat.lB hs 4 rfl rfl ?_) | (refine Sat.lB hs 5 rfl rfl ?_) | (refine Sat.lB hs 6 rfl rfl ?_) | (refine Sat.lB hs 7 rfl rfl ?_) | (refine Sat.lS hs 0 rfl rfl ?_) | (refine Sat.lS hs 1 rfl rfl ?_) | (refine Sat.lS hs 2 rfl rfl ?_) | (refine Sat.lS hs 3 rfl rfl ?_) | (refine Sat.lS hs 4 rfl rfl ?_) | (refine Sat.lS hs 5 rfl rfl ?_) | (refine Sat.lS hs 6 rfl rfl ?_) | (refine Sat.lS hs 7 rfl rfl ?_) | (refine Sat.lM hs 0 rfl rfl ?_) | (refine Sat.lM hs 1 rfl rfl ?_) | (refine Sat.lM hs 2 rfl rfl ?_) | (refine Sat.lM hs 3 rfl rfl ?_) | (refine Sat.lM hs 4 rfl rfl ?_) | (refine Sat.lM hs 5 rfl rfl ?_) | (refine Sat.lM hs 6 rfl rfl ?_) | (refine Sat.lM hs 7 rfl rfl ?_) | (refine Sat.lA hs 0 rfl rfl ?_) | (refine Sat.lA hs 1 rfl rfl ?_) | (refine Sat.lA hs 2 rfl rfl ?_) | (refine Sat.lA hs 3 rfl rfl ?_) | (refine Sat.lA hs 4 rfl rfl ?_) | (refine Sat.lA hs 5 rfl rfl ?_) | (refine Sat.lA hs 6 rfl rfl ?_) | (refine Sat.lA hs 7 rfl rfl ?_) | (simp only [nn_some', add_bk]))
  rw [show (e.ud.dg.d != 7) = false from rfl, cond_false]
  repeat (first | (refine Sat.st hs 0 rfl (by simp) rfl ?_; intro _ hs; simp only [List.set_cons_zero, List.set_cons_succ] at hs) | (refine Sat.st hs 1 rfl (by simp) rfl ?_; intro _ hs; simp only [List.set_cons_zero, List.set_cons_succ] at hs) | (refine Sat.st hs 2 rfl (by simp) rfl ?_; intro _ hs; simp only [List.set_cons_zero, List.set_cons_succ] at hs) | (refine Sat.st hs 3 rfl (by simp) rfl ?_; intro _ hs; simp only [List.set_cons_zero, List.set_cons_succ] at hs) | (refine Sat.st hs 4 rfl (by simp) rfl ?_; intro _ hs; simp only [List.set_cons_zero, List.set_cons_succ] at hs) | (refine Sat.st hs 5 rfl (by simp) rfl ?_; intro _ hs; simp only [List.set_cons_zero, List.set_cons_succ] at hs) | (refine Sat.st hs 6 rfl (by simp) rfl ?_; intro _ hs; simp only [List.set_cons_zero, List.set_cons_succ] at hs) | (refine Sat.st hs 7 rfl (by simp) rfl ?_; intro _ hs; simp only [List.set_cons_zero, List.set_cons_succ] at hs) | (refine Sat.lI hs 0 rfl rfl ?_) | (refine Sat.lI hs 1 rfl rfl ?_) | (refine Sat.lI hs 2 rfl rfl ?_) | (refine Sat.lI hs 3 rfl rfl ?_) | (refine Sat.lI hs 4 rfl rfl ?_) | (refine Sat.lI hs 5 rfl rfl ?_) | (refine Sat.lI hs 6 rfl rfl ?_) | (refine Sat.lI hs 7 rfl rfl ?_) | (refine Sat.lL hs 0 rfl rfl ?_) | (refine Sat.lL hs 1 rfl rfl ?_) | (refine Sat.lL hs 2 rfl rfl ?_) | (refine Sat.lL hs 3 rfl rfl ?_) | (refine Sat.lL hs 4 rfl rfl ?_) | (refine Sat.lL hs 5 rfl rfl ?_) | (refine Sat.lL hs 6 rfl rfl ?_) | (refine Sat.lL hs 7 rfl rfl ?_) | (refine Sat.lP hs 0 rfl rfl ?_) | (refine Sat.lP hs 1 rfl rfl ?_) | (refine Sat.lP hs 2 rfl rfl ?_) | (refine Sat.lP hs 3 rfl rfl ?_) | (refine Sat.lP hs 4 rfl rfl ?_) | (refine Sat.lP hs 5 rfl rfl ?_) | (refine Sat.lP hs 6 rfl rfl ?_) | (refine Sat.lP hs 7 rfl rfl ?_) | (refine Sat.lB hs 0 rfl rfl ?_) | (refine Sat.lB hs 1 rfl rfl ?_) | (refine Sat.lB hs 2 rfl rfl ?_) | (refine Sat.lB hs 3 rfl rfl ?_) | (refine Sat.lB hs 4 rfl rfl ?_) | (refine Sat.lB hs 5 rfl rfl ?_) | (refine Sat.lB hs 6 rfl rfl ?_) | (refine Sat.lB hs 7 rfl rfl ?_) | (refine Sat.lS hs 0 rfl rfl ?_) | (refine Sat.lS hs 1 rfl rfl ?_) | (refine Sat.lS hs 2 rfl rfl ?_) | (refine Sat.lS hs 3 rfl rfl ?_) | (refine Sat.lS hs 4 rfl rfl ?_) | (refine Sat.lS hs 5 rfl rfl ?_) | (refine Sat.lS hs 6 rfl rfl ?_) | (refine Sat.lS hs 7 rfl rfl ?_) | (refine Sat.lM hs 0 rfl rfl ?_) | (refine Sat.lM hs 1 rfl rfl ?_) | (refine Sat.lM hs 2 rfl rfl ?_) | (refine Sat.lM hs 3 rfl rfl ?_) | (refine Sat.lM hs 4 rfl rfl ?_) | (refine Sat.lM hs 5 rfl rfl ?_) | (refine Sat.lM hs 6 rfl rfl ?_) | (refine Sat.lM hs 7 rfl rfl ?_) | (refine Sat.lA hs 0 rfl rfl ?_) | (refine Sat.lA hs 1 rfl rfl ?_) | (refine Sat.lA hs 2 rfl rfl ?_) | (refine Sat.lA hs 3 rfl rfl ?_) | (refine Sat.lA hs 4 rfl rfl ?_) | (refine Sat.lA hs 5 rfl rfl ?_) | (refine Sat.lA hs 6 rfl rfl ?_) | (refine Sat.lA hs 7 rfl rfl ?_) | (simp only [nn_some', add_bk]))
  refine (hs.own 6 rfl).rdb.b2s ?_
  repeat (first | (refine Sat.st hs 0 rfl (by simp) rfl ?_; intro _ hs; simp only [List.set_cons_zero, List.set_cons_succ] at hs) | (refine Sat.st hs 1 rfl (by simp) rfl ?_; intro _ hs; simp only [List.set_cons_zero, List.set_cons_succ] at hs) | (refine Sat.st hs 2 rfl (by simp) rfl ?_; intro _ hs; simp only [List.set_cons_zero, List.set_cons_succ] at hs) | (refine Sat.st hs 3 rfl (by simp) rfl ?_; intro _ hs; simp only [List.set_cons_zero, List.set_cons_succ] at hs) | (refine Sat.st hs 4 rfl (by simp) rfl ?_; intro _ hs; simp only [List.set_cons_zero, List.set_cons_succ] at hs) | (refine Sat.st hs 5 rfl (by simp) rfl ?_; intro _ hs; simp only [List.set_cons_zero, List.set_cons_succ] at hs) | (refine Sat.st hs 6 rfl (by simp) rfl ?_; intro _ hs; simp only [List.set_cons_zero, List.set_cons_succ] at hs) | (refine Sat.st hs 7 rfl (by simp) rfl ?_; intro _ hs; simp only [List.set_cons_zero, List.set_cons_succ] at hs) | (refine Sat.lI hs 0 rfl rfl ?_) | (refine Sat.lI hs 1 rfl rfl ?_) | (refine Sat.lI hs 2 rfl rfl ?_) | (refine Sat.lI hs 3 rfl rfl ?_) | (refine Sat.lI hs 4 rfl rfl ?_) | (refine Sat.lI hs 5 rfl rfl ?_) | (refine Sat.lI hs 6 rfl rfl ?_) | (refine Sat.lI hs 7 rfl rfl ?_) | (refine Sat.lL hs 0 rfl rfl ?_) | (refine Sat.lL hs 1 rfl rfl ?_) | (refine Sat.lL hs 2 rfl rfl ?_) | (refine Sat.lL hs 3 rfl rfl ?_) | (refine Sat.lL hs 4 rfl rfl ?_) | (refine Sat.lL hs 5 rfl rfl ?_) | (refine Sat.lL hs 6 rfl rfl ?_) | (refine Sat.lL hs 7 rfl rfl ?_) | (refine Sat.lP hs 0 rfl rfl ?_) | (refine Sat.lP hs 1 rfl rfl ?_) | (refine Sat.lP hs 2 rfl rfl ?_) | (refine Sat.lP hs 3 rfl rfl ?_) | (refine Sat.lP hs 4 rfl rfl ?_) | (refine Sat.lP hs 5 rfl rfl ?_) | (refine Sat.lP hs 6 rfl rfl ?_) | (refine Sat.lP hs 7 rfl rfl ?_) | (refine Sat.lB hs 0 rfl rfl ?_) | (refine Sat.lB hs 1 rfl rfl ?_) | (refine Sat.lB hs 2 rfl rfl ?_) | (refine Sat.lB hs 3 rfl rfl ?_) | (refine Sat.lB hs 4 rfl rfl ?_) | (refine Sat.lB hs 5 rfl rfl ?_) | (refine Sat.lB hs 6 rfl rfl ?_) | (refine Sat.lB hs 7 rfl rfl ?_) | (refine Sat.lS hs 0 rfl rfl ?_) | (refine Sat.lS hs 1 rfl rfl ?_) | (refine Sat.lS hs 2 rfl rfl ?_) | (refine Sat.lS hs 3 rfl rfl ?_) | (refine Sat.lS hs 4 rfl rfl ?_) | (refine Sat.lS hs 5 rfl rfl ?_) | (refine Sat.lS hs 6 rfl rfl ?_) | (refine Sat.lS hs 7 rfl rfl ?_) | (refine Sat.lM hs 0 rfl rfl ?_) | (refine Sat.lM hs 1 rfl rfl ?_) | (refine Sat.lM hs 2 rfl rfl ?_) | (refine Sat.lM hs 3 rfl rfl ?_) | (refine Sat.lM hs 4 rfl rfl ?_) | (refine Sat.lM hs 5 rfl rfl ?_) | (refine Sat.lM hs 6 rfl rfl ?_) | (refine Sat.lM hs 7 rfl rfl ?_) | (refine Sat.lA hs 0 rfl rfl ?_) | (refine Sat.lA hs 1 rfl rfl ?_) | (refine Sat.lA hs 2 rfl rfl ?_) | (refine Sat.lA hs 3 rfl rfl ?_) | (refine Sat.lA hs 4 rfl rfl ?_) | (refine Sat.lA hs 5 rfl rfl ?_) | (refine Sat.lA hs 6 rfl rfl ?_) | (refine Sat.lA hs 7 rfl rfl ?_) | (simp only [nn_some', add_bk]))
  refine (hr _ hs.left).b2s ?_
  rw [show (!((⟨⟨e.ud.dg.data⟩⟩ : ByteArray).toList == (⟨⟨e.data⟩⟩ : ByteArray).toList)) = false by show (!((⟨⟨e.data⟩⟩ : ByteArray).toList == (⟨⟨e.data⟩⟩ : ByteArray).toList)) = false; simp, cond_false, nx]
  exact ⟨⟨j + 1, rfl, hlt, hs.sel [0, 1, 2, 5, 3] (by decide) rfl⟩, by omega⟩
 ·rw [show decide ((j : Int) < ((sw.n : Nat) : Int)) = false from decide_eq_false (by omega), cond_false]
  have : W.drop j = [] := List.drop_of_length_le (by omega)
  rw [this] at g
  exact hK _ g
theorem talks_j4 {i : Nat} {x65 : Sl} {x66 x67 : Int} {SA SB : StS} {K1 : Sl → Hp → Prop} {K2 : Bool → Hp → Prop}
  (hs : Sat (L ++ [mch ma ca ba, mch mb_ cb bb, stackA ba ca SA, stackA bb cb SB, Hw.own 34 3 sw (W.flatMap utC)]) h) (hn : 0 ≤ now ∧ now + 600 ≤ maxT)
  (hT : TS now i SA SB (W.map UdE.ud)) (hW : ∀ e ∈ W, (∀ h', Sat L h' → RdB h' e.s e.data)) (hl : W.length ≤ 8)
  (hK : ∀ SA' SB' h', TI now i SA' SB' [] → Sat (L ++ [mch ma ca ba, mch mb_ cb bb, stackA ba ca SA', stackA bb cb SB', Hw.own 34 3 ⟨none, 0, 0⟩ (([] : List UdE).flatMap utC)]) h' → K1 ⟨none, 0, 0⟩ h') :
  N3_j4 now (some (bk ma)) (some (bk mb_)) sw x65 x66 x67 h K1 K2 := by
 unfold N3_j4
 obtain ⟨n, id, la, lb, cB, hn64, hp, hid, hla, hi1⟩ := hT.pump hn
 have g0 : Sat ((L ++ [Hw.own 34 3 sw (W.flatMap utC)]) ++ [mch ma ca ba, mch mb_ cb bb, stackA ba ca SA, stackA bb cb SB]) h := hs.part [4, 0, 1, 2, 3] (by decide) rfl
 refine c_pump g0 hp hn64 fun h1 g1 => ?_
 rw [show (!true) = false from rfl, cond_false]
 rw [List.map_map] at g1
 have g2 : Sat (L ++ [mch ma ca ba, mch mb_ cb bb, stackA ba ca (gA id (kn mcA ipB mcB now) [] la), stackA bb cb (gB cB (W.map fun e => e.ud.dg) [] lb), Hw.own 34 3 sw (W.flatMap utC)]) h1 := (Sat.asc g1).sel [1, 2, 3, 4, 0] (by decide) rfl
 refine talks_take g2 hW hl fun h2 g3 => ?_
 unfold mch at g3
 simp only [nn_some', add_bk]
 refine g3.lP 1 (k := 1) rfl rfl ?_
 have g4 := g3.part [0, 1, 2, 4, 3] (by decide) rfl (M1 := [row ma 30 [.pointer (some (bk ca)), .pointer (some (bk ba))], row mb_ 30 [.pointer (some (bk cb)), .pointer (some (bk bb))], stackA ba ca (gA id (kn mcA ipB mcB now) [] la), Hw.own 34 3 sw (W.flatMap utC)]) (M2 := [stackA bb cb (gB cB [] [] lb)])
 refine c_stake g4 nod_B (fun q h3 g5 => ?_) (fun d q s2 h3 g5 => by rw [take_B0] at q; cases q)
 rw [take_B0] at g5
 have g6 : Sat (L ++ [row ma 30 [.pointer (some (bk ca)), .pointer (some (bk ba))], row mb_ 30 [.pointer (some (bk cb)), .pointer (some (bk bb))], stackA ba ca (gA id (kn mcA ipB mcB now) [] la), stackA bb cb (gB cB [] [] lb)]) h3 := (Sat.asc g5).sel [0, 1, 2, 4] (by decide) rfl
 refine g6.nw ?_
 intro z2 h4 hs4 _
 simp only [List.cons_append, List.nil_append] at hs4
 repeat (first | (refine Sat.st hs4 0 rfl (by simp) rfl ?_; intro _ hs4; simp only [List.set_cons_zero, List.set_cons_succ] at hs4) | (refine Sat.st hs4 1 rfl (by simp) rfl ?_; intro _ hs4; simp only [List.set_cons_zero, List.set_cons_succ] at hs4) | (refine Sat.st hs4 2 rfl (by simp) rfl ?_; intro _ hs4; simp only [List.set_cons_zero, List.set_cons_succ] at hs4) | (refine Sat.st hs4 3 rfl (by simp) rfl ?_; intro _ hs4; simp only [List.set_cons_zero, List.set_cons_succ] at hs4) | (refine Sat.st hs4 4 rfl (by simp) rfl ?_; intro _ hs4; simp only [List.set_cons_zero, List.set_cons_succ] at hs4) | (refine Sat.lI hs4 0 rfl rfl ?_) | (refine Sat.lI hs4 1 rfl rfl ?_) | (refine Sat.lI hs4 2 rfl rfl ?_) | (refine Sat.lI hs4 3 rfl rfl ?_) | (refine Sat.lI hs4 4 rfl rfl ?_) | (refine Sat.lL hs4 0 rfl rfl ?_) | (refine Sat.lL hs4 1 rfl rfl ?_) | (refine Sat.lL hs4 2 rfl rfl ?_) | (refine Sat.lL hs4 3 rfl rfl ?_) | (refine Sat.lL hs4 4 rfl rfl ?_) | (refine Sat.lP hs4 0 rfl rfl ?_) | (refine Sat.lP hs4 1 rfl rfl ?_) | (refine Sat.lP hs4 2 rfl rfl ?_) | (refine Sat.lP hs4 3 rfl rfl ?_) | (refine Sat.lP hs4 4 rfl rfl ?_) | (refine Sat.lB hs4 0 rfl rfl ?_) | (refine Sat.lB hs4 1 rfl rfl ?_) | (refine Sat.lB hs4 2 rfl rfl ?_) | (refine Sat.lB hs4 3 rfl rfl ?_) | (refine Sat.lB hs4 4 rfl rfl ?_) | (refine Sat.lS hs4 0 rfl rfl ?_) | (refine Sat.lS hs4 1 rfl rfl ?_) | (refine Sat.lS hs4 2 rfl rfl ?_) | (refine Sat.lS hs4 3 rfl rfl ?_) | (refine Sat.lS hs4 4 rfl rfl ?_) | (refine Sat.lM hs4 0 rfl rfl ?_) | (refine Sat.lM hs4 1 rfl rfl ?_) | (refine Sat.lM hs4 2 rfl rfl ?_) | (refine Sat.lM hs4 3 rfl rfl ?_) | (refine Sat.lM hs4 4 rfl rfl ?_) | (refine Sat.lA hs4 0 rfl rfl ?_) | (refine Sat.lA hs4 1 rfl rfl ?_) | (refine Sat.lA hs4 2 rfl rfl ?_) | (refine Sat.lA hs4 3 rfl rfl ?_) | (refine Sat.lA hs4 4 rfl rfl ?_) | (simp only [nn_some', add_bk]))
 have g7 := hs4.part [0, 1, 3, 2] (by decide) rfl (M1 := [row ma 30 [.pointer (some (bk ca)), .pointer (some (bk ba))], row mb_ 30 [.pointer (some (bk cb)), .pointer (some (bk bb))], stackA bb cb (gB cB [] [] lb)]) (M2 := [stackA ba ca (gA id (kn mcA ipB mcB now) [] la)])
 clear hs4
 refine c_stake g7 nod_A (fun q h5 g8 => ?_) (fun d q s2 h5 g8 => by rw [take_A0] at q; cases q)
 rw [take_A0] at g8
 have g9 : Sat (L ++ [row ma 30 [.pointer (some (bk ca)), .pointer (some (bk ba))], row mb_ 30 [.pointer (some (bk cb)), .pointer (some (bk bb))], stackA ba ca (gA id (kn mcA ipB mcB now) [] la), stackA bb cb (gB cB [] [] lb)]) h5 := (Sat.asc g8).sel [0, 1, 3, 2] (by decide) rfl
 refine g9.nw ?_
 intro z3 h6 hs6 _
 simp only [List.cons_append, List.nil_append] at hs6
 repeat (first | (refine Sat.st hs6 0 rfl (by simp) rfl ?_; intro _ hs6; simp only [List.set_cons_zero, List.set_cons_succ] at hs6) | (refine Sat.st hs6 1 rfl (by simp) rfl ?_; intro _ hs6; simp only [List.set_cons_zero, List.set_cons_succ] at hs6) | (refine Sat.st hs6 2 rfl (by simp) rfl ?_; intro _ hs6; simp only [List.set_cons_zero, List.set_cons_succ] at hs6) | (refine Sat.st hs6 3 rfl (by simp) rfl ?_; intro _ hs6; simp only [List.set_cons_zero, List.set_cons_succ] at hs6) | (refine Sat.st hs6 4 rfl (by simp) rfl ?_; intro _ hs6; simp only [List.set_cons_zero, List.set_cons_succ] at hs6) | (refine Sat.lI hs6 0 rfl rfl ?_) | (refine Sat.lI hs6 1 rfl rfl ?_) | (refine Sat.lI hs6 2 rfl rfl ?_) | (refine Sat.lI hs6 3 rfl rfl ?_) | (refine Sat.lI hs6 4 rfl rfl ?_) | (refine Sat.lL hs6 0 rfl rfl ?_) | (refine Sat.lL hs6 1 rfl rfl ?_) | (refine Sat.lL hs6 2 rfl rfl ?_) | (refine Sat.lL hs6 3 rfl rfl ?_) | (refine Sat.lL hs6 4 rfl rfl ?_) | (refine Sat.lP hs6 0 rfl rfl ?_) | (refine Sat.lP hs6 1 rfl rfl ?_) | (refine Sat.lP hs6 2 rfl rfl ?_) | (refine Sat.lP hs6 3 rfl rfl ?_) | (refine Sat.lP hs6 4 rfl rfl ?_) | (refine Sat.lB hs6 0 rfl rfl ?_) | (refine Sat.lB hs6 1 rfl rfl ?_) | (refine Sat.lB hs6 2 rfl rfl ?_) | (refine Sat.lB hs6 3 rfl rfl ?_) | (refine Sat.lB hs6 4 rfl rfl ?_) | (refine Sat.lS hs6 0 rfl rfl ?_) | (refine Sat.lS hs6 1 rfl rfl ?_) | (refine Sat.lS hs6 2 rfl rfl ?_) | (refine Sat.lS hs6 3 rfl rfl ?_) | (refine Sat.lS hs6 4 rfl rfl ?_) | (refine Sat.lM hs6 0 rfl rfl ?_) | (refine Sat.lM hs6 1 rfl rfl ?_) | (refine Sat.lM hs6 2 rfl rfl ?_) | (refine Sat.lM hs6 3 rfl rfl ?_) | (refine Sat.lM hs6 4 rfl rfl ?_) | (refine Sat.lA hs6 0 rfl rfl ?_) | (refine Sat.lA hs6 1 rfl rfl ?_) | (refine Sat.lA hs6 2 rfl rfl ?_) | (refine Sat.lA hs6 3 rfl rfl ?_) | (refine Sat.lA hs6 4 rfl rfl ?_) | (simp only [nn_some', add_bk]))
 have ga : Sat (L ++ [mch ma ca ba, mch mb_ cb bb, stackA ba ca (gA id (kn mcA ipB mcB now) [] la), stackA bb cb (gB cB [] [] lb)]) _ := hs6.sel [0, 1, 2, 3] (by decide) rfl
 have gb := ga.addNil 34 3
 exact hK _ _ _ (.inr ⟨hi1, id, [], la, lb, cB, rfl, rfl, trivial, by simp, hid, hla⟩) gb
end
end Go.Proofs.YtbbnpmikjdgdpaaGreat
