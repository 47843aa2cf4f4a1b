/-
 Datagrams: Encode.
-/
import Derived.Test.YtbbnpmikjdgdpaaGreatPd
import Derived.Test.YtbbnpmikjdgdpaaGreatPc
import Derived.Recover
import Derived.MapKept
import Derived.Test.YtbbnpmikjdgdpaaGreatPb
set_option linter.unusedSimpArgs false
set_option linter.unusedVariables false
set_option maxRecDepth 20000
namespace Go.Proofs.YtbbnpmikjdgdpaaGreat
open Go Go.Hw
def overL (si di : Int) (l : List UInt8) : List (List UInt8) := [be si.toNat 4, be di.toNat 4, [0, 17], be l.length 2, l]
theorem c_over {si di : Int} {x : Sl} {l : List UInt8} {h : Hp} {K : Sl → Hp → Prop} (h1 : 0 ≤ si ∧ si < 4294967296) (h2 : 0 ≤ di ∧ di < 4294967296) (hr : RdB h x l) (hl : l.length ≤ 1099511627776)
  (hK : ∀ h' s ts, Ext none' h h' → RdP h' s ts (overL si di l) → K s h') : C33 si di x h K := by
 apply S33; unfold N33
 have hs0 : Sat ([] ++ [Hw.was h]) h := Sat.start
 have xn := hr.n
 rw [wu64i h1.1 (by omega)]
 refine c_put (w := 4) h1.1 (by omega) fun ha a hna => ?_
 have g1 := hs0.addNew hna
 rw [wu64i h2.1 (by omega)]
 refine c_put (w := 4) h2.1 (by omega) fun hb b hnb => ?_
 have g2 := Sat.addNew g1 hnb
 refine Sat.nw g2 ?_
 intro z h3 g3 _
 rw [wu64i (by omega) (by omega)]
 refine c_put (w := 2) (by omega) (by omega) fun hd d hnd => ?_
 have g4 := Sat.addNew g3 hnd
 have g5 := Sat.addNil 32 1 g4
 have g5 : Sat ([] ++ [Hw.was h, Hw.own 5 1 a (bc (be si.toNat 4)), Hw.own 5 1 b (bc (be di.toNat 4)), row z 5 [.int .u8 0, .int .u8 17], Hw.own 5 1 d (bc (be l.length 2)), Hw.own 32 1 ⟨none, 0, 0⟩ []]) hd := by
  have e : putL ((x.n : Nat) : Int).toNat 2 = be l.length 2 := by rw [Int.toNat_natCast, xn]; rfl
  rw [e] at g5
  exact g5
 refine Sat.push g5 5 rfl (k := 4) (ns := [a.v, b.v, Sl.v ⟨some (bk z), 2, 2⟩, d.v]) yl_a yl_z rfl (by intro v hv; simp at hv; rcases hv with rfl | rfl | rfl | rfl <;> rfl) (by rw [yl_b]; simp) ?_
 intro t h6 g6 tn
 refine Sat.push g6 5 rfl (k := 1) (ns := [x.v]) yl_a yl_z rfl (by intro v hv; simp at hv; subst hv; rfl) (by rw [yl_b, tn]; simp) ?_
 intro u h7 g7 un
 have g7 : Sat ([] ++ [Hw.was h, Hw.own 5 1 a (bc (be si.toNat 4)), Hw.own 5 1 b (bc (be di.toNat 4)), row z 5 [.int .u8 0, .int .u8 17], Hw.own 5 1 d (bc (be l.length 2)), Hw.own 32 1 u [a.v, b.v, Sl.v ⟨some (bk z), 2, 2⟩, d.v, x.v]]) h7 := g7
 have hx := g7.was 0 rfl
 refine hK h7 u [a, b, ⟨some (bk z), 2, 2⟩, d, x] hx ⟨?_, rfl, (g7.own 5 rfl).rdc, ?_⟩
 ·rw [un, tn]; rfl
 ·intro i t' l' e1 e2
  match i with
  | 0 => cases e1; cases e2; exact (g7.own 1 rfl).rdb
  | 1 => cases e1; cases e2; exact (g7.own 2 rfl).rdb
  | 2 => cases e1; cases e2; exact ⟨rfl, Nat.le_refl _, (g7.blk 3 rfl).rdc⟩
  | 3 => cases e1; cases e2; exact (g7.own 4 rfl).rdb
  | 4 => cases e1; cases e2; exact hr.ext hx
  | i + 5 => cases e1
def udpH (sp dp : Int) (sum : Nat) (data : List UInt8) : List UInt8 := be sp.toNat 2 ++ be dp.toNat 2 ++ be (8 + data.length) 2 ++ be sum 2 ++ data
def udpS (si di : Int) (b : List UInt8) : Nat := sum16 (overL si di b).flatten
def udpN (n : Nat) : Nat := if n = 0 then 65535 else n
def udpL (si di sp dp : Int) (data : List UInt8) : List UInt8 := udpH sp dp (udpN (udpS si di (udpH sp dp 0 data))) data
def udpE (sp dp : Int) (data : List UInt8) : Int := if sp < 0 ∨ 65535 < sp ∨ dp < 0 ∨ 65535 < dp then 1 else if dp = 0 then 120 else if 1472 < data.length then 2 else 0
theorem udpH_len {sp dp : Int} {n : Nat} {data : List UInt8} : (udpH sp dp n data).length = 8 + data.length := by simp [udpH, be_len]; omega
theorem sum16_lt (l : List UInt8) : sum16 l ≤ 65535 := by unfold sum16; omega
theorem c_uenc {si di sp dp : Int} {data : List UInt8} {x : Sl} {h : Hp} {K : Sl → Int → Hp → Prop} (h1 : 0 ≤ si ∧ si < 4294967296) (h2 : 0 ≤ di ∧ di < 4294967296) (hr : RdB h x data) (hdl : data.length ≤ 1099511627776)
  (hbad : udpE sp dp data ≠ 0 → ∀ h', Ext none' h h' → K ⟨none, 0, 0⟩ (udpE sp dp data) h') (hok : udpE sp dp data = 0 → ∀ h' y, NewO h h' 5 1 y (bc (udpL si di sp dp data)) → K y 0 h') :
  C15 si di sp dp x h K := by
 apply S15; unfold N15
 have hs0 : Sat ([] ++ [Hw.was h]) h := Sat.start
 refine hs0.nw ?_
 intro z h3 g0 _
 have g : Sat ([] ++ [Hw.was h, row z 34 [.int .i64 sp, .int .i64 dp, x.v]]) h3 := g0
 clear g0
 have was_ : ∀ {M : List Asn} {h' : Hp}, Sat ([] ++ (Hw.was h :: M)) h' → Ext none' h h' := fun g => g.was 0 rfl
 have xn := hr.n
 have go : 0 ≤ sp → sp ≤ 65535 → 0 < dp → dp ≤ 65535 → data.length ≤ 1472 → N15_j1 si di (some (bk z)) h3 fun y n h' => K y n h' := by
  intro k1 k2 k3 k4 k5
  have he : udpE sp dp data = 0 := by unfold udpE; rw [if_neg (by omega), if_neg (by omega), if_neg (by omega)]
  unfold N15_j1
  simp only [nn_some', add_bk]
  refine g.lL 1 rfl rfl ?_
  have e1 : IntKind.wrap .i64 (8 + ((x.n : Nat) : Int)) = ((8 + data.length : Nat) : Int) := by rw [wi64i (by omega) (by omega)]; omega
  rw [e1]
  refine g.mk (sz := 1) y_zl (by omega) (by omega) (by rw [y_b]; omega) (by omega) ?_
  intro y h4 yn yc g2
  rw [Int.toNat_natCast] at yn yc g2
  rw [y_zeros] at g2
  have g2 : Sat ([] ++ [Hw.was h, row z 34 [.int .i64 sp, .int .i64 dp, x.v], Hw.own 5 1 y (bc ([] ++ List.replicate (8 + data.length) 0))]) h4 := g2
  refine g2.lI 1 (k := 0) rfl rfl ?_
  rw [wu64i k1 (by omega)]
  refine c_put (w := 2) k1 (by omega) fun h5 p hp => ?_
  rw [put8_2] at hp
  have g5 := Sat.ext g2 hp.1
  refine cp_zero ?_
  refine Sat.putR g5 2 rfl rfl (by rw [be_len]; omega) y_a hp.2.1.rdb ?_
  intro h6 g6
  refine bd_nat (i := 2) (by omega) ?_
  refine Sat.lI g6 1 rfl rfl ?_
  rw [wu64i (by omega) (by omega)]
  refine c_put (w := 2) (by omega) (by omega) fun h7 q hq => ?_
  rw [put8_2] at hq
  have g7 := Sat.ext g6 hq.1
  refine Sat.putR g7 2 rfl (by rw [List.nil_append, be_len]) (by rw [be_len, be_len]; omega) y_a hq.2.1.rdb ?_
  intro h8 g8
  refine bd_nat (i := 4) (by omega) ?_
  rw [wu64i (by omega) (by omega)]
  refine c_put (w := 2) (by omega) (by omega) fun h9 r hr9 => ?_
  rw [put8_2, Int.toNat_natCast, yn] at hr9
  have g9 := Sat.ext g8 hr9.1
  refine Sat.putR g9 2 rfl (by rw [List.nil_append, List.length_append, be_len, be_len]) (by rw [be_len, be_len, be_len]; omega) y_a hr9.2.1.rdb ?_
  intro h10 g10
  refine bd_nat (i := 8) (by omega) ?_
  refine Sat.lL g10 1 rfl rfl ?_
  have g10 : Sat ([] ++ [Hw.was h, row z 34 [.int .i64 sp, .int .i64 dp, x.v], Hw.own 5 1 y (bc ((be sp.toNat 2 ++ be dp.toNat 2 ++ be (8 + data.length) 2 ++ be 0 2) ++ List.replicate data.length 0))]) h10 := by
   have e : (be sp.toNat 2 ++ be dp.toNat 2 ++ be (8 + data.length) 2 ++ be 0 2) ++ List.replicate data.length 0 = [] ++ be sp.toNat 2 ++ be dp.toNat 2 ++ be (8 + data.length) 2 ++ List.replicate (8 + data.length - (be sp.toNat 2).length - (be dp.toNat 2).length - (be (8 + data.length) 2).length) 0 := by
    rw [be_len, be_len, be_len, show 8 + data.length - 2 - 2 - 2 = 2 + data.length by omega, ← List.replicate_append_replicate, List.nil_append]
    simp only [List.append_assoc]
    rfl
   rw [e]; exact g10
  have hx : RdB h10 x data := hr.ext (was_ g10)
  refine Sat.putR g10 2 rfl (by simp [be_len]) (Nat.le_refl _) y_a hx ?_
  intro h11 g11
  have g11 : Sat ([] ++ [Hw.was h, row z 34 [.int .i64 sp, .int .i64 dp, x.v], Hw.own 5 1 y (bc (udpH sp dp 0 data))]) h11 := by
   have e : be sp.toNat 2 ++ be dp.toNat 2 ++ be (8 + data.length) 2 ++ be 0 2 ++ data ++ List.replicate (data.length - data.length) 0 = udpH sp dp 0 data := by
    rw [Nat.sub_self]; simp [udpH]
   rw [← e]; exact g11
  refine c_over h1 h2 (g11.own 2 rfl).rdb (by rw [udpH_len]; omega) fun h12 s ts he12 hps => ?_
  have g12 := g11.ext he12
  refine c_sum hps ?_ ?_ ?_ ?_
  ·intro l hl
   simp only [overL, List.mem_cons, List.not_mem_nil, or_false] at hl
   rcases hl with rfl | rfl | rfl | rfl | rfl
   ·rw [be_len]; omega
   ·rw [be_len]; omega
   ·simp
   ·rw [be_len]; omega
   ·rw [udpH_len]; omega
  ·simp [overL, be_len, udpH_len]; omega
  ·simp [overL]
  ·have hS : sum16 (overL si di (udpH sp dp 0 data)).flatten = udpS si di (udpH sp dp 0 data) := rfl
   rw [hS]
   have hS2 : udpS si di (udpH sp dp 0 data) ≤ 65535 := sum16_lt _
   have eL : udpL si di sp dp data = udpH sp dp (udpN (udpS si di (udpH sp dp 0 data))) data := rfl
   generalize udpS si di (udpH sp dp 0 data) = U at hS2 eL ⊢
   have fin : ∀ {n : Nat}, n ≤ 65535 → n = udpN U → N15_j2 y (n : Int) h12 fun y n h' => K y n h' := by
    intro n hn en
    unfold N15_j2
    refine bd_nat (i := 6) (by omega) ?_
    rw [wu64i (by omega) (by omega)]
    refine c_put (w := 2) (by omega) (by omega) fun h13 t ht => ?_
    rw [put8_2, Int.toNat_natCast] at ht
    have g13 := g12.ext ht.1
    have rt := ht.2.1.rdb
    have tn : t.n = 2 := by rw [rt.n, be_len]
    refine g13.cpAt (n := 2) (k := 6) (ns := bc (be n 2)) 2 rfl (by omega) y_a (fun G => by show G t.n = G 2; rw [tn]) (by omega) (fun G hG => rt.srcK (n := 2) (by rw [be_len]; omega) (by rw [List.take_of_length_le (by rw [be_len]; omega)]; exact hG)) (by simp [be_len]) bc_plain ?_
    intro h14 g14
    rw [← bc_take, ← bc_drop, ← bc_app, ← bc_app] at g14
    have e : (udpH sp dp 0 data).take 6 ++ be n 2 ++ (udpH sp dp 0 data).drop (6 + 2) = udpL si di sp dp data := by
     have e0 : udpH sp dp 0 data = (be sp.toNat 2 ++ be dp.toNat 2 ++ be (8 + data.length) 2) ++ (be 0 2 ++ data) := by simp [udpH]
     have l6 : (be sp.toNat 2 ++ be dp.toNat 2 ++ be (8 + data.length) 2).length = 6 := by simp [be_len]
     rw [eL, ← en]
     have e1 : (udpH sp dp 0 data).take 6 = be sp.toNat 2 ++ be dp.toNat 2 ++ be (8 + data.length) 2 := by rw [e0]; exact List.take_left' l6
     have e2 : (udpH sp dp 0 data).drop (6 + 2) = data := by
      rw [← List.drop_drop, e0, List.drop_left' l6]
      exact List.drop_left' (by rw [be_len])
     rw [e1, e2]
     simp [udpH]
    rw [e] at g14
    exact hok he _ _ (Sat.newO g14 0 2 rfl rfl (by omega))
   by_cases h0 : U = 0
   ·subst h0
    rw [show (((0 : Nat) : Int) == 0) = true from rfl, cond_true]
    exact fin (n := 65535) (by omega) rfl
   ·rw [show (((U : Nat) : Int) == 0) = false by simp; omega, cond_false]
    exact fin hS2 (by unfold udpN; rw [if_neg h0])
 have bad : ∀ {e : Int} {h' : Hp}, udpE sp dp data = e → e ≠ 0 → Ext none' h h' → K ⟨none, 0, 0⟩ e h' := by
  rintro e h' rfl hne he; exact hbad hne h' he
 have arg : (sp < 0 ∨ 65535 < sp ∨ dp < 0 ∨ 65535 < dp) → udpE sp dp data = 1 := fun q => by unfold udpE; rw [if_pos q]
 simp only [add_bk]
 unfold N15_j0
 simp only [cond_true]
 refine g.lI 1 (k := 0) rfl rfl ?_
 by_cases k1 : sp < 0
 ·rw [show decide (sp < 0) = true from decide_eq_true k1, cond_true]
  exact bad (arg (.inl k1)) (by decide) (was_ g)
 ·rw [show decide (sp < 0) = false from decide_eq_false k1, cond_false]
  refine g.lI 1 (k := 0) rfl rfl ?_
  by_cases k2 : sp > 65535
  ·rw [show decide (sp > 65535) = true from decide_eq_true k2, cond_true]
   exact bad (arg (.inr (.inl k2))) (by decide) (was_ g)
  ·rw [show decide (sp > 65535) = false from decide_eq_false k2, cond_false]
   refine g.lI 1 rfl rfl ?_
   by_cases k3 : dp < 0
   ·rw [show decide (dp < 0) = true from decide_eq_true k3, cond_true]
    exact bad (arg (.inr (.inr (.inl k3)))) (by decide) (was_ g)
   ·rw [show decide (dp < 0) = false from decide_eq_false k3, cond_false]
    refine g.lI 1 rfl rfl ?_
    by_cases k4 : dp > 65535
    ·rw [show decide (dp > 65535) = true from decide_eq_true k4, cond_true]
     exact bad (arg (.inr (.inr (.inr k4)))) (by decide) (was_ g)
    ·rw [show decide (dp > 65535) = false from decide_eq_false k4, cond_false]
     simp only [nn_some', add_bk]
     refine g.lI 1 rfl rfl ?_
     by_cases k5 : dp = 0
     ·rw [show (dp == 0) = true by simp [k5], cond_true]
      exact bad (by unfold udpE; rw [if_neg (by omega), if_pos k5]) (by decide) (was_ g)
     ·rw [show (dp == 0) = false by simp [k5], cond_false]
      refine g.lL 1 rfl rfl ?_
      by_cases k6 : 1472 < data.length
      ·rw [show decide (((x.n : Nat) : Int) > 1472) = true from decide_eq_true (by omega), cond_true]
       exact bad (by unfold udpE; rw [if_neg (by omega), if_neg k5, if_pos k6]) (by decide) (was_ g)
      ·rw [show decide (((x.n : Nat) : Int) > 1472) = false from decide_eq_false (by omega), cond_false]
       exact go (by omega) (by omega) (by omega) (by omega) (by omega)
end Go.Proofs.YtbbnpmikjdgdpaaGreat

set_option linter.unusedVariables false
set_option maxRecDepth 100000
namespace Go.Proofs.YtbbnpmikjdgdpaaGreat
open Go Go.Hw
noncomputable def B69 : Code := match Tryz.f69.body with | some c => c | none => .skip
def N69_j1 (x5 x6 : Option Addr) (x8 : Value) (x9 : Int) (x27 : Bool) (h : Hp) (Kn : Hp → Prop) (Kr : Int → Hp → Prop) : Prop :=
 bif x27 then
 nn x6 fun a0 =>
 st h a0 (.int .i64 0) fun h0 =>
 st h0 (a0.add 1) (.int .i64 0) fun h1 =>
 st h1 (a0.add 2) (.slice none 0 0) fun h2 =>
 Kr 93 h2
 else
 HCallV Tryz.prog E (x8) [.int .i64 2] h fun v0 h3 =>
 xI .i64 (some v0) fun n0 =>
 bif (n0 == 0) then
 nn x6 fun a1 =>
 st h3 a1 (.int .i64 0) fun h4 =>
 st h4 (a1.add 1) (.int .i64 0) fun h5 =>
 st h5 (a1.add 2) (.slice none 0 0) fun h6 =>
 Kr 120 h6
 else
 Kn h3
noncomputable def N69_j1_t : Xf := pieceT [(5, .c (.ptr)), (6, .c (.ptr)), (8, .c (.any)), (9, .c (.int .i64)), (27, .c (.bool))] (codeAt B69 [1, 1, 1, 1, 0, 0, 1, 1, 1]) fun x h Q => N69_j1 x.1 x.2.1 x.2.2.1 x.2.2.2.1 x.2.2.2.2 h (fun h' => Q .normal (Sg.env [] ()) h') (fun o0 h' => Q .ret (Sg.env [(7, .c (.int .i64))] o0) h')
theorem N69_j1_ok : Sound Tryz.prog Tryz.f69.ntmps N69_j1_t (codeAt B69 [1, 1, 1, 1, 0, 0, 1, 1, 1]) := by
 refine piece_sound (fun e => match e with | .normal => [] | .ret => [7] | _ => []) ?_
 intro x h Q hb
 refine den_sound hE hm _ .leaf _ _ _ (annOk_leaf) ?_
 refine cast ?_ hb
 kernel_rfl
def N69_j0 (x0 x1 : Int) (x5 x6 : Option Addr) (x8 : Value) (x9 : Int) (x17 : Bool) (h : Hp) (Kn : Hp → Prop) (Kr : Int → Hp → Prop) : Prop :=
 bif x17 then
 nn x6 fun a0 =>
 st h a0 (.int .i64 0) fun h0 =>
 st h0 (a0.add 1) (.int .i64 0) fun h1 =>
 st h1 (a0.add 2) (.slice none 0 0) fun h2 =>
 Kr 92 h2
 else
 HCallV Tryz.prog E (x8) [.int .i64 6] h fun v0 h3 =>
 xI .i64 (some v0) fun n0 =>
 bif (n0 != 0) then
 nn x5 fun a1 =>
 xL (cell h3 a1) fun s0 =>
 bd x9 s0.c fun k0 =>
 C33 x0 x1 ⟨sadr s0.p s0.c 0 1, k0, s0.c⟩ h3 fun s1 h4 =>
 C32 s1 h4 fun n1 h5 =>
 N69_j1 x5 x6 x8 x9 (n1 != 0) h5
 (fun h6 =>
 Kn h6)
 (fun n2 h7 =>
 Kr n2 h7)
 else
 N69_j1 x5 x6 x8 x9 false h3
 (fun h8 =>
 Kn h8)
 (fun n3 h9 =>
 Kr n3 h9)
noncomputable def N69_j0_t : Xf := pieceT [(0, .c (.int .u32)), (1, .c (.int .u32)), (5, .c (.ptr)), (6, .c (.ptr)), (8, .c (.any)), (9, .c (.int .i64)), (17, .c (.bool))] (codeAt B69 [1, 1, 1, 1, 0, 0, 1]) fun x h Q => N69_j0 x.1 x.2.1 x.2.2.1 x.2.2.2.1 x.2.2.2.2.1 x.2.2.2.2.2.1 x.2.2.2.2.2.2 h (fun h' => Q .normal (Sg.env [] ()) h') (fun o0 h' => Q .ret (Sg.env [(7, .c (.int .i64))] o0) h')
theorem N69_j0_ok : Sound Tryz.prog Tryz.f69.ntmps N69_j0_t (codeAt B69 [1, 1, 1, 1, 0, 0, 1]) := by
 refine piece_sound (fun e => match e with | .normal => [] | .ret => [7] | _ => []) ?_
 intro x h Q hb
 refine den_sound hE hm _ (.two .leaf (.two .leaf (.xf N69_j1_t))) _ _ _ (⟨annOk_leaf, ⟨annOk_leaf, N69_j1_ok⟩⟩) ?_
 refine cast ?_ hb
 kernel_rfl
def N69_j2 (x5 x6 : Option Addr) (x8 : Value) (x9 : Int) (h : Hp) (Kr : Int → Hp → Prop) : Prop :=
 nn x5 fun a0 =>
 xL (cell h a0) fun s0 =>
 bd x9 s0.c fun k0 =>
 bd 8 k0 fun k1 =>
 HCallV Tryz.prog E (x8) [.int .i64 0] h fun v0 h0 =>
 xI .i64 (some v0) fun n0 =>
 both (nn x5 fun a1 => xL (cell h0 a1) fun s1 => Only (.slice s0.p s0.n s0.c) h0 (.slice s1.p s1.n s1.c) h0) <|
 HCallV Tryz.prog E (x8) [.int .i64 2] h0 fun v1 h1 =>
 xI .i64 (some v1) fun n1 =>
 both (nn x5 fun a2 => xL (cell h1 a2) fun s2 => Only (.slice s0.p s0.n s0.c) h1 (.slice s2.p s2.n s2.c) h1) <|
 apK Tryz.prog 5 ⟨none, 0, 0⟩ (.slice (sadr s0.p s0.c k1 1) (k0 - k1) (s0.c - k1)) h1 fun s3 h2 =>
 nn x6 fun a3 =>
 st h2 a3 (.int .i64 n0) fun h3 =>
 st h3 (a3.add 1) (.int .i64 n1) fun h4 =>
 st h4 (a3.add 2) (.slice s3.p s3.n s3.c) fun h5 =>
 Kr 0 h5
noncomputable def N69_j2_t : Xf := pieceT [(5, .c (.ptr)), (6, .c (.ptr)), (8, .c (.any)), (9, .c (.int .i64))] (codeAt B69 [1, 1, 1, 1, 1]) fun x h Q => N69_j2 x.1 x.2.1 x.2.2.1 x.2.2.2 h (fun o0 h' => Q .ret (Sg.env [(7, .c (.int .i64))] o0) h')
theorem N69_j2_ok : Sound Tryz.prog Tryz.f69.ntmps N69_j2_t (codeAt B69 [1, 1, 1, 1, 1]) := by
 refine piece_sound (fun e => match e with | .ret => [7] | _ => []) ?_
 intro x h Q hb
 refine den_sound hE hm _ (.two (.ord [0, 2, 4, 5, 6, 1, 3, 7, 8, 9, 10]) .leaf) _ _ _ (⟨trivial, annOk_leaf⟩) ?_
 refine cast ?_ hb
 kernel_rfl
def N69 (x0 x1 : Int) (x2 : Sl) (h : Hp) (K : Int → Int → Sl → Int → Hp → Prop) : Prop :=
 nw h (.cells ⟨[.slice x2.p x2.n x2.c]⟩ 32) fun b0 h0 =>
 nw h0 (.cells ⟨[.int .i64 0, .int .i64 0, .slice none 0 0]⟩ 34) fun b1 h1 =>
 xL (cell h1 (bk b0)) fun s0 =>
 bif (decide (((s0.n : Nat) : Int) < 8)) then
 st h1 (bk b1) (.int .i64 0) fun h2 =>
 st h2 ((bk b1).add 1) (.int .i64 0) fun h3 =>
 st h3 ((bk b1).add 2) (.slice none 0 0) fun h4 =>
 xI .i64 (cell h4 (bk b1)) fun n0 =>
 xI .i64 (cell h4 ((bk b1).add 1)) fun n1 =>
 xL (cell h4 ((bk b1).add 2)) fun s1 =>
 K n0 n1 s1 5 h4
 else
 C86 4 (some (bk b0)) h1 fun n2 h5 =>
 bif (decide (n2 < 8)) then
 N69_j0 x0 x1 (some (bk b0)) (some (bk b1)) (.func (.func 86) ⟨[]⟩ ⟨[.pointer (some (bk b0))]⟩) n2 true h5
 (fun h6 =>
 N69_j2 (some (bk b0)) (some (bk b1)) (.func (.func 86) ⟨[]⟩ ⟨[.pointer (some (bk b0))]⟩) n2 h6
 (fun n3 h7 =>
 xI .i64 (cell h7 (bk b1)) fun n4 =>
 xI .i64 (cell h7 ((bk b1).add 1)) fun n5 =>
 xL (cell h7 ((bk b1).add 2)) fun s2 =>
 K n4 n5 s2 n3 h7))
 (fun n6 h8 =>
 xI .i64 (cell h8 (bk b1)) fun n7 =>
 xI .i64 (cell h8 ((bk b1).add 1)) fun n8 =>
 xL (cell h8 ((bk b1).add 2)) fun s3 =>
 K n7 n8 s3 n6 h8)
 else
 xL (cell h5 (bk b0)) fun s4 =>
 N69_j0 x0 x1 (some (bk b0)) (some (bk b1)) (.func (.func 86) ⟨[]⟩ ⟨[.pointer (some (bk b0))]⟩) n2 (decide (n2 > ((s4.n : Nat) : Int))) h5
 (fun h9 =>
 N69_j2 (some (bk b0)) (some (bk b1)) (.func (.func 86) ⟨[]⟩ ⟨[.pointer (some (bk b0))]⟩) n2 h9
 (fun n9 h10 =>
 xI .i64 (cell h10 (bk b1)) fun n10 =>
 xI .i64 (cell h10 ((bk b1).add 1)) fun n11 =>
 xL (cell h10 ((bk b1).add 2)) fun s5 =>
 K n10 n11 s5 n9 h10))
 (fun n12 h11 =>
 xI .i64 (cell h11 (bk b1)) fun n13 =>
 xI .i64 (cell h11 ((bk b1).add 1)) fun n14 =>
 xL (cell h11 ((bk b1).add 2)) fun s6 =>
 K n13 n14 s6 n12 h11)
theorem S69 {x0 x1 : Int} {x2 : Sl} {h : Hp} {K : Int → Int → Sl → Int → Hp → Prop} (hn : N69 x0 x1 x2 h K) : C69 x0 x1 x2 h K := by
 refine calls_of_M Tryz.func69 (c := B69) rfl (by kernel_rfl) ?_
 refine den_sound hE hm _ (.two .leaf (.two .leaf (.two .leaf (.two .leaf (.two (.one (.two .leaf (.xf N69_j0_t))) (.xf N69_j2_t)))))) _ _ _ (⟨annOk_leaf, ⟨annOk_leaf, ⟨annOk_leaf, ⟨annOk_leaf, ⟨⟨annOk_leaf, N69_j0_ok⟩, N69_j2_ok⟩⟩⟩⟩⟩) ?_
 refine cast ?_ hn
 kernel_rfl
end Go.Proofs.YtbbnpmikjdgdpaaGreat

set_option linter.unusedVariables false
set_option maxRecDepth 100000
namespace Go.Proofs.YtbbnpmikjdgdpaaGreat
open Go Go.Hw
noncomputable def B86 : Code := match Tryz.f86.body with | some c => c | none => .skip
def N86 (x0 : Int) (x1 : Option Addr) (h : Hp) (K : Int → Hp → Prop) : Prop :=
 nn x1 fun a0 =>
 xL (cell h a0) fun s0 =>
 C79 s0 x0 2 h fun n0 n1 h0 =>
 K (IntKind.wrap .i64 n0) h0
theorem S86 {x0 : Int} {x1 : Option Addr} {h : Hp} {K : Int → Hp → Prop} (hn : N86 x0 x1 h K) : C86 x0 x1 h K := by
 refine calls_of_D Tryz.func86 (c := B86) rfl (by kernel_rfl) ?_
 refine den_sound hE hm _ .leaf _ _ _ (annOk_leaf) ?_
 refine cast ?_ hn
 kernel_rfl
end Go.Proofs.YtbbnpmikjdgdpaaGreat

/-
 Datagrams: Decode.
-/
set_option linter.unusedSimpArgs false
set_option linter.unusedVariables false
set_option maxRecDepth 20000
namespace Go.Proofs.YtbbnpmikjdgdpaaGreat
open Go Go.Hw
theorem c_unum {b : Nat} {a : Int} {x : Sl} {l : List UInt8} {h : Hp} {K : Int → Hp → Prop} (hc : cell h ⟨b, 0, none⟩ = some x.v) (hr : RdB h x l) (hl : l.length ≤ 140737488355328) (hK : K ((getV l a 2 : Nat) : Int) h) : C86 a (some (bk b)) h K := by
 apply S86; unfold N86
 rw [nn_some']
 refine xL_of hc ?_
 refine c_get hr hl ?_
 have := getV2_lt l a
 rw [wi64i (by omega) (by omega)]
 exact hK
theorem c_unumV {b : Nat} {a : Int} {x : Sl} {l : List UInt8} {h : Hp} {K : Int → Hp → Prop} (hc : cell h ⟨b, 0, none⟩ = some x.v) (hr : RdB h x l) (hl : l.length ≤ 140737488355328) (hK : K ((getV l a 2 : Nat) : Int) h) :
  HCallV Tryz.prog E (.func (.func 86) ⟨[]⟩ ⟨[.pointer (some (bk b))]⟩) [.int .i64 a] h fun v h' => xI .i64 (some v) fun n => K n h' := by
 have := c_unum (a := a) hc hr hl hK
 exact this
def udpDE (si di : Int) (l : List UInt8) : Int :=
 if l.length < 8 then 5 else if getV l 4 2 < 8 ∨ l.length < getV l 4 2 then 92 else if getV l 6 2 ≠ 0 ∧ udpS si di (l.take (getV l 4 2)) ≠ 0 then 93 else if getV l 2 2 = 0 then 120 else 0
def udpD (l : List UInt8) : List UInt8 := (l.drop 8).take (getV l 4 2 - 8)
theorem c_udec {si di : Int} {l : List UInt8} {x : Sl} {h : Hp} {K : Int → Int → Sl → Int → Hp → Prop} (h1 : 0 ≤ si ∧ si < 4294967296) (h2 : 0 ≤ di ∧ di < 4294967296) (hr : RdB h x l) (hl : l.length ≤ 1099511627776)
  (hbad : udpDE si di l ≠ 0 → ∀ h', Ext none' h h' → K 0 0 ⟨none, 0, 0⟩ (udpDE si di l) h') (hok : udpDE si di l = 0 → ∀ h' y, NewO h h' 5 1 y (bc (udpD l)) → K (getV l 0 2) (getV l 2 2) y 0 h') :
  C69 si di x h K := by
 apply S69; unfold N69
 have hs0 : Sat ([] ++ [Hw.was h]) h := Sat.start
 refine hs0.nw ?_
 intro z h3 g0 _
 refine Sat.nw g0 ?_
 intro w h4 g1 _
 have g : Sat ([] ++ [Hw.was h, row z 32 [x.v], row w 34 [.int .i64 0, .int .i64 0, .slice none 0 0]]) h4 := g1
 clear g0 g1
 have was_ : ∀ {M : List Asn} {h' : Hp}, Sat ([] ++ (Hw.was h :: M)) h' → Ext none' h h' := fun g => g.was 0 rfl
 have xn := hr.n
 have xc := hr.c
 have lt2 := fun a => getV2_lt l a
 have rd : ∀ {h' : Hp} {M : List Asn}, Sat ([] ++ (Hw.was h :: M)) h' → RdB h' x l := fun g => hr.ext (was_ g)
 have zc : ∀ {h' : Hp} {M : List Asn}, Sat ([] ++ (Hw.was h :: row z 32 [x.v] :: M)) h' → cell h' ⟨z, 0, none⟩ = some x.v := fun g => by have := g.blk 1 rfl; rw [this.cell]; rfl
 -- an error
 have err : ∀ {e : Int} {h' : Hp}, udpDE si di l = e → e ≠ 0 → Sat ([] ++ [Hw.was h, row z 32 [x.v], row w 34 [.int .i64 0, .int .i64 0, .slice none 0 0]]) h' →
   st h' ⟨w, 0, none⟩ (.int .i64 0) fun h5 => st h5 ⟨w, 1, none⟩ (.int .i64 0) fun h6 => st h6 ⟨w, 2, none⟩ (.slice none 0 0) fun h7 => xI .i64 (cell h7 ⟨w, 0, none⟩) fun a => xI .i64 (cell h7 ⟨w, 1, none⟩) fun b => xL (cell h7 ⟨w, 2, none⟩) fun s => K a b s e h7 := by
  rintro e h' rfl hne hs
  repeat (first | (refine Sat.nw hs ?_; intro _ _ hs _; simp only [List.cons_append, List.nil_append] at hs) | (refine Sat.st hs 0 rfl (by simp) rfl ?_; intro _ hs; simp only [List.set_cons_zero, List.set_cons_succ] at hs) | (refine Sat.st hs 1 rfl (by simp) rfl ?_; intro _ hs; simp only [List.set_cons_zero, List.set_cons_succ] at hs) | (refine Sat.st hs 2 rfl (by simp) rfl ?_; intro _ hs; simp only [List.set_cons_zero, List.set_cons_succ] at hs) | (refine Sat.lI hs 0 rfl rfl ?_) | (refine Sat.lI hs 1 rfl rfl ?_) | (refine Sat.lI hs 2 rfl rfl ?_) | (refine Sat.lL hs 0 rfl rfl ?_) | (refine Sat.lL hs 1 rfl rfl ?_) | (refine Sat.lL hs 2 rfl rfl ?_) | (refine Sat.lP hs 0 rfl rfl ?_) | (refine Sat.lP hs 1 rfl rfl ?_) | (refine Sat.lP hs 2 rfl rfl ?_) | (refine Sat.lB hs 0 rfl rfl ?_) | (refine Sat.lB hs 1 rfl rfl ?_) | (refine Sat.lB hs 2 rfl rfl ?_) | (refine Sat.lS hs 0 rfl rfl ?_) | (refine Sat.lS hs 1 rfl rfl ?_) | (refine Sat.lS hs 2 rfl rfl ?_) | (refine Sat.lM hs 0 rfl rfl ?_) | (refine Sat.lM hs 1 rfl rfl ?_) | (refine Sat.lM hs 2 rfl rfl ?_) | (refine Sat.lA hs 0 rfl rfl ?_) | (refine Sat.lA hs 1 rfl rfl ?_) | (refine Sat.lA hs 2 rfl rfl ?_) | (simp only [nn_some', add_bk]))
  exact hbad hne _ (was_ hs)
 have hS : ∀ {ps : List (List UInt8)}, ps = overL si di (l.take (getV l 4 2)) → (∀ q ∈ ps, q.length ≤ 140737488355328) ∧ ps.flatten.length ≤ 4611686018427387904 ∧ ps.length ≤ 4611686018427387904 := by
  rintro ps rfl
  have tl : (l.take (getV l 4 2)).length ≤ 65535 := by rw [List.length_take]; have := lt2 4; omega
  refine ⟨?_, ?_, by simp [overL]⟩
  ·intro q hq
   simp only [overL, List.mem_cons, List.not_mem_nil, or_false] at hq
   rcases hq with rfl | rfl | rfl | rfl | rfl
   ·rw [be_len]; omega
   ·rw [be_len]; omega
   ·simp
   ·rw [be_len]; omega
   ·omega
  ·simp [overL, be_len] at tl ⊢; omega
 -- all is well
 have good : ∀ {h' : Hp}, udpDE si di l = 0 → 8 ≤ getV l 4 2 → getV l 4 2 ≤ l.length → Sat ([] ++ [Hw.was h, row z 32 [x.v], row w 34 [.int .i64 0, .int .i64 0, .slice none 0 0]]) h' →
   N69_j2 (some (bk z)) (some (bk w)) (.func (.func 86) ⟨[]⟩ ⟨[.pointer (some (bk z))]⟩) ((getV l 4 2 : Nat) : Int) h' fun n h7 => xI .i64 (cell h7 (bk w)) fun a => xI .i64 (cell h7 ⟨w, 1, none⟩) fun b => xL (cell h7 ⟨w, 2, none⟩) fun s => K a b s n h7 := by
  intro h' he q1 q2 g
  unfold N69_j2
  simp only [nn_some', add_bk]
  refine g.lL 1 (k := 0) rfl rfl ?_
  refine bd_nat (i := getV l 4 2) (show getV l 4 2 ≤ x.c by omega) ?_
  refine bd_nat (i := 8) (by omega) ?_
  refine c_unumV (zc g) (rd g) (by omega) ?_
  refine ⟨g.lL 1 (k := 0) rfl rfl ⟨rfl, rfl⟩, ?_⟩
  refine c_unumV (zc g) (rd g) (by omega) ?_
  refine ⟨g.lL 1 (k := 0) rfl rfl ⟨rfl, rfl⟩, ?_⟩
  have g2 := Sat.addNil 5 1 g
  have g2 : Sat ([] ++ [Hw.was h, row z 32 [x.v], row w 34 [.int .i64 0, .int .i64 0, .slice none 0 0], Hw.own 5 1 ⟨none, 0, 0⟩ (bc [])]) h' := g2
  have r1 : RdB h' ⟨sadr x.p x.c 8 1, getV l 4 2 - 8, x.c - 8⟩ (udpD l) := by
   have := (rd g).sub (lo := 8) (hi := getV l 4 2) q1 (by omega)
   exact this
  have dl : (udpD l).length = getV l 4 2 - 8 := r1.n.symm
  refine g2.ap 3 rfl y_a y_zl (n := getV l 4 2 - 8) (ns := bc (udpD l)) (fun _ => rfl) (fun G hG => r1.srcK (n := getV l 4 2 - 8) (by omega) (by rw [List.take_of_length_le (by omega)]; exact hG)) (by rw [bc_len]; omega) bc_plain ?_ ?_
  ·rw [y_b]
   have := lt2 4
   show (0 + (getV l 4 2 - 8)) * 2 * 1 ≤ _
   omega
  ·intro y h8 g3 yn
   have hs := g3
   refine Sat.st hs 2 (k := 0) rfl (by simp) rfl fun h9 hs => ?_
   simp only [List.set_cons_zero, List.set_cons_succ] at hs
   refine Sat.st hs 2 rfl (by simp) rfl fun h9 hs => ?_
   simp only [List.set_cons_zero, List.set_cons_succ] at hs
   refine Sat.st hs 2 rfl (by simp) rfl fun h9 hs => ?_
   simp only [List.set_cons_zero, List.set_cons_succ] at hs
   refine Sat.lI hs 2 (k := 0) rfl rfl ?_
   refine Sat.lI hs 2 rfl rfl ?_
   refine Sat.lL hs 2 rfl rfl ?_
   have g4 : Sat ([] ++ [Hw.was h, Hw.own 5 1 y (bc (udpD l))]) h9 := hs.sel [0, 3] (by decide) rfl
   exact hok he _ _ (Sat.newO g4 0 1 rfl rfl (by omega))
 -- behind the sum
 have j1 : ∀ {h' : Hp}, 8 ≤ l.length → ¬(getV l 4 2 < 8 ∨ l.length < getV l 4 2) → ¬(getV l 6 2 ≠ 0 ∧ udpS si di (l.take (getV l 4 2)) ≠ 0) → Sat ([] ++ [Hw.was h, row z 32 [x.v], row w 34 [.int .i64 0, .int .i64 0, .slice none 0 0]]) h' →
   N69_j1 (some (bk z)) (some (bk w)) (.func (.func 86) ⟨[]⟩ ⟨[.pointer (some (bk z))]⟩) ((getV l 4 2 : Nat) : Int) false h' (fun h6 => N69_j2 (some (bk z)) (some (bk w)) (.func (.func 86) ⟨[]⟩ ⟨[.pointer (some (bk z))]⟩) ((getV l 4 2 : Nat) : Int) h6 fun n h7 => xI .i64 (cell h7 (bk w)) fun a => xI .i64 (cell h7 ⟨w, 1, none⟩) fun b => xL (cell h7 ⟨w, 2, none⟩) fun s => K a b s n h7)
    (fun n h7 => xI .i64 (cell h7 (bk w)) fun a => xI .i64 (cell h7 ⟨w, 1, none⟩) fun b => xL (cell h7 ⟨w, 2, none⟩) fun s => K a b s n h7) := by
  intro h' q1 q2 q3 g
  unfold N69_j1
  rw [cond_false]
  refine c_unumV (zc g) (rd g) (by omega) ?_
  by_cases q4 : getV l 2 2 = 0
  ·rw [q4, show (((0 : Nat) : Int) == 0) = true from rfl, cond_true]
   simp only [nn_some', add_bk]
   exact err (by unfold udpDE; rw [if_neg (by omega), if_neg q2, if_neg q3, if_pos q4]) (by decide) g
  ·rw [show (((getV l 2 2 : Nat) : Int) == 0) = false by simp; omega, cond_false]
   exact good (by unfold udpDE; rw [if_neg (by omega), if_neg q2, if_neg q3, if_neg q4]) (by omega) (by omega) g
 have j0 : ∀ {h' : Hp}, 8 ≤ l.length → ¬(getV l 4 2 < 8 ∨ l.length < getV l 4 2) → Sat ([] ++ [Hw.was h, row z 32 [x.v], row w 34 [.int .i64 0, .int .i64 0, .slice none 0 0]]) h' →
   N69_j0 si di (some (bk z)) (some (bk w)) (.func (.func 86) ⟨[]⟩ ⟨[.pointer (some (bk z))]⟩) ((getV l 4 2 : Nat) : Int) false h' (fun h6 => N69_j2 (some (bk z)) (some (bk w)) (.func (.func 86) ⟨[]⟩ ⟨[.pointer (some (bk z))]⟩) ((getV l 4 2 : Nat) : Int) h6 fun n h7 => xI .i64 (cell h7 (bk w)) fun a => xI .i64 (cell h7 ⟨w, 1, none⟩) fun b => xL (cell h7 ⟨w, 2, none⟩) fun s => K a b s n h7)
    (fun n h7 => xI .i64 (cell h7 (bk w)) fun a => xI .i64 (cell h7 ⟨w, 1, none⟩) fun b => xL (cell h7 ⟨w, 2, none⟩) fun s => K a b s n h7) := by
  intro h' q1 q2 g
  unfold N69_j0
  rw [cond_false]
  refine c_unumV (zc g) (rd g) (by omega) ?_
  by_cases q3 : getV l 6 2 = 0
  ·rw [q3, show (((0 : Nat) : Int) != 0) = false from rfl, cond_false]
   exact j1 q1 q2 (fun q => q.1 q3) g
  ·rw [show (((getV l 6 2 : Nat) : Int) != 0) = true by simp; omega, cond_true]
   simp only [nn_some']
   refine g.lL 1 (k := 0) rfl rfl ?_
   refine bd_nat (i := getV l 4 2) (show getV l 4 2 ≤ x.c by omega) ?_
   have r1 : RdB h' ⟨sadr x.p x.c 0 1, getV l 4 2, x.c⟩ (l.take (getV l 4 2)) := by
    have := (rd g).sub (lo := 0) (hi := getV l 4 2) (by omega) (by omega)
    exact this
   refine c_over h1 h2 r1 (by rw [List.length_take]; omega) fun h5 s ts he5 hps => ?_
   obtain ⟨p1, p2, p3⟩ := hS rfl
   refine c_sum hps p1 p2 p3 ?_
   have g5 := g.ext he5
   have hU : sum16 (overL si di (l.take (getV l 4 2))).flatten = udpS si di (l.take (getV l 4 2)) := rfl
   rw [hU]
   have n0 : udpS si di (l.take (getV l 4 2)) = 0 → ¬(getV l 6 2 ≠ 0 ∧ udpS si di (l.take (getV l 4 2)) ≠ 0) := fun e q => q.2 e
   have n1 : udpS si di (l.take (getV l 4 2)) ≠ 0 → udpDE si di l = 93 := fun e => by unfold udpDE; rw [if_neg (by omega), if_neg q2, if_pos ⟨q3, e⟩]
   have j1' := fun e => j1 q1 q2 (n0 e) g5
   generalize udpS si di (l.take (getV l 4 2)) = U at n1 j1' ⊢
   by_cases q4 : U = 0
   ·rw [q4, show (((0 : Nat) : Int) != 0) = false from rfl]
    exact j1' q4
   ·rw [show (((U : Nat) : Int) != 0) = true by simp; omega]
    unfold N69_j1
    rw [cond_true]
    simp only [nn_some', add_bk]
    exact err (n1 q4) (by decide) g5
 simp only [add_bk]
 refine g.lL 1 (k := 0) rfl rfl ?_
 by_cases k1 : l.length < 8
 ·rw [show decide (((x.n : Nat) : Int) < 8) = true from decide_eq_true (by omega), cond_true]
  exact err (by unfold udpDE; rw [if_pos k1]) (by decide) g
 ·rw [show decide (((x.n : Nat) : Int) < 8) = false from decide_eq_false (by omega), cond_false]
  refine c_unum (zc g) (rd g) (by omega) ?_
  have bad : ∀ {Kn : Hp → Prop}, (getV l 4 2 < 8 ∨ l.length < getV l 4 2) → N69_j0 si di (some (bk z)) (some (bk w)) (.func (.func 86) ⟨[]⟩ ⟨[.pointer (some (bk z))]⟩) ((getV l 4 2 : Nat) : Int) true h4 Kn (fun n h7 => xI .i64 (cell h7 (bk w)) fun a => xI .i64 (cell h7 ⟨w, 1, none⟩) fun b => xL (cell h7 ⟨w, 2, none⟩) fun s => K a b s n h7) := by
   intro Kn q
   unfold N69_j0
   rw [cond_true]
   simp only [nn_some', add_bk]
   exact err (by unfold udpDE; rw [if_neg k1, if_pos q]) (by decide) g
  by_cases k2 : getV l 4 2 < 8
  ·rw [show decide (((getV l 4 2 : Nat) : Int) < 8) = true from decide_eq_true (by omega), cond_true]
   exact bad (.inl k2)
  ·rw [show decide (((getV l 4 2 : Nat) : Int) < 8) = false from decide_eq_false (by omega), cond_false]
   refine g.lL 1 (k := 0) rfl rfl ?_
   by_cases k3 : l.length < getV l 4 2
   ·rw [show decide (((getV l 4 2 : Nat) : Int) > ((x.n : Nat) : Int)) = true from decide_eq_true (by omega)]
    exact bad (.inr k3)
   ·rw [show decide (((getV l 4 2 : Nat) : Int) > ((x.n : Nat) : Int)) = false from decide_eq_false (by omega)]
    exact j0 (by omega) (by omega) g
end Go.Proofs.YtbbnpmikjdgdpaaGreat

set_option linter.unusedVariables false
set_option maxRecDepth 100000
namespace Go.Proofs.YtbbnpmikjdgdpaaGreat
open Go Go.Hw
noncomputable def B35 : Code := match Tryz.f35.body with | some c => c | none => .skip
def N35_j0 (x1 : Sl) (x2 : Option Addr) (x6 x7 : Int) (h : Hp) (Kr : Sl → Int → Hp → Prop) : Prop :=
 mkK Tryz.prog 5 x6 x6 h fun s0 h0 =>
 nn x2 fun a0 =>
 xI .i64 (cell h0 a0) fun n0 =>
 nn x2 fun a1 =>
 xI .i64 (cell h0 (a1.add 2)) fun n1 =>
 nn x2 fun a2 =>
 xI .i64 (cell h0 (a2.add 3)) fun n2 =>
 idx 0 s0.n <|
 nn s0.p fun a3 =>
 st h0 (a3.add ((0 : Int).toNat * 1)) (.int .u8 69) fun h1 =>
 both (Only (.int .u8 (IntKind.wrap .u8 n2)) h1 (.int .u8 (IntKind.wrap .u8 n2)) h1) <|
 both (xI .i64 (cell h1 (a2.add 3)) fun n3 => Only (.int .i64 n2) h1 (.int .i64 n3) h1) <|
 both (Only (.int .u8 (IntKind.wrap .u8 n1)) h1 (.int .u8 (IntKind.wrap .u8 n1)) h1) <|
 both (xI .i64 (cell h1 (a1.add 2)) fun n4 => Only (.int .i64 n1) h1 (.int .i64 n4) h1) <|
 both (Only (.int .u8 (IntKind.wrap .u8 n0)) h1 (.int .u8 (IntKind.wrap .u8 n0)) h1) <|
 both (xI .i64 (cell h1 a0) fun n5 => Only (.int .i64 n0) h1 (.int .i64 n5) h1) <|
 idx 1 s0.n <|
 nn s0.p fun a4 =>
 st h1 (a4.add ((1 : Int).toNat * 1)) (.int .u8 (IntKind.wrap .u8 n0)) fun h2 =>
 both (Only (.int .u8 (IntKind.wrap .u8 n2)) h2 (.int .u8 (IntKind.wrap .u8 n2)) h2) <|
 both (xI .i64 (cell h2 (a2.add 3)) fun n6 => Only (.int .i64 n2) h2 (.int .i64 n6) h2) <|
 both (Only (.int .u8 (IntKind.wrap .u8 n1)) h2 (.int .u8 (IntKind.wrap .u8 n1)) h2) <|
 both (xI .i64 (cell h2 (a1.add 2)) fun n7 => Only (.int .i64 n1) h2 (.int .i64 n7) h2) <|
 idx 8 s0.n <|
 nn s0.p fun a5 =>
 st h2 (a5.add ((8 : Int).toNat * 1)) (.int .u8 (IntKind.wrap .u8 n1)) fun h3 =>
 both (Only (.int .u8 (IntKind.wrap .u8 n2)) h3 (.int .u8 (IntKind.wrap .u8 n2)) h3) <|
 both (xI .i64 (cell h3 (a2.add 3)) fun n8 => Only (.int .i64 n2) h3 (.int .i64 n8) h3) <|
 idx 9 s0.n <|
 nn s0.p fun a6 =>
 st h3 (a6.add ((9 : Int).toNat * 1)) (.int .u8 (IntKind.wrap .u8 n2)) fun h4 =>
 bd 2 s0.n fun k0 =>
 C31 (IntKind.wrap .u64 x6) 2 h4 fun s1 h5 =>
 cpK Tryz.prog 5 ⟨sadr s0.p s0.c k0 1, s0.n - k0, s0.c - k0⟩ (.slice s1.p s1.n s1.c) h5 fun n9 h6 =>
 bd 4 s0.n fun k1 =>
 nn x2 fun a7 =>
 xI .i64 (cell h6 (a7.add 1)) fun n10 =>
 C31 (IntKind.wrap .u64 n10) 2 h6 fun s2 h7 =>
 cpK Tryz.prog 5 ⟨sadr s0.p s0.c k1 1, s0.n - k1, s0.c - k1⟩ (.slice s2.p s2.n s2.c) h7 fun n11 h8 =>
 bd 6 s0.n fun k2 =>
 C31 (IntKind.wrap .u64 x7) 2 h8 fun s3 h9 =>
 cpK Tryz.prog 5 ⟨sadr s0.p s0.c k2 1, s0.n - k2, s0.c - k2⟩ (.slice s3.p s3.n s3.c) h9 fun n12 h10 =>
 bd 12 s0.n fun k3 =>
 nn x2 fun a8 =>
 xI .u32 (cell h10 (a8.add 5)) fun n13 =>
 C31 (IntKind.wrap .u64 n13) 4 h10 fun s4 h11 =>
 cpK Tryz.prog 5 ⟨sadr s0.p s0.c k3 1, s0.n - k3, s0.c - k3⟩ (.slice s4.p s4.n s4.c) h11 fun n14 h12 =>
 bd 16 s0.n fun k4 =>
 nn x2 fun a9 =>
 xI .u32 (cell h12 (a9.add 6)) fun n15 =>
 C31 (IntKind.wrap .u64 n15) 4 h12 fun s5 h13 =>
 cpK Tryz.prog 5 ⟨sadr s0.p s0.c k4 1, s0.n - k4, s0.c - k4⟩ (.slice s5.p s5.n s5.c) h13 fun n16 h14 =>
 bd 10 s0.n fun k5 =>
 bd 20 s0.c fun k6 =>
 nw h14 (.cells ⟨[.slice (sadr s0.p s0.c 0 1) k6 s0.c]⟩ 32) fun b0 h15 =>
 C32 ⟨some (bk b0), 1, 1⟩ h15 fun n17 h16 =>
 C31 (IntKind.wrap .u64 n17) 2 h16 fun s6 h17 =>
 cpK Tryz.prog 5 ⟨sadr s0.p s0.c k5 1, s0.n - k5, s0.c - k5⟩ (.slice s6.p s6.n s6.c) h17 fun n18 h18 =>
 bd 20 s0.n fun k7 =>
 cpK Tryz.prog 5 ⟨sadr s0.p s0.c k7 1, s0.n - k7, s0.c - k7⟩ (.slice x1.p x1.n x1.c) h18 fun n19 h19 =>
 Kr s0 0 h19
noncomputable def N35_j0_t : Xf := pieceT [(1, .c (.slice)), (2, .c (.ptr)), (6, .c (.int .i64)), (7, .c (.int .i64))] (codeAt B35 [1, 1, 1, 1, 1, 1]) fun x h Q => N35_j0 x.1 x.2.1 x.2.2.1 x.2.2.2 h (fun o0 o1 h' => Q .ret (Sg.env [(4, .c (.slice)), (5, .c (.int .i64))] (o0, o1)) h')
theorem N35_j0_ok : Sound Tryz.prog Tryz.f35.ntmps N35_j0_t (codeAt B35 [1, 1, 1, 1, 1, 1]) := by
 refine piece_sound (fun e => match e with | .ret => [4, 5] | _ => []) ?_
 intro x h Q hb
 refine den_sound hE hm _ (.two .leaf (.two (.ord [0, 1, 2, 3, 4, 5, 6, 7, 8, 9, 10, 11, 12, 13, 14, 15, 16, 17, 18, 19, 20]) (.two (.ord [0, 1, 2, 3, 4, 5]) (.two (.ord [0, 1, 2, 3, 4, 5, 6]) (.two (.ord [0, 1, 2, 3, 4, 5]) (.two (.ord [0, 1, 2, 3, 4, 5, 6]) (.two (.ord [0, 1, 2, 3, 4, 5, 6]) (.two (.ord [0, 1, 2, 3, 4, 5, 6, 7, 8]) .leaf)))))))) _ _ _ (⟨annOk_leaf, ⟨trivial, ⟨trivial, ⟨trivial, ⟨trivial, ⟨trivial, ⟨trivial, ⟨trivial, annOk_leaf⟩⟩⟩⟩⟩⟩⟩⟩) ?_
 refine cast ?_ hb
 kernel_rfl
def N35 (x0_0 x0_1 x0_2 x0_3 : Int) (x0_4 : Bool) (x0_5 x0_6 : Int) (x1 : Sl) (h : Hp) (K : Sl → Int → Hp → Prop) : Prop :=
 nw h (.cells ⟨[.int .i64 x0_0, .int .i64 x0_1, .int .i64 x0_2, .int .i64 x0_3, .bool x0_4, .int .u32 x0_5, .int .u32 x0_6]⟩ 96) fun b0 h0 =>
 xI .i64 (cell h0 (bk b0)) fun n0 =>
 bif ((Int.fdiv n0 (2 ^ 8)) != 0) then
 K ⟨none, 0, 0⟩ 1 h0
 else
 xI .i64 (cell h0 ((bk b0).add 3)) fun n1 =>
 bif ((Int.fdiv n1 (2 ^ 8)) != 0) then
 K ⟨none, 0, 0⟩ 1 h0
 else
 xI .i64 (cell h0 ((bk b0).add 1)) fun n2 =>
 bif ((Int.fdiv n2 (2 ^ 16)) != 0) then
 K ⟨none, 0, 0⟩ 1 h0
 else
 xI .i64 (cell h0 ((bk b0).add 2)) fun n3 =>
 bif (decide (n3 < 1)) then
 K ⟨none, 0, 0⟩ 1 h0
 else
 xI .i64 (cell h0 ((bk b0).add 2)) fun n4 =>
 bif (decide (n4 > 255)) then
 K ⟨none, 0, 0⟩ 1 h0
 else
 bif (decide ((IntKind.wrap .i64 (20 + ((x1.n : Nat) : Int))) > 1500)) then
 K ⟨none, 0, 0⟩ 2 h0
 else
 xB (cell h0 ((bk b0).add 4)) fun b1 =>
 bif b1 then
 N35_j0 x1 (some (bk b0)) (IntKind.wrap .i64 (20 + ((x1.n : Nat) : Int))) 16384 h0
 (fun s0 n5 h1 =>
 K s0 n5 h1)
 else
 N35_j0 x1 (some (bk b0)) (IntKind.wrap .i64 (20 + ((x1.n : Nat) : Int))) 0 h0
 (fun s1 n6 h2 =>
 K s1 n6 h2)
theorem S35 {x0_0 x0_1 x0_2 x0_3 : Int} {x0_4 : Bool} {x0_5 x0_6 : Int} {x1 : Sl} {h : Hp} {K : Sl → Int → Hp → Prop} (hn : N35 x0_0 x0_1 x0_2 x0_3 x0_4 x0_5 x0_6 x1 h K) : C35 x0_0 x0_1 x0_2 x0_3 x0_4 x0_5 x0_6 x1 h K := by
 refine calls_of_D Tryz.func35 (c := B35) rfl (by kernel_rfl) ?_
 refine den_sound hE hm _ (.two .leaf (.two .leaf (.two .leaf (.two .leaf (.two .leaf (.two .leaf (.xf N35_j0_t))))))) _ _ _ (⟨annOk_leaf, ⟨annOk_leaf, ⟨annOk_leaf, ⟨annOk_leaf, ⟨annOk_leaf, ⟨annOk_leaf, N35_j0_ok⟩⟩⟩⟩⟩⟩) ?_
 refine cast ?_ hn
 kernel_rfl
end Go.Proofs.YtbbnpmikjdgdpaaGreat

/-
 Packets: Encode.
-/
set_option linter.unusedSimpArgs false
set_option linter.unusedVariables false
set_option maxRecDepth 20000
namespace Go.Proofs.YtbbnpmikjdgdpaaGreat
open Go Go.Hw
structure Iph where
 tos : Int
 id : Int
 ttl : Int
 proto : Int
 keep : Bool
 src : Int
 dst : Int
def ipC (p : Iph) : List Value := [.int .i64 p.tos, .int .i64 p.id, .int .i64 p.ttl, .int .i64 p.proto, .bool p.keep, .int .u32 p.src, .int .u32 p.dst]
def Iph.well (p : Iph) : Prop := (0 ≤ p.tos ∧ p.tos < 256) ∧ (0 ≤ p.id ∧ p.id < 65536) ∧ (1 ≤ p.ttl ∧ p.ttl ≤ 255) ∧ (0 ≤ p.proto ∧ p.proto < 256)
def b8 (n : Int) : UInt8 := UInt8.ofNat n.toNat
theorem b8_v {n : Int} (h : 0 ≤ n ∧ n < 256) : (Value.int .u8 (IntKind.wrap .u8 n)) = .int .u8 ((b8 n).toNat : Int) := by
 unfold b8
 rw [UInt8.toNat_ofNat']
 congr 1
 show n % 256 = _
 omega
def ipF (p : Iph) : Nat := if p.keep then 16384 else 0
def ipH (p : Iph) (len sum : Nat) : List UInt8 := [69, b8 p.tos] ++ be len 2 ++ be p.id.toNat 2 ++ be (ipF p) 2 ++ [b8 p.ttl, b8 p.proto] ++ be sum 2 ++ be p.src.toNat 4 ++ be p.dst.toNat 4
def ipL (p : Iph) (data : List UInt8) : List UInt8 := ipH p (20 + data.length) (sum16 (ipH p (20 + data.length) 0)) ++ data
theorem ipH_len {p : Iph} {a b : Nat} : (ipH p a b).length = 20 := rfl
theorem ipL_len {p : Iph} {data : List UInt8} : (ipL p data).length = 20 + data.length := by simp [ipL, ipH_len]
theorem c_ienc {p : Iph} {data : List UInt8} {x : Sl} {h : Hp} {K : Sl → Int → Hp → Prop} (hsrc : 0 ≤ p.src ∧ p.src < 4294967296) (hdst : 0 ≤ p.dst ∧ p.dst < 4294967296) (hr : RdB h x data) (hdl : data.length ≤ 1099511627776)
  (harg : ¬ p.well → ∀ h', Ext none' h h' → K ⟨none, 0, 0⟩ 1 h') (hlong : p.well → 1480 < data.length → ∀ h', Ext none' h h' → K ⟨none, 0, 0⟩ 2 h') (hok : p.well → data.length ≤ 1480 → ∀ h' y, NewO h h' 5 1 y (bc (ipL p data)) → K y 0 h') :
  C35 p.tos p.id p.ttl p.proto p.keep p.src p.dst x h K := by
 apply S35; unfold N35
 have hs0 : Sat ([] ++ [Hw.was h]) h := Sat.start
 refine hs0.nw ?_
 intro z h1 g0 _
 have g : Sat ([] ++ [Hw.was h, row z 96 (ipC p)]) h1 := g0
 clear g0
 have was_ : ∀ {M : List Asn} {h' : Hp}, Sat ([] ++ (Hw.was h :: M)) h' → Ext none' h h' := fun g => g.was 0 rfl
 have xn := hr.n
 have fd8 : ∀ {n : Int}, Int.fdiv n (2 ^ 8) = n / 256 := fun {n} => by rw [Int.fdiv_eq_ediv_of_nonneg _ (by decide)]; rfl
 have fd16 : ∀ {n : Int}, Int.fdiv n (2 ^ 16) = n / 65536 := fun {n} => by rw [Int.fdiv_eq_ediv_of_nonneg _ (by decide)]; rfl
 have go : p.well → data.length ≤ 1480 → N35_j0 x (some (bk z)) ((20 + data.length : Nat) : Int) ((ipF p : Nat) : Int) h1 fun y n h' => K y n h' := by
  rintro hw k1
  obtain ⟨w1, w2, w3, w4⟩ := hw
  unfold N35_j0
  simp only [nn_some', add_bk]
  refine g.mk (sz := 1) y_zl (by omega) (by omega) (by rw [y_b]; omega) (by omega) ?_
  intro y h2 yn yc g2
  rw [Int.toNat_natCast] at yn yc g2
  rw [y_zeros, ← List.replicate_append_replicate] at g2
  have g2 : Sat ([] ++ [Hw.was h, row z 96 (ipC p), Hw.own 5 1 y (bc ([0, 0, 0, 0, 0, 0, 0, 0, 0, 0, 0, 0, 0, 0, 0, 0, 0, 0, 0, 0] ++ List.replicate data.length 0))]) h2 := g2
  generalize hR : List.replicate data.length (0 : UInt8) = R at g2
  have hRl : R.length = data.length := by rw [← hR]; simp
  refine g2.lI 1 (k := 0) rfl rfl ?_
  refine g2.lI 1 rfl rfl ?_
  refine g2.lI 1 rfl rfl ?_
  refine g2.stAt 2 (k := 0) rfl rfl (by simp) rfl ?_
  intro h3 g3
  have g3 : Sat ([] ++ [Hw.was h, row z 96 (ipC p), Hw.own 5 1 y (bc ([69, 0, 0, 0, 0, 0, 0, 0, 0, 0, 0, 0, 0, 0, 0, 0, 0, 0, 0, 0] ++ R))]) h3 := g3
  refine ⟨⟨rfl, rfl⟩, g3.lI 1 rfl rfl ⟨rfl, rfl⟩, ⟨rfl, rfl⟩, g3.lI 1 rfl rfl ⟨rfl, rfl⟩, ⟨rfl, rfl⟩, g3.lI 1 (k := 0) rfl rfl ⟨rfl, rfl⟩, ?_⟩
  refine g3.stAt 2 (k := 1) rfl rfl (by simp) rfl ?_
  intro h4 g4
  rw [b8_v w1, ← bc_set] at g4
  have g4 : Sat ([] ++ [Hw.was h, row z 96 (ipC p), Hw.own 5 1 y (bc ([69, b8 p.tos, 0, 0, 0, 0, 0, 0, 0, 0, 0, 0, 0, 0, 0, 0, 0, 0, 0, 0] ++ R))]) h4 := g4
  refine ⟨⟨rfl, rfl⟩, g4.lI 1 rfl rfl ⟨rfl, rfl⟩, ⟨rfl, rfl⟩, g4.lI 1 rfl rfl ⟨rfl, rfl⟩, ?_⟩
  refine g4.stAt 2 (k := 8) rfl rfl (by simp) rfl ?_
  intro h5 g5
  rw [b8_v (n := p.ttl) (by omega), ← bc_set] at g5
  have g5 : Sat ([] ++ [Hw.was h, row z 96 (ipC p), Hw.own 5 1 y (bc ([69, b8 p.tos, 0, 0, 0, 0, 0, 0, b8 p.ttl, 0, 0, 0, 0, 0, 0, 0, 0, 0, 0, 0] ++ R))]) h5 := g5
  refine ⟨⟨rfl, rfl⟩, g5.lI 1 rfl rfl ⟨rfl, rfl⟩, ?_⟩
  refine g5.stAt 2 (k := 9) rfl rfl (by simp) rfl ?_
  intro h6 g6
  rw [b8_v w4, ← bc_set] at g6
  have g6 : Sat ([] ++ [Hw.was h, row z 96 (ipC p), Hw.own 5 1 y (bc ([69, b8 p.tos, 0, 0, 0, 0, 0, 0, b8 p.ttl, b8 p.proto, 0, 0, 0, 0, 0, 0, 0, 0, 0, 0] ++ R))]) h6 := g6
  have put : ∀ {n w k : Nat} {v : Int} {X : List UInt8} {h' : Hp} {F : Hp → Prop}, Sat ([] ++ [Hw.was h, row z 96 (ipC p), Hw.own 5 1 y (bc X)]) h' → v = n → n < 4294967296 → (w = 2 ∨ w = 4) → k + w ≤ 20 →
    (∀ h', Sat ([] ++ [Hw.was h, row z 96 (ipC p), Hw.own 5 1 y (bc (X.take k ++ be n w ++ X.drop (k + w)))]) h' → F h') →
    C31 v w h' fun s1 h5 => cpK Tryz.prog 5 ⟨sadr y.p y.c k 1, y.n - k, y.c - k⟩ (.slice s1.p s1.n s1.c) h5 fun _ h6 => F h6 := by
   rintro n w k v X h' F g rfl hn hw hk hF
   refine c_put (w := w) (by omega) (by omega) fun h5 t ht => ?_
   have ep : putL ((n : Nat) : Int).toNat w = be n w := by
    rw [Int.toNat_natCast]
    unfold putL
    rw [if_neg (by omega), Int.toNat_natCast]
   rw [ep] at ht
   have g5 := g.ext ht.1
   have rt := ht.2.1.rdb
   have tn : t.n = w := by rw [rt.n, be_len]
   refine g5.cpAt (n := w) (k := k) (ns := bc (be n w)) 2 rfl (by omega) y_a (fun G => by show G t.n = G w; rw [tn]) (by omega) (fun G hG => rt.srcK (n := w) (by rw [be_len]; omega) (by rw [List.take_of_length_le (by rw [be_len]; omega)]; exact hG)) (by simp [be_len]) bc_plain ?_
   intro h6 g6
   rw [← bc_take, ← bc_drop, ← bc_app, ← bc_app] at g6
   exact hF h6 g6
  refine bd_nat (i := 2) (by omega) ?_
  rw [wu64i (by omega) (by omega)]
  refine put (n := 20 + data.length) (w := 2) (k := 2) g6 rfl (by omega) (.inl rfl) (by omega) fun h7 g7 => ?_
  have g7 : Sat ([] ++ [Hw.was h, row z 96 (ipC p), Hw.own 5 1 y (bc (([69, b8 p.tos] ++ be (20 + data.length) 2 ++ [0, 0, 0, 0, b8 p.ttl, b8 p.proto, 0, 0, 0, 0, 0, 0, 0, 0, 0, 0]) ++ R))]) h7 := g7
  refine bd_nat (i := 4) (by omega) ?_
  refine g7.lI 1 rfl rfl ?_
  rw [wu64i w2.1 (by omega)]
  refine put (n := p.id.toNat) (w := 2) (k := 4) g7 (by omega) (by omega) (.inl rfl) (by omega) fun h8 g8 => ?_
  have g8 : Sat ([] ++ [Hw.was h, row z 96 (ipC p), Hw.own 5 1 y (bc (([69, b8 p.tos] ++ be (20 + data.length) 2 ++ be p.id.toNat 2 ++ [0, 0, b8 p.ttl, b8 p.proto, 0, 0, 0, 0, 0, 0, 0, 0, 0, 0]) ++ R))]) h8 := g8
  have hf : ipF p ≤ 16384 := by unfold ipF; split <;> omega
  refine bd_nat (i := 6) (by omega) ?_
  rw [wu64i (by omega) (by omega)]
  refine put (n := ipF p) (w := 2) (k := 6) g8 rfl (by omega) (.inl rfl) (by omega) fun h9 g9 => ?_
  have g9 : Sat ([] ++ [Hw.was h, row z 96 (ipC p), Hw.own 5 1 y (bc (([69, b8 p.tos] ++ be (20 + data.length) 2 ++ be p.id.toNat 2 ++ be (ipF p) 2 ++ [b8 p.ttl, b8 p.proto, 0, 0, 0, 0, 0, 0, 0, 0, 0, 0]) ++ R))]) h9 := g9
  refine bd_nat (i := 12) (by omega) ?_
  refine g9.lI 1 rfl rfl ?_
  rw [wu64i hsrc.1 (by omega)]
  refine put (n := p.src.toNat) (w := 4) (k := 12) g9 (by omega) (by omega) (.inr rfl) (by omega) fun h10 g10 => ?_
  have g10 : Sat ([] ++ [Hw.was h, row z 96 (ipC p), Hw.own 5 1 y (bc (([69, b8 p.tos] ++ be (20 + data.length) 2 ++ be p.id.toNat 2 ++ be (ipF p) 2 ++ [b8 p.ttl, b8 p.proto, 0, 0] ++ be p.src.toNat 4 ++ [0, 0, 0, 0]) ++ R))]) h10 := g10
  refine bd_nat (i := 16) (by omega) ?_
  refine g10.lI 1 rfl rfl ?_
  rw [wu64i hdst.1 (by omega)]
  refine put (n := p.dst.toNat) (w := 4) (k := 16) g10 (by omega) (by omega) (.inr rfl) (by omega) fun h11 g11 => ?_
  have g11 : Sat ([] ++ [Hw.was h, row z 96 (ipC p), Hw.own 5 1 y (bc (ipH p (20 + data.length) 0 ++ R))]) h11 := g11
  refine bd_nat (i := 10) (by omega) ?_
  refine bd_nat (i := 20) (by omega) ?_
  refine g11.nw ?_
  intro z2 h12 g12 _
  have r12 : RdB h12 ⟨sadr y.p y.c 0 1, 20, y.c⟩ (ipH p (20 + data.length) 0) := by
   have := (Sat.own g12 2 rfl).rdb.sub (lo := 0) (hi := 20) (by omega) (by rw [List.length_append, ipH_len]; omega)
   rw [List.drop_zero, show (ipH p (20 + data.length) 0 ++ R).take (20 - 0) = ipH p (20 + data.length) 0 from List.take_left' ipH_len] at this
   exact this
  have rp : RdP h12 ⟨some (bk z2), 1, 1⟩ [⟨sadr y.p y.c 0 1, 20, y.c⟩] [ipH p (20 + data.length) 0] := by
   refine ⟨rfl, rfl, (Sat.blk g12 3 rfl).rdc, ?_⟩
   intro i t' l' e1 e2
   match i with
   | 0 => cases e1; cases e2; exact r12
   | i + 1 => cases e1
  refine c_sum rp (by intro l hl; simp at hl; subst hl; rw [ipH_len]; omega) (by simp [ipH_len]) (by simp) ?_
  rw [show [ipH p (20 + data.length) 0].flatten = ipH p (20 + data.length) 0 by simp]
  have hU := sum16_lt (ipH p (20 + data.length) 0)
  have eL : ipL p data = ipH p (20 + data.length) (sum16 (ipH p (20 + data.length) 0)) ++ data := rfl
  generalize sum16 (ipH p (20 + data.length) 0) = U at hU eL ⊢
  rw [wu64i (by omega) (by omega)]
  have g12 : Sat ([] ++ [Hw.was h, row z 96 (ipC p), Hw.own 5 1 y (bc (ipH p (20 + data.length) 0 ++ R))]) h12 := Sat.sel g12 [0, 1, 2] (by decide) rfl
  refine put (n := U) (w := 2) (k := 10) g12 rfl (by omega) (.inl rfl) (by omega) fun h13 g13 => ?_
  have g13 : Sat ([] ++ [Hw.was h, row z 96 (ipC p), Hw.own 5 1 y (bc (ipH p (20 + data.length) U ++ R))]) h13 := g13
  rw [← hR] at g13
  refine bd_nat (i := 20) (by omega) ?_
  refine g13.putR 2 rfl ipH_len.symm (Nat.le_refl _) y_a (hr.ext (was_ g13)) ?_
  intro h14 g14
  rw [Nat.sub_self, List.replicate_zero, List.append_nil, ← eL] at g14
  exact hok ⟨w1, w2, w3, w4⟩ k1 _ _ (Sat.newO g14 0 2 rfl rfl (by omega))
 have arg : ∀ {h' : Hp}, ¬ p.well → Ext none' h h' → K ⟨none, 0, 0⟩ 1 h' := fun q he => harg q _ he
 simp only [add_bk, fd8, fd16]
 refine g.lI 1 (k := 0) rfl rfl ?_
 by_cases k1 : p.tos / 256 = 0
 ·rw [show (p.tos / 256 != 0) = false by simp [k1], cond_false]
  refine g.lI 1 rfl rfl ?_
  by_cases k2 : p.proto / 256 = 0
  ·rw [show (p.proto / 256 != 0) = false by simp [k2], cond_false]
   refine g.lI 1 rfl rfl ?_
   by_cases k3 : p.id / 65536 = 0
   ·rw [show (p.id / 65536 != 0) = false by simp [k3], cond_false]
    refine g.lI 1 rfl rfl ?_
    by_cases k4 : p.ttl < 1
    ·rw [show decide (p.ttl < 1) = true from decide_eq_true k4, cond_true]
     exact arg (by unfold Iph.well; omega) (was_ g)
    ·rw [show decide (p.ttl < 1) = false from decide_eq_false k4, cond_false]
     refine g.lI 1 rfl rfl ?_
     by_cases k5 : p.ttl > 255
     ·rw [show decide (p.ttl > 255) = true from decide_eq_true k5, cond_true]
      exact arg (by unfold Iph.well; omega) (was_ g)
     ·rw [show decide (p.ttl > 255) = false from decide_eq_false k5, cond_false]
      have hw : p.well := by unfold Iph.well; omega
      have e1 : IntKind.wrap .i64 (20 + ((x.n : Nat) : Int)) = ((20 + data.length : Nat) : Int) := by rw [wi64i (by omega) (by omega)]; omega
      rw [e1]
      by_cases k6 : 1480 < data.length
      ·rw [show decide (((20 + data.length : Nat) : Int) > 1500) = true from decide_eq_true (by omega), cond_true]
       exact hlong hw k6 _ (was_ g)
      ·rw [show decide (((20 + data.length : Nat) : Int) > 1500) = false from decide_eq_false (by omega), cond_false]
       have := go hw (by omega)
       refine g.lB 1 rfl rfl ?_
       cases hk : p.keep with
       | true => rw [cond_true]; unfold ipF at this; rw [hk] at this; exact this
       | false => rw [cond_false]; unfold ipF at this; rw [hk] at this; exact this
   ·rw [show (p.id / 65536 != 0) = true by simp [k3], cond_true]
    exact arg (by unfold Iph.well; omega) (was_ g)
  ·rw [show (p.proto / 256 != 0) = true by simp [k2], cond_true]
   exact arg (by unfold Iph.well; omega) (was_ g)
 ·rw [show (p.tos / 256 != 0) = true by simp [k1], cond_true]
  exact arg (by unfold Iph.well; omega) (was_ g)
end Go.Proofs.YtbbnpmikjdgdpaaGreat

/-
 A function that defers one closure, which asks for a panic: what a call of it gives where nothing panics.
-/
set_option linter.unusedSimpArgs false
set_option linter.unusedVariables false
namespace Go.Hw
open Go
structure DefShape where
 r0 : Code
 td : Nat
 g : Nat
 caps : List Operand
 rest : Code
def mkOf (mk df : Oper) : Option (Nat × Nat × List Operand) :=
 match mk.dst, mk.op, mk.guard with
 | some td, .makeFunc (.func g) ⟨[]⟩ ⟨caps⟩, none => (match df.dst, df.op, df.guard with
  | none, .defer ⟨.value (.tmp t), ⟨[]⟩, _⟩, none => bif Nat.beq t td then some (td, g, caps) else none
  | _, _, _ => none)
 | _, _, _ => none
def defOf : Code → Option DefShape
 | .seq r0 (.seq (.region _ ⟨[mk, df]⟩ false) rest) => (match mkOf mk df with
  | some (td, g, caps) => some ⟨r0, td, g, caps, rest⟩
  | none => none)
 | _ => none
def rcOf (rc : Oper) : Option Nat :=
 match rc.dst, rc.op, rc.guard with
 | some tr, .call ⟨.builtin .recover, ⟨[]⟩, _⟩, none => some tr
 | _, _, _ => none
def recOf : Code → Option (Nat × Code)
 | .seq (.region _ ⟨[rc]⟩ false) rest => (match rcOf rc with
  | some tr => some (tr, rest)
  | none => none)
 | _ => none
theorem mkOf_some {mk df : Oper} {td g : Nat} {caps : List Operand} (h : mkOf mk df = some (td, g, caps)) :
  mk.dst = some td ∧ mk.op = .makeFunc (.func g) #[] ⟨caps⟩ ∧ mk.guard = none ∧ df.dst = none ∧ (∃ ts, df.op = .defer ⟨.value (.tmp td), #[], ts⟩) ∧ df.guard = none := by
 unfold mkOf at h
 split at h
 ·rename_i h1 h2 h3
  split at h
  ·rename_i t ts h4 h5 h6
   cases hb : Nat.beq t _ with
   | false => rw [hb] at h; cases h
   | true =>
    rw [hb] at h
    have := Nat.eq_of_beq_eq_true hb
    subst this
    cases h
    exact ⟨h1, h2, h3, h4, ⟨_, h5⟩, h6⟩
  ·cases h
 ·cases h
theorem rcOf_some {rc : Oper} {tr : Nat} (h : rcOf rc = some tr) : rc.dst = some tr ∧ (∃ ts, rc.op = .call ⟨.builtin .recover, #[], ts⟩) ∧ rc.guard = none := by
 unfold rcOf at h
 split at h
 ·rename_i h1 h2 h3
  cases h
  exact ⟨h1, ⟨_, h2⟩, h3⟩
 ·cases h
theorem defOf_some {c : Code} {S : DefShape} (h : defOf c = some S) : ∃ id mk df, c = .seq S.r0 (.seq (.region id #[mk, df] false) S.rest) ∧ mkOf mk df = some (S.td, S.g, S.caps) := by
 unfold defOf at h
 split at h
 ·split at h
  ·rename_i hm
   cases h
   exact ⟨_, _, _, rfl, hm⟩
  ·cases h
 ·cases h
theorem recOf_some {c : Code} {tr : Nat} {r : Code} (h : recOf c = some (tr, r)) : ∃ id rc, c = .seq (.region id #[rc] false) r ∧ rcOf rc = some tr := by
 unfold recOf at h
 split at h
 ·split at h
  ·rename_i hm
   cases h
   exact ⟨_, _, rfl, hm⟩
  ·cases h
 ·cases h
theorem ag0 {args : Array Value} {n : Nat} (hn : args.size ≤ n) : Ag n (env0 args) { tmps := args ++ Array.replicate (n - args.size) undef, defers := [] } := by
 refine ⟨?_, trivial, ?_⟩
 ·simp; omega
 ·intro t v ht
  obtain ⟨_, h2⟩ := argsE_get args.toList 0 t v ht
  have h3 : args[t]? = some v := by simpa using h2
  have hlt : t < args.size := (Array.getElem?_eq_some_iff.1 h3).1
  rw [Array.getElem?_append_left hlt]; exact h3
theorem callFunc_run {P : Program} {E : Nat → Bool} (hE : EnterOk P E) {g : Nat} (hg : E g = true) (args : Array Value) (w : World) : (callFunc g args).run P w = .ok (.enter g args) w := by
 obtain ⟨fn, h1, h2, h3⟩ := hE g hg
 unfold callFunc
 refine (Sem.run_bind' P _ _ w).trans ?_
 have hb : fn.body ≠ none := by intro q; rw [q] at h2; cases h2
 have hnm : fn.name ≠ "runtime.NumGoroutine" := by simpa using h3
 simp [program, Sem.run, h1, hb, hnm]
theorem calls_of_defer {P : Program} {E : Nat → Bool} (hE : EnterOk P E) {f : FuncId} {fn gn : Func} {c gc : Code} {S : DefShape} {tr : Nat} {grest : Code} {args : Array Value} {h : Hp} {K : Value → Hp → Prop}
  (hgE : E S.g = true) (hf : P.funcs[f]? = some fn) (hb : fn.body = some c) (hd : defOf c = some S) (hg : P.funcs[S.g]? = some gn) (hgb : gn.body = some gc) (hr : recOf gc = some (tr, grest)) (hgr : gn.results = #[])
  (hn : args.size ≤ fn.ntmps) (htd : S.td < fn.ntmps) (hgn : S.caps.length ≤ gn.ntmps) (htr : tr < gn.ntmps)
  (hD : D P fn.ntmps S.r0 (env0 args) h (fun e ρ h1 => e = .normal ∧ okAll ρ S.caps = true ∧
   D P fn.ntmps S.rest (putd ρ (some S.td) (.func (.func S.g) #[] ⟨S.caps.map (evD ρ)⟩)) h1 (fun e2 ρ2 h2 => (e2 = .normal ∨ e2 = .ret) ∧
    D P gn.ntmps grest (putd (env0 ⟨S.caps.map (evD ρ)⟩) (some tr) .nilIface) h2 (fun e3 _ h3 => (e3 = .normal ∨ e3 = .ret) ∧ resM P h3 fn.results.toList ρ2 [] fun l => K (resV l) h3)))) :
  HCalls P f args h K := by
 intro w hw
 refine calls_of_wp_defers hf hb ?_
 obtain ⟨id, mk, df, rfl, hmk⟩ := defOf_some hd
 obtain ⟨m1, m2, m3, d1, ⟨ts, d2⟩, d3⟩ := mkOf_some hmk
 obtain ⟨jd, rc, rfl, hrc⟩ := recOf_some hr
 obtain ⟨r1, ⟨ts2, r2⟩, r3⟩ := rcOf_some hrc
 refine wp_seq (wp_mono (hD _ w (ag0 hn) hw) ?_)
 rintro e a1 w1 ⟨ρ1, g1, g2, rfl, hok, hrest⟩
 have hmap : S.caps.map a1.eval = S.caps.map (evD ρ1) := List.map_congr_left fun x hx => g1.evD (okAll_mem hok x hx)
 generalize hv : (Value.func (.func S.g) #[] ⟨S.caps.map (evD ρ1)⟩) = v at hrest
 have g3 := g1.put (d := some S.td) (by simpa [okDst] using htd) v
 show (Code.seq (.region id #[mk, df] false) S.rest).wp P _ a1 w1
 refine wp_seq (wp_region ?_)
 have e1 : (execOp a1.eval mk).run P w1 = .ok (.value v) w1 := by
  unfold execOp
  rw [m2]
  subst hv
  simp only [Instr.makeFunc]
  have : (⟨S.caps⟩ : Array Operand).map a1.eval = ⟨S.caps.map (evD ρ1)⟩ := by rw [← hmap]; simp
  rw [this]
  have : (#[] : Array Operand).map a1.eval = #[] := by simp
  rw [this]
  rfl
 have wmk : ∀ y, Region.wanted mk y = true := fun y => by simp [Region.wanted, m3]
 have wdf : ∀ y, Region.wanted df y = true := fun y => by simp [Region.wanted, d3]
 show wpOps P #[mk, df] _ [0, 1] a1 w1
 simp only [wpOps, List.getElem?_toArray, List.getElem?_cons_zero, List.getElem?_cons_succ, wmk, wdf, if_true]
 left
 unfold Oper.wp
 rw [e1, Oper.upon_value, m1]
 left
 have ev2 : (a1.put (some S.td) v).eval (.tmp S.td) = v := g3.ev (x := .tmp S.td) (by show putd ρ1 (some S.td) v S.td = some v; simp [putd])
 have e2 : (execOp (a1.put (some S.td) v).eval df).run P w1 = .ok (.defer ⟨.fn (.func S.g) ⟨S.caps.map (evD ρ1)⟩, #[]⟩) w1 := by
  unfold execOp
  rw [d2]
  simp only [resolve]
  rw [ev2]
  subst hv
  have me : ∀ F : Operand → Value, (#[] : Array Operand).map F = #[] := fun F => by simp
  rw [me]
  have ap : (#[] : Array Value) ++ #[] = #[] := by simp
  show Result.ok (Next.defer ⟨.fn (.func S.g) ⟨S.caps.map (evD ρ1)⟩, #[] ++ #[]⟩) w1 = _
  rw [ap]
 rw [e2, Oper.upon_defer, d1]
 show S.rest.wp P _ { (a1.put (some S.td) v) with defers := ⟨.fn (.func S.g) ⟨S.caps.map (evD ρ1)⟩, #[]⟩ :: (a1.put (some S.td) v).defers } w1
 have hdef : (a1.put (some S.td) v).defers = [] := g2.2.1
 rw [hdef]
 refine wp_mono (hrest _ w1 ⟨g3.1, trivial, g3.2.2⟩ rfl) ?_
 rintro e3 a3 w3 ⟨ρ3, k1, k2, he3, hgD⟩
 have hds : a3.defers = [⟨.fn (.func S.g) ⟨S.caps.map (evD ρ1)⟩, #[]⟩] := k2.2.1
 have key : Leaves P fn a3.tmps (fun e w' => ∃ v, e = .returned v ∧ K v (hpOf w') ∧ Kp w w') a3.defers .returning w3 := by
  rw [hds]
  refine leaves_cons (by intro q; cases q) (f := S.g) (args := ⟨S.caps.map (evD ρ1)⟩) ?_ ?_
  ·show (callFunc S.g (#[] ++ ⟨S.caps.map (evD ρ1)⟩)).run P w3 = _
   rw [callFunc_run hE hgE]
   simp
  ·refine callsD_of_wpS hg hgb ?_
   intro c₀ cs hc₀
   refine wpS_seq (wpS_region ?_)
   have wrc : ∀ y, Region.wanted rc y = true := fun y => by simp [Region.wanted, r3]
   show wpOpsS P #[rc] _ [0] _ _ w3
   have e4 : ∀ ρ, (execOp ρ rc).run P w3 = .ok .recover w3 := by
    intro ρ
    unfold execOp
    rw [r2]
    rfl
   have hrec : recoverD (c₀ :: cs) = none := by simp [recoverD, hc₀]
   simp only [wpOpsS, List.getElem?_toArray, List.getElem?_cons_zero, wrc, if_true, e4, hrec]
   show grest.wpS P _ _ _ w3
   refine wpS_of_wp ?_
   have ga := ag0 (args := ⟨S.caps.map (evD ρ1)⟩) (n := gn.ntmps) (by simpa using hgn)
   have gb := ga.put (d := some tr) (by simpa [okDst] using htr) .nilIface
   rw [r1]
   refine wp_mono (hgD _ w3 gb rfl) ?_
   rintro e5 a5 w5 ⟨ρ5, q1, q2, he5, hres⟩
   have q3 : a5.defers = [] := q2.2.1
   obtain ⟨l, hl, hrun⟩ := results_M P fn ρ3 a3 _ k1 w5 _ hres
   have ends : a5.defers = [] ∧ ∃ u', (c₀ :: cs) = { c₀ with mode := u' } :: cs ∧ ∃ v, (results gn a5.tmps).run P w5 = .ok v w5 ∧ Leaves P fn a3.tmps (fun e w' => ∃ v, e = .returned v ∧ K v (hpOf w') ∧ Kp w w') [] (settle u') w5 := by
    refine ⟨q3, .returning, by rw [← hc₀], ?_⟩
    obtain ⟨l2, _, hrun2⟩ := results_M P gn ρ5 a5 _ q1 w5 (fun _ => True) (by rw [hgr]; exact trivial)
    refine ⟨_, hrun2, ?_⟩
    exact ⟨_, hrun, _, rfl, hl, g2.2.2.trans (k2.2.2.trans q2.2.2)⟩
   rcases he5 with rfl | rfl <;> exact ends
 rcases he3 with rfl | rfl <;> exact key
end Go.Hw

/-
 A function that defers one closure, in its readable form (where nothing panics).
-/
set_option linter.unusedSimpArgs false
set_option linter.unusedVariables false
namespace Go.Hw
open Go
def defE (P : Program) (E : Nat → Bool) (ng : Nat) (tr : Nat) (grest : Code) (a : Ann) (caps : List Value) (rs : List ResultVar) (ρ : Env) (h : Hp) (K : Value → Hp → Prop) : Prop :=
 den P E ng grest a (putd (env0 ⟨caps⟩) (some tr) .nilIface) h fun e _ h' => match e with
  | .normal => resM P h' rs ρ [] fun l => K (resV l) h'
  | .ret => resM P h' rs ρ [] fun l => K (resV l) h'
  | _ => False
def defT (P : Program) (E : Nat → Bool) (n ng : Nat) (S : DefShape) (tr : Nat) (grest : Code) (a0 a1 a2 : Ann) (ρ : Env) (h : Hp) (rs : List ResultVar) (K : Value → Hp → Prop) : Prop :=
 den P E n S.r0 a0 ρ h fun e ρ1 h1 => match e with
  | .normal => bif okAll ρ1 S.caps then den P E n S.rest a1 (putd ρ1 (some S.td) (.func (.func S.g) #[] ⟨S.caps.map (evD ρ1)⟩)) h1 (fun e2 ρ2 h2 => match e2 with
   | .normal => defE P E ng tr grest a2 (S.caps.map (evD ρ1)) rs ρ2 h2 K
   | .ret => defE P E ng tr grest a2 (S.caps.map (evD ρ1)) rs ρ2 h2 K
   | _ => False) else False
  | _ => False
def defS (c gc : Code) : Option (DefShape × Nat × Code) := match defOf c, recOf gc with
 | some S, some (tr, r) => some (S, tr, r)
 | _, _ => none
noncomputable def defG (c gc : Code) : DefShape × Nat × Code := match defS c gc with | some x => x | none => (⟨.skip, 0, 0, [], .skip⟩, 0, .skip)
theorem calls_of_defT {P : Program} {E : Nat → Bool} (hE : EnterOk P E) (hm : P.follows .mixedOrders = true) {f : FuncId} {fn gn : Func} {c gc : Code} {S : DefShape} {tr : Nat} {grest : Code} {args : Array Value} {h : Hp} {K : Value → Hp → Prop}
  (hf : P.funcs[f]? = some fn) (hb : fn.body = some c) {g : Nat} (hsg : S.g = g) (hg : P.funcs[g]? = some gn) (hgb : gn.body = some gc) (hs : defS c gc = some (S, tr, grest))
  (hk : (E S.g && gn.results.toList.isEmpty && Nat.ble args.size fn.ntmps && Nat.blt S.td fn.ntmps && Nat.ble S.caps.length gn.ntmps && Nat.blt tr gn.ntmps) = true)
  {a0 a1 a2 : Ann} (h0 : annOk P fn.ntmps a0 S.r0) (h1 : annOk P fn.ntmps a1 S.rest) (h2 : annOk P gn.ntmps a2 grest)
  (hd : defT P E fn.ntmps gn.ntmps S tr grest a0 a1 a2 (env0 args) h fn.results.toList K) : HCalls P f args h K := by
 subst hsg
 simp only [Bool.and_eq_true, Nat.ble_eq, Nat.blt_eq] at hk
 obtain ⟨⟨⟨⟨⟨k1, k2⟩, k3⟩, k4⟩, k5⟩, k6⟩ := hk
 unfold defS at hs
 split at hs
 ·rename_i S' tr' r' e1 e2
  cases hs
  have hgr : gn.results = #[] := by
   apply Array.ext'
   simpa using k2
  refine calls_of_defer hE k1 hf hb e1 hg hgb e2 hgr k3 k4 k5 k6 ?_
  have tail : ∀ {caps : List Value} {ρ : Env} {h' : Hp}, defE P E gn.ntmps tr grest a2 caps fn.results.toList ρ h' K →
    D P gn.ntmps grest (putd (env0 ⟨caps⟩) (some tr) .nilIface) h' (fun e3 _ h3 => (e3 = .normal ∨ e3 = .ret) ∧ resM P h3 fn.results.toList ρ [] fun l => K (resV l) h3) := by
   intro caps ρ h' he
   refine (den_sound hE hm _ _ _ _ _ h2 he).mono ?_
   intro e3 ρ3 h3 hq
   cases e3 <;> first | exact ⟨.inl rfl, hq⟩ | exact ⟨.inr rfl, hq⟩ | exact hq.elim
  refine (den_sound hE hm _ _ _ _ _ h0 hd).mono ?_
  intro e ρ1 h' hq
  cases e with
  | normal =>
   simp only at hq
   cases hok : okAll ρ1 S.caps with
   | false => rw [hok] at hq; exact hq.elim
   | true =>
    rw [hok] at hq
    refine ⟨rfl, rfl, ?_⟩
    refine (den_sound hE hm _ _ _ _ _ h1 hq).mono ?_
    intro e2 ρ2 h3 hq2
    cases e2 <;> first | exact ⟨.inl rfl, tail hq2⟩ | exact ⟨.inr rfl, tail hq2⟩ | exact hq2.elim
  | _ => exact hq.elim
 ·cases hs
end Go.Hw

set_option linter.unusedVariables false
set_option maxRecDepth 100000
namespace Go.Proofs.YtbbnpmikjdgdpaaGreat
open Go Go.Hw
noncomputable def B68 : Code := match Tryz.f68.body with | some c => c | none => .skip
def N68_j0 (x1 x2 x3 x4 : Option Addr) (x5 : Value) (x6 x7 : Int) (h : Hp) (Kr : Hp → Prop) : Prop :=
 nn x1 fun a0 =>
 xL (cell h a0) fun s0 =>
 bd 20 s0.c fun k0 =>
 nw h (.cells ⟨[.slice (sadr s0.p s0.c 0 1) k0 s0.c]⟩ 32) fun b0 h0 =>
 C32 ⟨some (bk b0), 1, 1⟩ h0 fun n0 h1 =>
 C84 (n0 == 0) 93 h1 fun h2 =>
 C84 ((IntKind.wrap .i64 (BitVec.ofInt 64 x7 &&& BitVec.ofInt 64 16383).toNat) == 0) 94 h2 fun h3 =>
 nn x1 fun a1 =>
 xL (cell h3 a1) fun s1 =>
 idx 8 s1.n <|
 nn s1.p fun a2 =>
 xI .u8 (cell h3 (a2.add ((8 : Int).toNat * 1))) fun n1 =>
 C84 (n1 != 0) 95 h3 fun h4 =>
 nn x1 fun a3 =>
 xL (cell h4 a3) fun s2 =>
 idx 1 s2.n <|
 nn s2.p fun a4 =>
 xI .u8 (cell h4 (a4.add ((1 : Int).toNat * 1))) fun n2 =>
 nn x1 fun a5 =>
 xL (cell h4 a5) fun s3 =>
 idx 8 s3.n <|
 nn s3.p fun a6 =>
 xI .u8 (cell h4 (a6.add ((8 : Int).toNat * 1))) fun n3 =>
 nn x1 fun a7 =>
 xL (cell h4 a7) fun s4 =>
 idx 9 s4.n <|
 nn s4.p fun a8 =>
 xI .u8 (cell h4 (a8.add ((9 : Int).toNat * 1))) fun n4 =>
 HCallV Tryz.prog E (x5) [.int .i64 4, .int .i64 2] h4 fun v0 h5 =>
 xI .i64 (some v0) fun n5 =>
 both (Only (.int .i64 (IntKind.wrap .i64 n4)) h5 (.int .i64 (IntKind.wrap .i64 n4)) h5) <|
 both (xI .u8 (cell h5 (a8.add ((9 : Int).toNat * 1))) fun n6 => Only (.int .u8 n4) h5 (.int .u8 n6) h5) <|
 both (nn x1 fun a9 => xL (cell h5 a9) fun s5 => Only (.slice s4.p s4.n s4.c) h5 (.slice s5.p s5.n s5.c) h5) <|
 both (Only (.int .i64 (IntKind.wrap .i64 n3)) h5 (.int .i64 (IntKind.wrap .i64 n3)) h5) <|
 both (xI .u8 (cell h5 (a6.add ((8 : Int).toNat * 1))) fun n7 => Only (.int .u8 n3) h5 (.int .u8 n7) h5) <|
 both (nn x1 fun a10 => xL (cell h5 a10) fun s6 => Only (.slice s3.p s3.n s3.c) h5 (.slice s6.p s6.n s6.c) h5) <|
 both (Only (.int .i64 (IntKind.wrap .i64 n2)) h5 (.int .i64 (IntKind.wrap .i64 n2)) h5) <|
 both (xI .u8 (cell h5 (a4.add ((1 : Int).toNat * 1))) fun n8 => Only (.int .u8 n2) h5 (.int .u8 n8) h5) <|
 both (nn x1 fun a11 => xL (cell h5 a11) fun s7 => Only (.slice s2.p s2.n s2.c) h5 (.slice s7.p s7.n s7.c) h5) <|
 HCallV Tryz.prog E (x5) [.int .i64 12, .int .i64 4] h5 fun v1 h6 =>
 xI .i64 (some v1) fun n9 =>
 both (Only (.int .i64 (IntKind.wrap .i64 n4)) h6 (.int .i64 (IntKind.wrap .i64 n4)) h6) <|
 both (xI .u8 (cell h6 (a8.add ((9 : Int).toNat * 1))) fun n10 => Only (.int .u8 n4) h6 (.int .u8 n10) h6) <|
 both (nn x1 fun a12 => xL (cell h6 a12) fun s8 => Only (.slice s4.p s4.n s4.c) h6 (.slice s8.p s8.n s8.c) h6) <|
 both (Only (.int .i64 (IntKind.wrap .i64 n3)) h6 (.int .i64 (IntKind.wrap .i64 n3)) h6) <|
 both (xI .u8 (cell h6 (a6.add ((8 : Int).toNat * 1))) fun n11 => Only (.int .u8 n3) h6 (.int .u8 n11) h6) <|
 both (nn x1 fun a13 => xL (cell h6 a13) fun s9 => Only (.slice s3.p s3.n s3.c) h6 (.slice s9.p s9.n s9.c) h6) <|
 both (Only (.int .i64 (IntKind.wrap .i64 n2)) h6 (.int .i64 (IntKind.wrap .i64 n2)) h6) <|
 both (xI .u8 (cell h6 (a4.add ((1 : Int).toNat * 1))) fun n12 => Only (.int .u8 n2) h6 (.int .u8 n12) h6) <|
 both (nn x1 fun a14 => xL (cell h6 a14) fun s10 => Only (.slice s2.p s2.n s2.c) h6 (.slice s10.p s10.n s10.c) h6) <|
 HCallV Tryz.prog E (x5) [.int .i64 16, .int .i64 4] h6 fun v2 h7 =>
 xI .i64 (some v2) fun n13 =>
 both (Only (.int .u32 (IntKind.wrap .u32 n9)) h7 (.int .u32 (IntKind.wrap .u32 n9)) h7) <|
 both (Only (.int .i64 (IntKind.wrap .i64 n4)) h7 (.int .i64 (IntKind.wrap .i64 n4)) h7) <|
 both (xI .u8 (cell h7 (a8.add ((9 : Int).toNat * 1))) fun n14 => Only (.int .u8 n4) h7 (.int .u8 n14) h7) <|
 both (nn x1 fun a15 => xL (cell h7 a15) fun s11 => Only (.slice s4.p s4.n s4.c) h7 (.slice s11.p s11.n s11.c) h7) <|
 both (Only (.int .i64 (IntKind.wrap .i64 n3)) h7 (.int .i64 (IntKind.wrap .i64 n3)) h7) <|
 both (xI .u8 (cell h7 (a6.add ((8 : Int).toNat * 1))) fun n15 => Only (.int .u8 n3) h7 (.int .u8 n15) h7) <|
 both (nn x1 fun a16 => xL (cell h7 a16) fun s12 => Only (.slice s3.p s3.n s3.c) h7 (.slice s12.p s12.n s12.c) h7) <|
 both (Only (.int .i64 (IntKind.wrap .i64 n2)) h7 (.int .i64 (IntKind.wrap .i64 n2)) h7) <|
 both (xI .u8 (cell h7 (a4.add ((1 : Int).toNat * 1))) fun n16 => Only (.int .u8 n2) h7 (.int .u8 n16) h7) <|
 both (nn x1 fun a17 => xL (cell h7 a17) fun s13 => Only (.slice s2.p s2.n s2.c) h7 (.slice s13.p s13.n s13.c) h7) <|
 nn x2 fun a18 =>
 st h7 a18 (.int .i64 (IntKind.wrap .i64 n2)) fun h8 =>
 st h8 (a18.add 1) (.int .i64 n5) fun h9 =>
 st h9 (a18.add 2) (.int .i64 (IntKind.wrap .i64 n3)) fun h10 =>
 st h10 (a18.add 3) (.int .i64 (IntKind.wrap .i64 n4)) fun h11 =>
 st h11 (a18.add 4) (.bool ((IntKind.wrap .i64 (BitVec.ofInt 64 x7 &&& BitVec.ofInt 64 16384).toNat) != 0)) fun h12 =>
 st h12 (a18.add 5) (.int .u32 (IntKind.wrap .u32 n9)) fun h13 =>
 st h13 (a18.add 6) (.int .u32 (IntKind.wrap .u32 n13)) fun h14 =>
 nn x2 fun a19 =>
 xI .i64 (cell h14 a19) fun n17 =>
 xI .i64 (cell h14 (a19.add 1)) fun n18 =>
 xI .i64 (cell h14 (a19.add 2)) fun n19 =>
 xI .i64 (cell h14 (a19.add 3)) fun n20 =>
 xB (cell h14 (a19.add 4)) fun b1 =>
 xI .u32 (cell h14 (a19.add 5)) fun n21 =>
 xI .u32 (cell h14 (a19.add 6)) fun n22 =>
 nn x1 fun a20 =>
 xL (cell h14 a20) fun s14 =>
 bd x6 s14.c fun k1 =>
 bd 20 k1 fun k2 =>
 C57 ⟨sadr s14.p s14.c k2 1, k1 - k2, s14.c - k2⟩ h14 fun s15 h15 =>
 both (nn x2 fun a21 => xI .i64 (cell h15 a21) fun n23 => xI .i64 (cell h15 (a21.add 1)) fun n24 => xI .i64 (cell h15 (a21.add 2)) fun n25 => xI .i64 (cell h15 (a21.add 3)) fun n26 => xB (cell h15 (a21.add 4)) fun b2 => xI .u32 (cell h15 (a21.add 5)) fun n27 => xI .u32 (cell h15 (a21.add 6)) fun n28 => Only (.agg ⟨[.int .i64 n17, .int .i64 n18, .int .i64 n19, .int .i64 n20, .bool b1, .int .u32 n21, .int .u32 n22]⟩) h15 (.agg ⟨[.int .i64 n23, .int .i64 n24, .int .i64 n25, .int .i64 n26, .bool b2, .int .u32 n27, .int .u32 n28]⟩) h15) <|
 nn x2 fun a22 =>
 st h15 a22 (.int .i64 n17) fun h16 =>
 st h16 (a22.add 1) (.int .i64 n18) fun h17 =>
 st h17 (a22.add 2) (.int .i64 n19) fun h18 =>
 st h18 (a22.add 3) (.int .i64 n20) fun h19 =>
 st h19 (a22.add 4) (.bool b1) fun h20 =>
 st h20 (a22.add 5) (.int .u32 n21) fun h21 =>
 st h21 (a22.add 6) (.int .u32 n22) fun h22 =>
 nn x3 fun a23 =>
 st h22 a23 (.slice s15.p s15.n s15.c) fun h23 =>
 nn x4 fun a24 =>
 st h23 a24 (.int .i64 0) fun h24 =>
 Kr h24
noncomputable def N68_j0_t : Xf := pieceT [(1, .c (.ptr)), (2, .c (.ptr)), (3, .c (.ptr)), (4, .c (.ptr)), (5, .c (.any)), (6, .c (.int .i64)), (7, .c (.int .i64))] (codeAt B68 [1, 1, 1, 1, 1, 1, 1, 1]) fun x h Q => N68_j0 x.1 x.2.1 x.2.2.1 x.2.2.2.1 x.2.2.2.2.1 x.2.2.2.2.2.1 x.2.2.2.2.2.2 h (fun h' => Q .ret (Sg.env [] ()) h')
theorem N68_j0_ok : Sound Tryz.prog Tryz.f68.ntmps N68_j0_t (codeAt B68 [1, 1, 1, 1, 1, 1, 1, 1]) := by
 refine piece_sound (fun e => match e with | .ret => [] | _ => []) ?_
 intro x h Q hb
 refine den_sound hE hm _ (.two .leaf (.two .leaf (.two .leaf (.two (.ord [0, 1, 2, 3, 4, 6, 7, 8, 9, 10, 11, 12, 13, 14, 15, 16, 17, 20, 5, 18, 19, 21, 22, 23, 24]) (.two (.ord [0, 1, 2, 3, 4, 5, 6, 7]) .leaf))))) _ _ _ (⟨annOk_leaf, ⟨annOk_leaf, ⟨annOk_leaf, ⟨trivial, ⟨trivial, annOk_leaf⟩⟩⟩⟩⟩) ?_
 refine cast ?_ hb
 kernel_rfl
def N68 (x0 : Sl) (h : Hp) (K : Int → Int → Int → Int → Bool → Int → Int → Sl → Int → Hp → Prop) : Prop :=
 nw h (.cells ⟨[.slice x0.p x0.n x0.c]⟩ 32) fun b0 h0 =>
 nw h0 (.cells ⟨[.int .i64 0, .int .i64 0, .int .i64 0, .int .i64 0, .bool false, .int .u32 0, .int .u32 0]⟩ 96) fun b1 h1 =>
 nw h1 (.cells ⟨[.slice none 0 0]⟩ 32) fun b2 h2 =>
 nw h2 (.cells ⟨[.int .i64 0]⟩ 26) fun b3 h3 =>
 xL (cell h3 (bk b0)) fun s0 =>
 C84 (decide (((s0.n : Nat) : Int) ≥ 20)) 5 h3 fun h4 =>
 C85 2 2 (some (bk b0)) h4 fun n0 h5 =>
 C85 6 2 (some (bk b0)) h5 fun n1 h6 =>
 xL (cell h6 (bk b0)) fun s1 =>
 idx 0 s1.n <|
 nn s1.p fun a0 =>
 xI .u8 (cell h6 (a0.add ((0 : Int).toNat * 1))) fun n2 =>
 C84 ((Int.fdiv n2 (2 ^ 4)) == 4) 90 h6 fun h7 =>
 xL (cell h7 (bk b0)) fun s2 =>
 idx 0 s2.n <|
 nn s2.p fun a1 =>
 xI .u8 (cell h7 (a1.add ((0 : Int).toNat * 1))) fun n3 =>
 C84 (decide ((IntKind.wrap .u8 (BitVec.ofInt 8 n3 &&& BitVec.ofInt 8 15).toNat) ≤ 5)) 91 h7 fun h8 =>
 xL (cell h8 (bk b0)) fun s3 =>
 idx 0 s3.n <|
 nn s3.p fun a2 =>
 xI .u8 (cell h8 (a2.add ((0 : Int).toNat * 1))) fun n4 =>
 bif ((IntKind.wrap .u8 (BitVec.ofInt 8 n4 &&& BitVec.ofInt 8 15).toNat) == 5) then
 bif (decide (n0 ≥ 20)) then
 xL (cell h8 (bk b0)) fun s4 =>
 C84 (decide (n0 ≤ ((s4.n : Nat) : Int))) 92 h8 fun h9 =>
 N68_j0 (some (bk b0)) (some (bk b1)) (some (bk b2)) (some (bk b3)) (.func (.func 85) ⟨[]⟩ ⟨[.pointer (some (bk b0))]⟩) n0 n1 h9
 (fun h10 =>
 xI .i64 (cell h10 (bk b1)) fun n5 =>
 xI .i64 (cell h10 ((bk b1).add 1)) fun n6 =>
 xI .i64 (cell h10 ((bk b1).add 2)) fun n7 =>
 xI .i64 (cell h10 ((bk b1).add 3)) fun n8 =>
 xB (cell h10 ((bk b1).add 4)) fun b4 =>
 xI .u32 (cell h10 ((bk b1).add 5)) fun n9 =>
 xI .u32 (cell h10 ((bk b1).add 6)) fun n10 =>
 xL (cell h10 (bk b2)) fun s5 =>
 xI .i64 (cell h10 (bk b3)) fun n11 =>
 K n5 n6 n7 n8 b4 n9 n10 s5 n11 h10)
 else
 C84 false 92 h8 fun h11 =>
 N68_j0 (some (bk b0)) (some (bk b1)) (some (bk b2)) (some (bk b3)) (.func (.func 85) ⟨[]⟩ ⟨[.pointer (some (bk b0))]⟩) n0 n1 h11
 (fun h12 =>
 xI .i64 (cell h12 (bk b1)) fun n12 =>
 xI .i64 (cell h12 ((bk b1).add 1)) fun n13 =>
 xI .i64 (cell h12 ((bk b1).add 2)) fun n14 =>
 xI .i64 (cell h12 ((bk b1).add 3)) fun n15 =>
 xB (cell h12 ((bk b1).add 4)) fun b5 =>
 xI .u32 (cell h12 ((bk b1).add 5)) fun n16 =>
 xI .u32 (cell h12 ((bk b1).add 6)) fun n17 =>
 xL (cell h12 (bk b2)) fun s6 =>
 xI .i64 (cell h12 (bk b3)) fun n18 =>
 K n12 n13 n14 n15 b5 n16 n17 s6 n18 h12)
 else
 C84 false 92 h8 fun h13 =>
 N68_j0 (some (bk b0)) (some (bk b1)) (some (bk b2)) (some (bk b3)) (.func (.func 85) ⟨[]⟩ ⟨[.pointer (some (bk b0))]⟩) n0 n1 h13
 (fun h14 =>
 xI .i64 (cell h14 (bk b1)) fun n19 =>
 xI .i64 (cell h14 ((bk b1).add 1)) fun n20 =>
 xI .i64 (cell h14 ((bk b1).add 2)) fun n21 =>
 xI .i64 (cell h14 ((bk b1).add 3)) fun n22 =>
 xB (cell h14 ((bk b1).add 4)) fun b6 =>
 xI .u32 (cell h14 ((bk b1).add 5)) fun n23 =>
 xI .u32 (cell h14 ((bk b1).add 6)) fun n24 =>
 xL (cell h14 (bk b2)) fun s7 =>
 xI .i64 (cell h14 (bk b3)) fun n25 =>
 K n19 n20 n21 n22 b6 n23 n24 s7 n25 h14)
noncomputable def G68 : Code := match Tryz.f83.body with | some c => c | none => .skip
noncomputable def N68_d : DefShape × Nat × Code := defG B68 G68
theorem S68 {x0 : Sl} {h : Hp} {K : Int → Int → Int → Int → Bool → Int → Int → Sl → Int → Hp → Prop} (hn : N68 x0 h K) : C68 x0 h K := by
 refine calls_of_defT (c := B68) (gc := G68) (S := N68_d.1) (tr := N68_d.2.1) (grest := N68_d.2.2) (a0 := .leaf) (a1 := (.two .leaf (.two .leaf (.two .leaf (.two .leaf (.two .leaf (.two .leaf (.xf N68_j0_t)))))))) (a2 := .leaf) hE hm Tryz.func68 rfl (g := 83) (by kernel_rfl) Tryz.func83 rfl (by kernel_rfl) (by kernel_rfl) (annOk_leaf) (⟨annOk_leaf, ⟨annOk_leaf, ⟨annOk_leaf, ⟨annOk_leaf, ⟨annOk_leaf, ⟨annOk_leaf, N68_j0_ok⟩⟩⟩⟩⟩⟩) annOk_leaf ?_
 refine cast ?_ hn
 kernel_rfl
end Go.Proofs.YtbbnpmikjdgdpaaGreat

set_option linter.unusedVariables false
set_option maxRecDepth 100000
namespace Go.Proofs.YtbbnpmikjdgdpaaGreat
open Go Go.Hw
noncomputable def B85 : Code := match Tryz.f85.body with | some c => c | none => .skip
def N85 (x0 x1 : Int) (x2 : Option Addr) (h : Hp) (K : Int → Hp → Prop) : Prop :=
 nn x2 fun a0 =>
 xL (cell h a0) fun s0 =>
 C79 s0 x0 x1 h fun n0 n1 h0 =>
 K (IntKind.wrap .i64 n0) h0
theorem S85 {x0 x1 : Int} {x2 : Option Addr} {h : Hp} {K : Int → Hp → Prop} (hn : N85 x0 x1 x2 h K) : C85 x0 x1 x2 h K := by
 refine calls_of_D Tryz.func85 (c := B85) rfl (by kernel_rfl) ?_
 refine den_sound hE hm _ .leaf _ _ _ (annOk_leaf) ?_
 refine cast ?_ hn
 kernel_rfl
end Go.Proofs.YtbbnpmikjdgdpaaGreat

set_option linter.unusedVariables false
set_option maxRecDepth 100000
namespace Go.Proofs.YtbbnpmikjdgdpaaGreat
open Go Go.Hw
noncomputable def B84 : Code := match Tryz.f84.body with | some c => c | none => .skip
def N84 (x0 : Bool) (x1 : Int) (h : Hp) (K : Hp → Prop) : Prop :=
 bif (!x0) then
 False
 else
 K h
theorem S84 {x0 : Bool} {x1 : Int} {h : Hp} {K : Hp → Prop} (hn : N84 x0 x1 h K) : C84 x0 x1 h K := by
 refine calls_of_D Tryz.func84 (c := B84) rfl (by kernel_rfl) ?_
 refine den_sound hE hm _ .leaf _ _ _ (annOk_leaf) ?_
 refine cast ?_ hn
 kernel_rfl
end Go.Proofs.YtbbnpmikjdgdpaaGreat

/-
 Packets: Decode, of those that are right.
-/
set_option linter.unusedSimpArgs false
set_option linter.unusedVariables false
set_option maxRecDepth 40000
namespace Go.Proofs.YtbbnpmikjdgdpaaGreat
open Go Go.Hw
theorem c_must {e : Int} {h : Hp} {K : Hp → Prop} (hK : K h) : C84 true e h K := by
 apply S84; unfold N84
 exact hK
theorem getV_lt (l : List UInt8) (a w : Int) (hw : w ≤ 4) : getV l a w < 4294967296 := by
 unfold getV
 split
 ·omega
 ·split
  ·omega
  ·have h1 := nat256_lt ((l.drop a.toNat).take w.toNat)
   have h2 : 256 ^ ((l.drop a.toNat).take w.toNat).length ≤ 256 ^ 4 := Nat.pow_le_pow_right (by omega) (by rw [List.length_take]; omega)
   omega
theorem c_inum {b : Nat} {a w : Int} {x : Sl} {l : List UInt8} {h : Hp} {K : Int → Hp → Prop} (hc : cell h ⟨b, 0, none⟩ = some x.v) (hr : RdB h x l) (hl : l.length ≤ 140737488355328) (hw : w ≤ 4) (hK : K ((getV l a w : Nat) : Int) h) : C85 a w (some (bk b)) h K := by
 apply S85; unfold N85
 rw [nn_some']
 refine xL_of hc ?_
 refine c_get hr hl ?_
 have := getV_lt l a w hw
 rw [wi64i (by omega) (by omega)]
 exact hK
theorem c_inumV {b : Nat} {a w : Int} {x : Sl} {l : List UInt8} {h : Hp} {K : Int → Hp → Prop} (hc : cell h ⟨b, 0, none⟩ = some x.v) (hr : RdB h x l) (hl : l.length ≤ 140737488355328) (hw : w ≤ 4) (hK : K ((getV l a w : Nat) : Int) h) :
  HCallV Tryz.prog E (.func (.func 85) ⟨[]⟩ ⟨[.pointer (some (bk b))]⟩) [.int .i64 a, .int .i64 w] h fun v h' => xI .i64 (some v) fun n => K n h' := by
 have := c_inum (a := a) (w := w) hc hr hl hw hK
 exact this
def bAt (l : List UInt8) (i : Nat) : Int := ((l.getD i 0).toNat : Int)
structure ipGood (l : List UInt8) : Prop where
 len : 20 ≤ l.length
 ver : bAt l 0 = 69
 lo : 20 ≤ getV l 2 2
 hi : getV l 2 2 ≤ l.length
 sum : sum16 (l.take 20) = 0
 fl : getV l 6 2 = 0 ∨ getV l 6 2 = 16384 ∨ getV l 6 2 = 32768 ∨ getV l 6 2 = 49152
 ttl : bAt l 8 ≠ 0
def keepOf (l : List UInt8) : Bool := getV l 6 2 == 16384 || getV l 6 2 == 49152
def ipD (l : List UInt8) : List UInt8 := (l.drop 20).take (getV l 2 2 - 20)
def ipHd (l : List UInt8) : Iph := ⟨bAt l 1, getV l 4 2, bAt l 8, bAt l 9, keepOf l, getV l 12 4, getV l 16 4⟩
theorem c_idec {l : List UInt8} {x : Sl} {h : Hp} {K : Int → Int → Int → Int → Bool → Int → Int → Sl → Int → Hp → Prop} (hg : ipGood l) (hr : RdB h x l) (hl : l.length ≤ 1099511627776)
  (hok : ∀ h' y, NewO h h' 5 1 y (bc (ipD l)) → K (ipHd l).tos (ipHd l).id (ipHd l).ttl (ipHd l).proto (ipHd l).keep (ipHd l).src (ipHd l).dst y 0 h') : C68 x h K := by
 obtain ⟨p, n, c⟩ := x
 obtain ⟨a, hpa, _⟩ := hr.get (i := 0) (by have := hg.len; omega)
 have hpa : p = some a := hpa
 subst hpa
 have xn : n = l.length := hr.n
 have xc : n ≤ c := hr.c
 have len := hg.len
 apply S68; unfold N68
 have hs0 : Sat ([] ++ [Hw.was h]) h := Sat.start
 refine hs0.nw ?_
 intro z0 h1 g0 _
 refine Sat.nw g0 ?_
 intro z1 h2 g0 _
 refine Sat.nw g0 ?_
 intro z2 h3 g0 _
 refine Sat.nw g0 ?_
 intro z3 h4 g0 _
 have g : Sat ([] ++ [Hw.was h, row z0 32 [.slice (some a) n c], row z1 96 (ipC ⟨0, 0, 0, 0, false, 0, 0⟩), row z2 32 [.slice none 0 0], row z3 26 [.int .i64 0]]) h4 := g0
 clear g0
 have was_ : ∀ {M : List Asn} {h' : Hp}, Sat ([] ++ (Hw.was h :: M)) h' → Ext none' h h' := fun g => g.was 0 rfl
 have rd : ∀ {h' : Hp} {M : List Asn}, Sat ([] ++ (Hw.was h :: M)) h' → RdB h' ⟨some a, n, c⟩ l := fun g => hr.ext (was_ g)
 have zc : ∀ {h' : Hp} {M : List Asn}, Sat ([] ++ (Hw.was h :: row z0 32 [.slice (some a) n c] :: M)) h' → cell h' ⟨z0, 0, none⟩ = some (Sl.v ⟨some a, n, c⟩) := fun g => by have := g.blk 1 rfl; rw [this.cell]; rfl
 have at_ : ∀ {h' : Hp} {M : List Asn} (i : Nat), i < l.length → Sat ([] ++ (Hw.was h :: M)) h' → cell h' (a.add i) = some (.int .u8 (bAt l i)) := by
  intro h' M i hi g
  obtain ⟨a', e1, e2⟩ := (rd g).get hi
  cases e1
  rw [e2]
  unfold bAt
  rw [List.getD_eq_getElem?_getD, List.getElem?_eq_getElem hi]; rfl
 have b255 : ∀ i, 0 ≤ bAt l i ∧ bAt l i < 256 := fun i => u8r _
 simp only [add_bk]
 refine g.lL 1 (k := 0) rfl rfl ?_
 rw [show decide (((n : Nat) : Int) ≥ 20) = true from decide_eq_true (by omega)]
 refine c_must ?_
 refine c_inum (zc g) (rd g) (by omega) (by decide) ?_
 refine c_inum (zc g) (rd g) (by omega) (by decide) ?_
 refine g.lL 1 (k := 0) rfl rfl ?_
 refine idx_of (by omega) (show (0 : Int) < (n : Nat) by omega) ?_
 simp only [nn_some']
 refine xI_of (at_ 0 (by omega) g) ?_
 rw [hg.ver, show (Int.fdiv 69 (2 ^ 4) == 4) = true from by decide]
 refine c_must ?_
 refine g.lL 1 (k := 0) rfl rfl ?_
 refine idx_of (by omega) (show (0 : Int) < (n : Nat) by omega) ?_
 refine xI_of (at_ 0 (by omega) g) ?_
 rw [hg.ver, show decide ((IntKind.wrap .u8 (BitVec.ofInt 8 69 &&& BitVec.ofInt 8 15).toNat) ≤ 5) = true from by decide]
 refine c_must ?_
 refine g.lL 1 (k := 0) rfl rfl ?_
 refine idx_of (by omega) (show (0 : Int) < (n : Nat) by omega) ?_
 refine xI_of (at_ 0 (by omega) g) ?_
 rw [hg.ver, show ((IntKind.wrap .u8 (BitVec.ofInt 8 69 &&& BitVec.ofInt 8 15).toNat) == 5) = true from by decide, cond_true]
 have hlo := hg.lo
 have hhi := hg.hi
 rw [show decide (((getV l 2 2 : Nat) : Int) ≥ 20) = true from decide_eq_true (by omega), cond_true]
 refine g.lL 1 (k := 0) rfl rfl ?_
 rw [show decide (((getV l 2 2 : Nat) : Int) ≤ ((n : Nat) : Int)) = true from decide_eq_true (by omega)]
 refine c_must ?_
 unfold N68_j0
 simp only [nn_some', add_bk]
 refine g.lL 1 (k := 0) rfl rfl ?_
 refine bd_nat (i := 20) (show 20 ≤ c by omega) ?_
 refine g.nw ?_
 intro z5 h5 g5 _
 have r5 : RdB h5 ⟨sadr (some a) c 0 1, 20, c⟩ (l.take 20) := by
  have := (rd g5).sub (lo := 0) (hi := 20) (by omega) (by omega)
  exact this
 have rp : RdP h5 ⟨some (bk z5), 1, 1⟩ [⟨sadr (some a) c 0 1, 20, c⟩] [l.take 20] := by
  refine ⟨rfl, rfl, (Sat.blk g5 5 rfl).rdc, ?_⟩
  intro i t' l' e1 e2
  match i with
  | 0 => cases e1; cases e2; exact r5
  | i + 1 => cases e1
 refine c_sum rp (by intro q hq; simp at hq; subst hq; rw [List.length_take]; omega) (by simp; omega) (by simp) ?_
 rw [show [l.take 20].flatten = l.take 20 by simp, hg.sum, show (((0 : Nat) : Int) == 0) = true from rfl]
 refine c_must ?_
 have g6 : Sat ([] ++ [Hw.was h, row z0 32 [.slice (some a) n c], row z1 96 (ipC ⟨0, 0, 0, 0, false, 0, 0⟩), row z2 32 [.slice none 0 0], row z3 26 [.int .i64 0]]) h5 := Sat.sel g5 [0, 1, 2, 3, 4] (by decide) rfl
 have hf1 : ((IntKind.wrap .i64 (BitVec.ofInt 64 ((getV l 6 2 : Nat) : Int) &&& BitVec.ofInt 64 16383).toNat) == 0) = true := by
  rcases hg.fl with e | e | e | e <;> rw [e] <;> decide
 have hf2 : ((IntKind.wrap .i64 (BitVec.ofInt 64 ((getV l 6 2 : Nat) : Int) &&& BitVec.ofInt 64 16384).toNat) != 0) = keepOf l := by
  unfold keepOf
  rcases hg.fl with e | e | e | e <;> rw [e] <;> decide
 rw [hf1]
 refine c_must ?_
 refine g6.lL 1 (k := 0) rfl rfl ?_
 refine idx_of (by omega) (show (8 : Int) < (n : Nat) by omega) ?_
 simp only [nn_some']
 refine xI_of (at_ 8 (by omega) g6) ?_
 rw [show (bAt l 8 != 0) = true by simp [hg.ttl]]
 refine c_must ?_
 refine g6.lL 1 (k := 0) rfl rfl ?_
 refine idx_of (by omega) (show (1 : Int) < (n : Nat) by omega) ?_
 simp only [nn_some']
 refine xI_of (at_ 1 (by omega) g6) ?_
 refine g6.lL 1 (k := 0) rfl rfl ?_
 refine idx_of (by omega) (show (8 : Int) < (n : Nat) by omega) ?_
 simp only [nn_some']
 refine xI_of (at_ 8 (by omega) g6) ?_
 refine g6.lL 1 (k := 0) rfl rfl ?_
 refine idx_of (by omega) (show (9 : Int) < (n : Nat) by omega) ?_
 simp only [nn_some']
 refine xI_of (at_ 9 (by omega) g6) ?_
 have w8 : ∀ i, IntKind.wrap .i64 (bAt l i) = bAt l i := fun i => by have := b255 i; exact wi64i (by omega) (by omega)
 simp only [w8]
 have ag : ∀ {i : Nat}, i < l.length → xI .u8 (cell h5 (a.add ((i : Int).toNat * 1))) fun m => Only (.int .u8 (bAt l i)) h5 (.int .u8 m) h5 := fun {i} hi => by
  rw [Int.toNat_natCast, Nat.mul_one]
  exact xI_of (at_ i hi g6) ⟨rfl, rfl⟩
 have ls : xL (cell h5 (bk z0)) fun s => Only (.slice (some a) n c) h5 (.slice s.p s.n s.c) h5 := g6.lL 1 (k := 0) rfl rfl ⟨rfl, rfl⟩
 have o1 : Only (.int .i64 (bAt l 1)) h5 (.int .i64 (bAt l 1)) h5 := ⟨rfl, rfl⟩
 refine c_inumV (zc g6) (rd g6) (by omega) (by decide) ?_
 refine ⟨⟨rfl, rfl⟩, ag (i := 9) (by omega), ls, ⟨rfl, rfl⟩, ag (i := 8) (by omega), ls, ⟨rfl, rfl⟩, ag (i := 1) (by omega), ls, ?_⟩
 refine c_inumV (zc g6) (rd g6) (by omega) (by decide) ?_
 refine ⟨⟨rfl, rfl⟩, ag (i := 9) (by omega), ls, ⟨rfl, rfl⟩, ag (i := 8) (by omega), ls, ⟨rfl, rfl⟩, ag (i := 1) (by omega), ls, ?_⟩
 refine c_inumV (zc g6) (rd g6) (by omega) (by decide) ?_
 refine ⟨⟨rfl, rfl⟩, ⟨rfl, rfl⟩, ag (i := 9) (by omega), ls, ⟨rfl, rfl⟩, ag (i := 8) (by omega), ls, ⟨rfl, rfl⟩, ag (i := 1) (by omega), ls, ?_⟩
 have v1 := getV_lt l 12 4 (by decide)
 have v2 := getV_lt l 16 4 (by decide)
 have eu : ∀ {m : Nat}, m < 4294967296 → IntKind.wrap .u32 (m : Int) = m := fun {m} hm => by show (m : Int) % 4294967296 = m; omega
 rw [eu v1, eu v2, hf2]
 have hs := g6
 unfold ipC at hs
 refine Sat.st hs 2 (k := 0) rfl (by simp) rfl fun h7 hs => ?_
 simp only [List.set_cons_zero, List.set_cons_succ] at hs
 refine Sat.st hs 2 rfl (by simp) rfl fun h7 hs => ?_
 simp only [List.set_cons_zero, List.set_cons_succ] at hs
 refine Sat.st hs 2 rfl (by simp) rfl fun h7 hs => ?_
 simp only [List.set_cons_zero, List.set_cons_succ] at hs
 refine Sat.st hs 2 rfl (by simp) rfl fun h7 hs => ?_
 simp only [List.set_cons_zero, List.set_cons_succ] at hs
 refine Sat.st hs 2 rfl (by simp) rfl fun h7 hs => ?_
 simp only [List.set_cons_zero, List.set_cons_succ] at hs
 refine Sat.st hs 2 rfl (by simp) rfl fun h7 hs => ?_
 simp only [List.set_cons_zero, List.set_cons_succ] at hs
 refine Sat.st hs 2 rfl (by simp) rfl fun h7 hs => ?_
 simp only [List.set_cons_zero, List.set_cons_succ] at hs
 have g7 : Sat ([] ++ [Hw.was h, row z0 32 [.slice (some a) n c], row z1 96 (ipC (ipHd l)), row z2 32 [.slice none 0 0], row z3 26 [.int .i64 0]]) h7 := hs
 clear hs
 refine g7.lI 2 (k := 0) rfl rfl ?_
 refine g7.lI 2 rfl rfl ?_
 refine g7.lI 2 rfl rfl ?_
 refine g7.lI 2 rfl rfl ?_
 refine g7.lB 2 rfl rfl ?_
 refine g7.lI 2 rfl rfl ?_
 refine g7.lI 2 rfl rfl ?_
 refine g7.lL 1 (k := 0) rfl rfl ?_
 refine bd_nat (i := getV l 2 2) (show getV l 2 2 ≤ c by omega) ?_
 refine bd_nat (i := 20) (by omega) ?_
 have r7 : RdB h7 ⟨sadr (some a) c 20 1, getV l 2 2 - 20, c - 20⟩ (ipD l) := (rd g7).sub (lo := 20) (hi := getV l 2 2) (by omega) (by omega)
 refine c_bclone r7 (by have := r7.n; have := getV2_lt l 2; simp [ipD]; omega) fun y h8 hy => ?_
 have g8 := g7.addNew hy
 have g8 : Sat ([] ++ [Hw.was h, row z0 32 [.slice (some a) n c], row z1 96 (ipC (ipHd l)), row z2 32 [.slice none 0 0], row z3 26 [.int .i64 0], Hw.own 5 1 y (bc (ipD l))]) h8 := g8
 refine ⟨?_, ?_⟩
 ·refine g8.lI 2 (k := 0) rfl rfl ?_
  refine g8.lI 2 rfl rfl ?_
  refine g8.lI 2 rfl rfl ?_
  refine g8.lI 2 rfl rfl ?_
  refine g8.lB 2 rfl rfl ?_
  refine g8.lI 2 rfl rfl ?_
  refine g8.lI 2 rfl rfl ?_
  exact ⟨rfl, rfl⟩
 ·have hs := g8
  unfold ipC at hs
  refine Sat.st hs 2 (k := 0) rfl (by simp) rfl fun h9 hs => ?_
  simp only [List.set_cons_zero, List.set_cons_succ] at hs
  refine Sat.st hs 2 rfl (by simp) rfl fun h9 hs => ?_
  simp only [List.set_cons_zero, List.set_cons_succ] at hs
  refine Sat.st hs 2 rfl (by simp) rfl fun h9 hs => ?_
  simp only [List.set_cons_zero, List.set_cons_succ] at hs
  refine Sat.st hs 2 rfl (by simp) rfl fun h9 hs => ?_
  simp only [List.set_cons_zero, List.set_cons_succ] at hs
  refine Sat.st hs 2 rfl (by simp) rfl fun h9 hs => ?_
  simp only [List.set_cons_zero, List.set_cons_succ] at hs
  refine Sat.st hs 2 rfl (by simp) rfl fun h9 hs => ?_
  simp only [List.set_cons_zero, List.set_cons_succ] at hs
  refine Sat.st hs 2 rfl (by simp) rfl fun h9 hs => ?_
  simp only [List.set_cons_zero, List.set_cons_succ] at hs
  refine Sat.st hs 3 (k := 0) rfl (by simp) rfl fun h9 hs => ?_
  simp only [List.set_cons_zero, List.set_cons_succ] at hs
  refine Sat.st hs 4 (k := 0) rfl (by simp) rfl fun h9 hs => ?_
  simp only [List.set_cons_zero, List.set_cons_succ] at hs
  refine Sat.lI hs 2 (k := 0) rfl rfl ?_
  refine Sat.lI hs 2 rfl rfl ?_
  refine Sat.lI hs 2 rfl rfl ?_
  refine Sat.lI hs 2 rfl rfl ?_
  refine Sat.lB hs 2 rfl rfl ?_
  refine Sat.lI hs 2 rfl rfl ?_
  refine Sat.lI hs 2 rfl rfl ?_
  refine Sat.lL hs 3 (k := 0) rfl rfl ?_
  refine Sat.lI hs 4 (k := 0) rfl rfl ?_
  have g9 : Sat ([] ++ [Hw.was h, Hw.own 5 1 y (bc (ipD l))]) h9 := hs.sel [0, 5] (by decide) rfl
  exact hok _ _ (Sat.newO g9 0 1 rfl rfl (by omega))
end Go.Proofs.YtbbnpmikjdgdpaaGreat

/-
 There and back: frames, packets, datagrams (no program).
-/
set_option linter.unusedSimpArgs false
set_option linter.unusedVariables false
set_option maxRecDepth 20000
namespace Go.Proofs.YtbbnpmikjdgdpaaGreat
open Go Go.Hw
theorem be_val (n w : Nat) (h : n < 256 ^ w) : nat256 (be n w) = n := by
 have key : ∀ (w a n : Nat), (be n w).foldl (fun a b => a * 256 + b.toNat) a = a * 256 ^ w + n % 256 ^ w := by
  intro w
  induction w with
  | zero => intro a n; simp [be, Nat.mod_one]
  | succ w ih =>
   intro a n
   simp only [be, List.foldl_cons]
   rw [ih]
   have hb : (UInt8.ofNat (n / 256 ^ w % 256)).toNat = n / 256 ^ w % 256 := by rw [UInt8.toNat_ofNat']; omega
   rw [hb, Nat.pow_succ, Nat.mod_mul, Nat.add_mul, Nat.mul_assoc, Nat.mul_comm 256 (256 ^ w), Nat.mul_comm (256 ^ w) (n / 256 ^ w % 256)]
   omega
 have := key w 0 n
 unfold nat256
 rw [this, Nat.mod_eq_of_lt h]; omega
theorem getV_mid {A B : List UInt8} {n w : Nat} {a : Int} (ha : a = A.length) (h : n < 256 ^ w) (h1 : 1 ≤ w) (h2 : w ≤ 8) : getV (A ++ be n w ++ B) a w = n := by
 subst ha
 unfold getV
 rw [if_neg (by omega), if_neg (by simp [be_len]; omega)]
 rw [Int.toNat_natCast, Int.toNat_natCast, List.append_assoc, List.drop_left, List.take_left' (be_len n w)]
 exact be_val n w h
theorem u8n {x : Int} (h : 0 ≤ x ∧ x < 256) : (((UInt8.ofNat x.toNat).toNat : Nat) : Int) = x := by rw [UInt8.toNat_ofNat']; omega
theorem mac_mid {A B : List UInt8} {m : M6} (hm : m.ok) : macOf (A ++ mb m ++ B) A.length = m := by
 obtain ⟨h1, h2, h3, h4, h5, h6⟩ := hm
 have gd : ∀ i, i < 6 → (A ++ mb m ++ B).getD (A.length + i) 0 = (mb m).getD i 0 := by
  intro i hi
  rw [List.getD_eq_getElem?_getD, List.getD_eq_getElem?_getD, List.append_assoc, List.getElem?_append_right (by omega), List.getElem?_append_left (by rw [mb_len]; omega)]
  congr 2; omega
 unfold macOf
 have g0 := gd 0 (by omega)
 rw [Nat.add_zero] at g0
 rw [g0, gd 1 (by omega), gd 2 (by omega), gd 3 (by omega), gd 4 (by omega), gd 5 (by omega)]
 obtain ⟨a, b, c, d, e, f⟩ := m
 simp only [mb, List.getD_cons_zero, List.getD_cons_succ]
 rw [u8n h1, u8n h2, u8n h3, u8n h4, u8n h5, u8n h6]
def padL (n : Nat) : List UInt8 := List.replicate (60 - (14 + n)) 0
theorem seal_back {d s : M6} {kind : Int} {data : List UInt8} (hd : d.ok) (hs : s.ok) (hk : 1536 ≤ kind ∧ kind ≤ 65535) (hl : data.length ≤ 1500) :
  openE (sealL d s kind data) = 0 ∧ macOf (sealL d s kind data) 0 = d ∧ macOf (sealL d s kind data) 6 = s ∧ ((kindOf (sealL d s kind data) : Nat) : Int) = kind ∧ (sealL d s kind data).drop 14 = data ++ padL data.length := by
 have e1 : sealL d s kind data = [] ++ mb d ++ (mb s ++ be kind.toNat 2 ++ data ++ padL data.length) := by simp [sealL, padL]
 have e2 : sealL d s kind data = mb d ++ mb s ++ (be kind.toNat 2 ++ data ++ padL data.length) := by simp [sealL, padL]
 have e3 : sealL d s kind data = (mb d ++ mb s) ++ be kind.toNat 2 ++ (data ++ padL data.length) := by simp [sealL, padL]
 have m0 : macOf (sealL d s kind data) 0 = d := by rw [e1]; exact mac_mid hd
 have m6 : macOf (sealL d s kind data) 6 = s := by rw [e2]; exact mac_mid hs
 have mk : kindOf (sealL d s kind data) = kind.toNat := by
  unfold kindOf
  rw [e3]
  exact getV_mid (w := 2) (by simp [mb_len]) (by omega) (by omega) (by omega)
 refine ⟨?_, m0, m6, by rw [mk]; omega, ?_⟩
 ·unfold openE
  have := seal_len (d := d) (s := s) (kind := kind) (data := data)
  rw [if_neg (by omega), if_neg (by omega), mk, if_neg (by omega)]
 ·rw [e3]
  exact List.drop_left' (by simp [mb_len, be_len])
theorem ws_even {A B : List UInt8} (h : A.length % 2 = 0) : ws 0 (A ++ B) = ws 0 A + ws 0 B := by
 rw [ws_app]
 have key : ∀ (B : List UInt8) (i j : Nat), i % 2 = j % 2 → ws i B = ws j B := by
  intro B
  induction B with
  | nil => intro i j _; rfl
  | cons b B ih =>
   intro i j hij
   simp only [ws]
   rw [ih (i + 1) (j + 1) (by omega)]
   congr 1
   unfold wat
   split <;> split <;> first | rfl | omega
 rw [key B (0 + A.length) 0 (by omega)]
theorem ws_be2 {n : Nat} (h : n < 65536) : ws 0 (be n 2) = n := by
 have e : be n 2 = [UInt8.ofNat (n / 256 ^ 1 % 256), UInt8.ofNat (n / 256 ^ 0 % 256)] := rfl
 rw [e]
 simp only [ws, wat]
 rw [UInt8.toNat_ofNat', UInt8.toNat_ofNat']
 simp
 omega
theorem sum_laid {W : Nat} : 65535 - fold16 (W + (65535 - fold16 W)) = 0 := by
 unfold fold16
 split <;> split <;> omega
theorem sum_laid0 {W : Nat} (h : 65535 - fold16 W = 0) : 65535 - fold16 (W + 65535) = 0 := by
 unfold fold16 at h ⊢
 split <;> (split at h) <;> omega
theorem ip_sum {p : Iph} {n : Nat} : sum16 (ipH p n (sum16 (ipH p n 0))) = 0 := by
 have e : ∀ s, s < 65536 → ws 0 (ipH p n s) = ws 0 ([69, b8 p.tos] ++ be n 2 ++ be p.id.toNat 2 ++ be (ipF p) 2 ++ [b8 p.ttl, b8 p.proto]) + s + ws 0 (be p.src.toNat 4 ++ be p.dst.toNat 4) := by
  intro s hs
  have e1 : ipH p n s = (([69, b8 p.tos] ++ be n 2 ++ be p.id.toNat 2 ++ be (ipF p) 2 ++ [b8 p.ttl, b8 p.proto]) ++ be s 2) ++ (be p.src.toNat 4 ++ be p.dst.toNat 4) := by simp [ipH]
  rw [e1, ws_even (by simp [be_len]), ws_even (by simp [be_len]), ws_be2 hs]
 have hU := sum16_lt (ipH p n 0)
 have h0 := e 0 (by omega)
 have hs : sum16 (ipH p n 0) = 65535 - fold16 (ws 0 (ipH p n 0)) := rfl
 have h1 := e (sum16 (ipH p n 0)) (by omega)
 have : ws 0 (ipH p n (sum16 (ipH p n 0))) = ws 0 (ipH p n 0) + (65535 - fold16 (ws 0 (ipH p n 0))) := by omega
 show 65535 - fold16 _ = 0
 rw [this]
 exact sum_laid
theorem ip_back {p : Iph} {data pad : List UInt8} (hw : p.well) (hs : 0 ≤ p.src ∧ p.src < 4294967296) (hd : 0 ≤ p.dst ∧ p.dst < 4294967296) (hl : data.length ≤ 1480) :
  ipGood (ipL p data ++ pad) ∧ ipHd (ipL p data ++ pad) = p ∧ ipD (ipL p data ++ pad) = data := by
 obtain ⟨w1, w2, w3, w4⟩ := hw
 have hU := sum16_lt (ipH p (20 + data.length) 0)
 have hsum := ip_sum (p := p) (n := 20 + data.length)
 have eL : ipL p data = ipH p (20 + data.length) (sum16 (ipH p (20 + data.length) 0)) ++ data := rfl
 generalize sum16 (ipH p (20 + data.length) 0) = U at hU eL hsum
 have hf : ipF p ≤ 16384 := by unfold ipF; split <;> omega
 have e0 : ipL p data ++ pad = [69, b8 p.tos] ++ be (20 + data.length) 2 ++ (be p.id.toNat 2 ++ be (ipF p) 2 ++ [b8 p.ttl, b8 p.proto] ++ be U 2 ++ be p.src.toNat 4 ++ be p.dst.toNat 4 ++ data ++ pad) := by rw [eL]; simp [ipH]
 have e1 : ipL p data ++ pad = ([69, b8 p.tos] ++ be (20 + data.length) 2) ++ be p.id.toNat 2 ++ (be (ipF p) 2 ++ [b8 p.ttl, b8 p.proto] ++ be U 2 ++ be p.src.toNat 4 ++ be p.dst.toNat 4 ++ data ++ pad) := by rw [e0]; simp
 have e2 : ipL p data ++ pad = ([69, b8 p.tos] ++ be (20 + data.length) 2 ++ be p.id.toNat 2) ++ be (ipF p) 2 ++ ([b8 p.ttl, b8 p.proto] ++ be U 2 ++ be p.src.toNat 4 ++ be p.dst.toNat 4 ++ data ++ pad) := by rw [e0]; simp
 have e3 : ipL p data ++ pad = ([69, b8 p.tos] ++ be (20 + data.length) 2 ++ be p.id.toNat 2 ++ be (ipF p) 2 ++ [b8 p.ttl, b8 p.proto] ++ be U 2) ++ be p.src.toNat 4 ++ (be p.dst.toNat 4 ++ data ++ pad) := by rw [e0]; simp
 have e4 : ipL p data ++ pad = ([69, b8 p.tos] ++ be (20 + data.length) 2 ++ be p.id.toNat 2 ++ be (ipF p) 2 ++ [b8 p.ttl, b8 p.proto] ++ be U 2 ++ be p.src.toNat 4) ++ be p.dst.toNat 4 ++ (data ++ pad) := by rw [e0]; simp
 have e5 : ipL p data ++ pad = ipH p (20 + data.length) U ++ (data ++ pad) := by rw [eL, List.append_assoc]
 have v2 : getV (ipL p data ++ pad) 2 2 = 20 + data.length := by rw [e0]; exact getV_mid (w := 2) rfl (by omega) (by omega) (by omega)
 have v4 : getV (ipL p data ++ pad) 4 2 = p.id.toNat := by rw [e1]; exact getV_mid (w := 2) rfl (by omega) (by omega) (by omega)
 have v6 : getV (ipL p data ++ pad) 6 2 = ipF p := by rw [e2]; exact getV_mid (w := 2) rfl (by omega) (by omega) (by omega)
 have v12 : getV (ipL p data ++ pad) 12 4 = p.src.toNat := by rw [e3]; exact getV_mid (w := 4) rfl (by omega) (by omega) (by omega)
 have v16 : getV (ipL p data ++ pad) 16 4 = p.dst.toNat := by rw [e4]; exact getV_mid (w := 4) rfl (by omega) (by omega) (by omega)
 have b : ∀ i, i < 20 → bAt (ipL p data ++ pad) i = bAt (ipH p (20 + data.length) U) i := by
  intro i hi
  unfold bAt
  rw [e5, List.getD_eq_getElem?_getD, List.getD_eq_getElem?_getD, List.getElem?_append_left (by rw [ipH_len]; omega)]
 have b0 : bAt (ipL p data ++ pad) 0 = 69 := by rw [b 0 (by omega)]; rfl
 have b1 : bAt (ipL p data ++ pad) 1 = p.tos := by rw [b 1 (by omega)]; exact u8n w1
 have b8' : bAt (ipL p data ++ pad) 8 = p.ttl := by rw [b 8 (by omega)]; exact u8n (by omega)
 have b9 : bAt (ipL p data ++ pad) 9 = p.proto := by rw [b 9 (by omega)]; exact u8n w4
 have len : (ipL p data ++ pad).length = 20 + data.length + pad.length := by rw [e5]; simp [ipH_len]; omega
 refine ⟨⟨by omega, b0, by omega, by omega, ?_, ?_, by omega⟩, ?_, ?_⟩
 ·rw [e5, List.take_left' ipH_len]; exact hsum
 ·rw [v6]; unfold ipF; split <;> omega
 ·obtain ⟨tos, id, ttl, proto, keep, src, dst⟩ := p
  unfold ipHd keepOf
  rw [b1, b8', b9, v4, v6, v12, v16]
  simp only at w2 hs hd
  have ek : (ipF ⟨tos, id, ttl, proto, keep, src, dst⟩ == 16384 || ipF ⟨tos, id, ttl, proto, keep, src, dst⟩ == 49152) = keep := by cases keep <;> rfl
  rw [ek, Int.toNat_of_nonneg w2.1, Int.toNat_of_nonneg hs.1, Int.toNat_of_nonneg hd.1]
 ·unfold ipD
  rw [v2, e5, List.drop_left' ipH_len]
  exact List.take_left' (by omega)
theorem udp_back {si di sp dp : Int} {data : List UInt8} (h1 : 0 ≤ sp ∧ sp ≤ 65535) (h2 : 1 ≤ dp ∧ dp ≤ 65535) (hl : data.length ≤ 1472) :
  udpDE si di (udpL si di sp dp data) = 0 ∧ ((getV (udpL si di sp dp data) 0 2 : Nat) : Int) = sp ∧ ((getV (udpL si di sp dp data) 2 2 : Nat) : Int) = dp ∧ udpD (udpL si di sp dp data) = data := by
 have ew : ∀ s, s < 65536 → ws 0 (overL si di (udpH sp dp s data)).flatten = ws 0 (be si.toNat 4 ++ be di.toNat 4 ++ [0, 17] ++ be (8 + data.length) 2 ++ be sp.toNat 2 ++ be dp.toNat 2 ++ be (8 + data.length) 2) + s + ws 0 data := by
  intro s hs
  have e1 : (overL si di (udpH sp dp s data)).flatten = ((be si.toNat 4 ++ be di.toNat 4 ++ [0, 17] ++ be (8 + data.length) 2 ++ be sp.toNat 2 ++ be dp.toNat 2 ++ be (8 + data.length) 2) ++ be s 2) ++ data := by simp only [overL, udpH_len]; simp [udpH]
  rw [e1, ws_even (by simp [be_len]), ws_even (by simp [be_len]), ws_be2 hs]
 have hU : udpS si di (udpH sp dp 0 data) ≤ 65535 := sum16_lt _
 have hs : udpS si di (udpH sp dp 0 data) = 65535 - fold16 (ws 0 (overL si di (udpH sp dp 0 data)).flatten) := rfl
 have h0 := ew 0 (by omega)
 have eL : udpL si di sp dp data = udpH sp dp (udpN (udpS si di (udpH sp dp 0 data))) data := rfl
 generalize ws 0 (overL si di (udpH sp dp 0 data)).flatten = W at hs h0
 generalize udpS si di (udpH sp dp 0 data) = U at hU hs eL
 have hn : udpN U < 65536 ∧ udpN U ≠ 0 := by unfold udpN; split <;> omega
 have hback : udpS si di (udpL si di sp dp data) = 0 := by
  show 65535 - fold16 (ws 0 (overL si di (udpL si di sp dp data)).flatten) = 0
  have h3 := ew (udpN U) hn.1
  rw [← eL] at h3
  by_cases hz : U = 0
  ·have : udpN U = 65535 := by unfold udpN; rw [if_pos hz]
   have e : ws 0 (overL si di (udpL si di sp dp data)).flatten = W + 65535 := by omega
   rw [e]
   exact sum_laid0 (by omega)
  ·have : udpN U = U := by unfold udpN; rw [if_neg hz]
   have e : ws 0 (overL si di (udpL si di sp dp data)).flatten = W + (65535 - fold16 W) := by omega
   rw [e]
   exact sum_laid
 have len : (udpL si di sp dp data).length = 8 + data.length := by rw [eL, udpH_len]
 have e0 : udpL si di sp dp data = [] ++ be sp.toNat 2 ++ (be dp.toNat 2 ++ be (8 + data.length) 2 ++ be (udpN U) 2 ++ data) := by rw [eL]; simp [udpH]
 have e2 : udpL si di sp dp data = be sp.toNat 2 ++ be dp.toNat 2 ++ (be (8 + data.length) 2 ++ be (udpN U) 2 ++ data) := by rw [eL]; simp [udpH]
 have e4 : udpL si di sp dp data = (be sp.toNat 2 ++ be dp.toNat 2) ++ be (8 + data.length) 2 ++ (be (udpN U) 2 ++ data) := by rw [eL]; simp [udpH]
 have e6 : udpL si di sp dp data = (be sp.toNat 2 ++ be dp.toNat 2 ++ be (8 + data.length) 2) ++ be (udpN U) 2 ++ data := by rw [eL]; simp [udpH]
 have v0 : getV (udpL si di sp dp data) 0 2 = sp.toNat := by rw [e0]; exact getV_mid (w := 2) rfl (by omega) (by omega) (by omega)
 have v2 : getV (udpL si di sp dp data) 2 2 = dp.toNat := by rw [e2]; exact getV_mid (w := 2) rfl (by omega) (by omega) (by omega)
 have v4 : getV (udpL si di sp dp data) 4 2 = 8 + data.length := by rw [e4]; exact getV_mid (w := 2) rfl (by omega) (by omega) (by omega)
 refine ⟨?_, by rw [v0]; omega, by rw [v2]; omega, ?_⟩
 ·unfold udpDE
  rw [v4, len, if_neg (by omega), if_neg (by omega), List.take_of_length_le (by omega), hback, if_neg (by simp), v2, if_neg (by omega)]
 ·unfold udpD
  rw [v4, e6, List.drop_left' (by simp [be_len])]
  exact List.take_of_length_le (by omega)
end Go.Proofs.YtbbnpmikjdgdpaaGreat

set_option linter.unusedVariables false
set_option maxRecDepth 100000
namespace Go.Proofs.YtbbnpmikjdgdpaaGreat
open Go Go.Hw
noncomputable def B39 : Code := match Tryz.f39.body with | some c => c | none => .skip
def N39 (x0 : Option Addr) (x1 : Int) (h : Hp) (K : Option Addr → Hp → Prop) : Prop :=
 bif (decide (x1 < 0)) then
 K none h
 else
 nn x0 fun a0 =>
 xL (cell h a0) fun s0 =>
 bif (decide (x1 ≥ ((s0.n : Nat) : Int))) then
 K none h
 else
 nn x0 fun a1 =>
 xL (cell h a1) fun s1 =>
 idx x1 s1.n <|
 nn s1.p fun a2 =>
 K (some (a2.add (x1.toNat * 1516))) h
theorem S39 {x0 : Option Addr} {x1 : Int} {h : Hp} {K : Option Addr → Hp → Prop} (hn : N39 x0 x1 h K) : C39 x0 x1 h K := by
 refine calls_of_D Tryz.func39 (c := B39) rfl (by kernel_rfl) ?_
 refine den_sound hE hm _ .leaf _ _ _ (annOk_leaf) ?_
 refine cast ?_ hn
 kernel_rfl
end Go.Proofs.YtbbnpmikjdgdpaaGreat

set_option linter.unusedVariables false
set_option maxRecDepth 100000
namespace Go.Proofs.YtbbnpmikjdgdpaaGreat
open Go Go.Hw
noncomputable def B40 : Code := match Tryz.f40.body with | some c => c | none => .skip
def N40 (x0 : Option Addr) (h : Hp) (K : Sl → Hp → Prop) : Prop :=
 nn x0 fun a0 =>
 xI .i64 (cell h (a0.add 1515)) fun n0 =>
 mkK Tryz.prog 5 n0 n0 h fun s0 h0 =>
 nn x0 fun a1 =>
 nn x0 fun a2 =>
 xI .i64 (cell h0 (a2.add 1515)) fun n1 =>
 nn x0 fun a3 =>
 xI .i64 (cell h0 (a3.add 1515)) fun n2 =>
 bd n2 1514 fun k0 =>
 bd n1 k0 fun k1 =>
 cpK Tryz.prog 5 s0 (.slice (sadr (some (a1.add 1)) k0 0 1) k1 k0) h0 fun n3 h1 =>
 K s0 h1
theorem S40 {x0 : Option Addr} {h : Hp} {K : Sl → Hp → Prop} (hn : N40 x0 h K) : C40 x0 h K := by
 refine calls_of_D Tryz.func40 (c := B40) rfl (by kernel_rfl) ?_
 refine den_sound hE hm _ (.two .leaf (.two .leaf (.two (.ord [0, 1, 2, 3, 4, 5, 6, 7, 8, 9, 10, 11, 12, 13]) .leaf))) _ _ _ (⟨annOk_leaf, ⟨annOk_leaf, ⟨trivial, annOk_leaf⟩⟩⟩) ?_
 refine cast ?_ hn
 kernel_rfl
end Go.Proofs.YtbbnpmikjdgdpaaGreat

set_option linter.unusedVariables false
set_option maxRecDepth 100000
namespace Go.Proofs.YtbbnpmikjdgdpaaGreat
open Go Go.Hw
noncomputable def B41 : Code := match Tryz.f41.body with | some c => c | none => .skip
def N41 (x0 : Option Addr) (x1 : Sl) (x2 : Bool) (h : Hp) (K : Hp → Prop) : Prop :=
 nn x0 fun a0 =>
 cpK Tryz.prog 5 ⟨sadr (some (a0.add 1)) 1514 0 1, 1514, 1514⟩ (.slice x1.p x1.n x1.c) h fun n0 h0 =>
 nn x0 fun a1 =>
 st h0 (a1.add 1515) (.int .i64 (n0 : Int)) fun h1 =>
 nn x0 fun a2 =>
 st h1 a2 (.bool x2) fun h2 =>
 K h2
theorem S41 {x0 : Option Addr} {x1 : Sl} {x2 : Bool} {h : Hp} {K : Hp → Prop} (hn : N41 x0 x1 x2 h K) : C41 x0 x1 x2 h K := by
 refine calls_of_D Tryz.func41 (c := B41) rfl (by kernel_rfl) ?_
 refine den_sound hE hm _ .leaf _ _ _ (annOk_leaf) ?_
 refine cast ?_ hn
 kernel_rfl
end Go.Proofs.YtbbnpmikjdgdpaaGreat

set_option linter.unusedVariables false
set_option maxRecDepth 100000
namespace Go.Proofs.YtbbnpmikjdgdpaaGreat
open Go Go.Hw
noncomputable def B42 : Code := match Tryz.f42.body with | some c => c | none => .skip
def N42 (x0 : Option Addr) (h : Hp) (K : Hp → Prop) : Prop :=
 nn x0 fun a0 =>
 xI .i64 (cell h (a0.add 1)) fun n0 =>
 nn x0 fun a1 =>
 xL (cell h a1) fun s0 =>
 nzK ((s0.n : Nat) : Int) <|
 nn x0 fun a2 =>
 st h (a2.add 1) (.int .i64 (Int.tmod (IntKind.wrap .i64 (n0 + 1)) ((s0.n : Nat) : Int))) fun h0 =>
 K h0
theorem S42 {x0 : Option Addr} {h : Hp} {K : Hp → Prop} (hn : N42 x0 h K) : C42 x0 h K := by
 refine calls_of_D Tryz.func42 (c := B42) rfl (by kernel_rfl) ?_
 refine den_sound hE hm _ (.ord [0, 1, 2, 3, 4, 5, 6, 7, 8, 9, 10, 11, 12, 13, 14]) _ _ _ (trivial) ?_
 refine cast ?_ hn
 kernel_rfl
end Go.Proofs.YtbbnpmikjdgdpaaGreat

/-
 The card: descriptors and rings in memory.
-/
set_option linter.unusedSimpArgs false
set_option linter.unusedVariables false
set_option maxRecDepth 20000
namespace Go.Proofs.YtbbnpmikjdgdpaaGreat
open Go Go.Hw
structure Slt where
 card : Bool
 room : List UInt8
 n : Nat
 hr : room.length = 1514
 hn : n ≤ 1514
def slotC (e : Slt) : List Value := .bool e.card :: (bc e.room ++ [.int .i64 e.n])
theorem slotC_w (e : Slt) : (slotC e).length = 1516 := by simp [slotC, e.hr]
def Slt.data (e : Slt) : List UInt8 := e.room.take e.n
def Slt.zero : Slt := ⟨false, List.replicate 1514 0, 0, by simp, by omega⟩
theorem slot_z : zc Tryz.prog 75 = slotC Slt.zero := by kernel_rfl
theorem slot_zl : (zc Tryz.prog 75).length = 1516 := by rw [slot_z]; exact slotC_w _
theorem slot_b : Tryz.prog.bytesOf 75 ≤ 2048 := by rw [show Tryz.prog.bytesOf 75 = 1528 by kernel_rfl]; omega
section
variable {L M : List Asn} {h : Hp} {s : Sl} {Q : List Slt} {r i : Nat} {e : Slt}
theorem k_at {b o : Nat} {x : Int} {K : Option Addr → Hp → Prop} (hc : cell h ⟨b, o, none⟩ = some s.v) (hno : ¬(0 ≤ x ∧ x < s.n) → K none h) (hK : ∀ k r : Nat, x = k → k < s.n → s.p = some (bk r) → K (some ⟨r, k * 1516, none⟩) h) (hp : s.n ≠ 0 → ∃ r, s.p = some (bk r)) : C39 (some ⟨b, o, none⟩) x h K := by
 apply S39; unfold N39
 by_cases h0 : x < 0
 ·rw [show decide (x < 0) = true from decide_eq_true h0, cond_true]; exact hno (by omega)
 ·rw [show decide (x < 0) = false from decide_eq_false h0, cond_false]
  simp only [nn_some']
  refine xL_of hc ?_
  by_cases h1 : x ≥ ((s.n : Nat) : Int)
  ·rw [show decide (x ≥ ((s.n : Nat) : Int)) = true from decide_eq_true h1, cond_true]; exact hno (by omega)
  ·rw [show decide (x ≥ ((s.n : Nat) : Int)) = false from decide_eq_false h1, cond_false]
   refine xL_of hc ?_
   obtain ⟨r, hr⟩ := hp (by omega)
   obtain ⟨k, rfl⟩ := Int.eq_ofNat_of_zero_le (Int.not_lt.1 h0)
   refine idx_of (by omega) (by omega) ?_
   rw [hr, nn_some', add_bk, Int.toNat_natCast]
   exact hK k r rfl (by omega) hr
theorem slot_rd (hs : Sat (L ++ M) h) (j : Nat) (hj : M[j]? = some (Hw.own 75 1516 s (Q.flatMap slotC))) (hi : Q[i]? = some e) (hr : s.p = some (bk r)) :
  cell h ⟨r, i * 1516, none⟩ = some (.bool e.card) ∧ cell h ⟨r, i * 1516 + 1515, none⟩ = some (.int .i64 e.n) ∧ ∀ n, n ≤ 1514 → RdB h ⟨some ⟨r, i * 1516 + 1, none⟩, n, n⟩ (e.room.take n) := by
 have rd : ∀ {k : Nat} {v : Value}, (slotC e)[k]? = some v → cell h ⟨r, i * 1516 + k, none⟩ = some v := by
  intro k v hk
  obtain ⟨b', hp', hc⟩ := (hs.own j hj).get (flat_get slotC_w hi hk)
  rw [hr] at hp'
  cases hp'
  exact hc
 refine ⟨rd (k := 0) rfl, rd (k := 1515) ?_, fun n hn => ⟨?_, Nat.le_refl _, ?_⟩⟩
 ·show (bc e.room ++ [Value.int .i64 e.n])[1514]? = _
  rw [List.getElem?_append_right (by rw [bc_len, e.hr]; omega), bc_len, e.hr]
  rfl
 ·show n = (e.room.take n).length
  rw [List.length_take, e.hr]; omega
 ·intro q v hq
  have hql := lt_of_get hq
  rw [bc_len, List.length_take, e.hr] at hql
  have : (slotC e)[1 + q]? = some v := by
   rw [Nat.add_comm]
   show (bc e.room ++ [Value.int .i64 e.n])[q]? = _
   rw [List.getElem?_append_left (by rw [bc_len, e.hr]; omega)]
   rw [bc_take, List.getElem?_take_of_lt (by omega)] at hq
   exact hq
  refine ⟨_, rfl, ?_⟩
  rw [add_mk]
  have := rd this
  rw [← Nat.add_assoc] at this
  exact this
theorem k_data {K : Sl → Hp → Prop} (hs : Sat (L ++ M) h) (j : Nat) (hj : M[j]? = some (Hw.own 75 1516 s (Q.flatMap slotC))) (hi : Q[i]? = some e) (hr : s.p = some (bk r))
  (hK : ∀ y h', NewO h h' 5 1 y (bc e.data) → K y h') : C40 (some ⟨r, i * 1516, none⟩) h K := by
 apply S40; unfold N40
 obtain ⟨_, c1, _⟩ := slot_rd hs j hj hi hr
 simp only [nn_some', add_mk]
 refine xI_of c1 ?_
 have hn := e.hn
 have hs0 : Sat ([] ++ [Hw.was h]) h := Sat.start
 refine hs0.mk (sz := 1) y_zl (by omega) (by omega) (by rw [y_b]; omega) (by omega) ?_
 intro y h1 yn yc g
 rw [Int.toNat_natCast] at yn yc g
 rw [y_zeros] at g
 have he := Sat.was (L := []) g 0 rfl
 have hs1 := hs.ext he
 obtain ⟨_, c2, r2⟩ := slot_rd hs1 j hj hi hr
 refine xI_of c2 ?_
 refine xI_of c2 ?_
 refine bd_nat (i := e.n) hn ?_
 refine bd_nat (i := e.n) (Nat.le_refl _) ?_
 rw [sadr_zero]
 have hd := r2 e.n hn
 have hdl : (e.room.take e.n).length = e.n := by rw [List.length_take, e.hr]; omega
 refine Sat.cp0 (n := e.n) (ns := bc e.data) g 1 rfl y_a (fun _ => rfl) (by omega) (fun G hG => hd.srcK (n := e.n) (by omega) (by rw [List.take_of_length_le (by omega)]; exact hG)) (by rw [bc_len]; exact hdl) bc_plain ?_
 intro h2 g2
 have e1 : bc e.data ++ (bc (List.replicate e.n 0)).drop e.n = bc e.data := by rw [List.drop_of_length_le (by simp), List.append_nil]
 rw [e1] at g2
 exact hK y h2 (Sat.newO g2 0 1 rfl rfl (by omega))
def Slt.putS (e : Slt) (c : Bool) (l : List UInt8) (h : l.length ≤ 1514) : Slt := ⟨c, l ++ e.room.drop l.length, l.length, by simp [e.hr]; omega, h⟩
theorem putS_data {c : Bool} {l : List UInt8} {hl : l.length ≤ 1514} : (e.putS c l hl).data = l := by simp [Slt.putS, Slt.data]
theorem k_put {x : Sl} {c : Bool} {l : List UInt8} {K : Hp → Prop} (hs : Sat (L ++ M) h) (j : Nat) (hj : M[j]? = some (Hw.own 75 1516 s (Q.flatMap slotC))) (hi : Q[i]? = some e) (hr : s.p = some (bk r)) (hx : RdB h x l) (hl : l.length ≤ 1514)
  (hK : ∀ h', Sat (L ++ M.set j (Hw.own 75 1516 s ((Q.set i (e.putS c l hl)).flatMap slotC))) h' → K h') : C41 (some ⟨r, i * 1516, none⟩) x c h K := by
 apply S41; unfold N41
 simp only [nn_some', add_mk, sadr_zero]
 have hil := lt_of_get hi
 have hjl := lt_of_get hj
 let e1 : Slt := ⟨e.card, l ++ e.room.drop l.length, e.n, by simp [e.hr]; omega, e.hn⟩
 have hx1 : slotC e1 = (slotC e).take 1 ++ bc l ++ (slotC e).drop (1 + (bc l).length) := by
  have d1 : (slotC e).drop (1 + (bc l).length) = bc (e.room.drop l.length) ++ [.int .i64 e.n] := by
   rw [bc_len, Nat.add_comm]
   show (bc e.room ++ [Value.int .i64 e.n]).drop l.length = _
   rw [List.drop_append_of_le_length (by rw [bc_len, e.hr]; exact hl), bc_drop]
  rw [d1]
  show Value.bool e.card :: (bc (l ++ e.room.drop l.length) ++ [Value.int .i64 e.n]) = _
  rw [bc_app]
  simp [slotC]
 have hmin : Nat.min l.length 1514 = l.length := Nat.min_eq_left hl
 refine hs.cpElem (x := e) (x' := e1) (ns := bc l) (ln := l.length) j hj slotC_w hi hr y_a (fun G => by show G x.n = G _; rw [hx.n]) (fun G hG => by rw [hmin]; exact hx.srcK (Nat.le_refl _) (by rw [List.take_length]; exact hG)) (by rw [bc_len, hmin]) (by rw [bc_len]; omega) bc_plain hx1 ?_
 intro h1 g1
 rw [hmin]
 have hjs : (M.set j (Hw.own 75 1516 s ((Q.set i e1).flatMap slotC)))[j]? = some (Hw.own 75 1516 s ((Q.set i e1).flatMap slotC)) := List.getElem?_set_self hjl
 let e2 : Slt := ⟨e.card, l ++ e.room.drop l.length, l.length, by simp [e.hr]; omega, hl⟩
 have hx2 : slotC e2 = (slotC e1).set 1515 (.int .i64 l.length) := by
  show Value.bool e.card :: (bc (l ++ e.room.drop l.length) ++ [Value.int .i64 l.length]) = (Value.bool e.card :: (bc (l ++ e.room.drop l.length) ++ [Value.int .i64 e.n])).set 1515 _
  rw [List.set_cons_succ, List.set_append_right _ _ (by simp [e.hr]; omega)]
  congr 2
  have : 1514 - (bc (l ++ e.room.drop l.length)).length = 0 := by simp [e.hr]; omega
  rw [this]; rfl
 refine Sat.stE g1 j hjs slotC_w (i := i) (x := e1) (x' := e2) (List.getElem?_set_self hil) (by omega) hx2 rfl hr ?_
 intro h2 g2
 rw [List.set_set, List.set_set] at g2
 have hjs2 : (M.set j (Hw.own 75 1516 s ((Q.set i e2).flatMap slotC)))[j]? = some (Hw.own 75 1516 s ((Q.set i e2).flatMap slotC)) := List.getElem?_set_self hjl
 have := Sat.stE (k := 0) (F := K) g2 j hjs2 slotC_w (i := i) (x := e2) (x' := e.putS c l hl) (v := .bool c) (List.getElem?_set_self hil) (by omega) rfl rfl hr ?_
 ·exact this
 ·intro h3 g3
  rw [List.set_set, List.set_set] at g3
  exact hK h3 g3
theorem k_step {b o x : Nat} {K : Hp → Prop} (hc : cell h ⟨b, o, none⟩ = some s.v) (hn : cell h ⟨b, o + 1, none⟩ = some (.int .i64 x)) (h0 : s.n ≠ 0) (hx : x < 1000000) (hK : st h ⟨b, o + 1, none⟩ (.int .i64 (((x + 1) % s.n : Nat) : Int)) K) : C42 (some ⟨b, o, none⟩) h K := by
 apply S42; unfold N42
 simp only [nn_some', add_mk]
 refine xI_of hn ?_
 refine xL_of hc ?_
 refine nzK_of (by omega) ?_
 rw [wi64i (by omega) (by omega), Int.tmod_eq_emod_of_nonneg (by omega)]
 exact hK
end
end Go.Proofs.YtbbnpmikjdgdpaaGreat

/-
  Maps with keys that are numbers: what is found, laid, taken away.
-/
set_option linter.unusedSimpArgs false
set_option linter.unusedVariables false
namespace Go.Hw
open Go
abbrev KV := List (Int × Value)
def kvFind (n : Int) : KV → Option Value
  | [] => none
  | (k, v) :: l => if n = k then some v else kvFind n l
def kvSet (n : Int) (x : Value) : KV → KV
  | [] => [(n, x)]
  | (k, v) :: l => if n = k then (n, x) :: l else (k, v) :: kvSet n x l
def kvDel (n : Int) : KV → KV
  | [] => []
  | (k, v) :: l => if n = k then l else (k, v) :: kvDel n l
def EsIs (κ : IntKind) (es : List MapEntry) (kv : KV) : Prop := es.map (fun e => (e.key, e.val)) = kv.map fun x => (Value.int κ x.1, x.2)
theorem EsIs.len {κ : IntKind} {es : List MapEntry} {kv : KV} (h : EsIs κ es kv) : es.length = kv.length := by have := congrArg List.length h; simpa using this
theorem map_erase {α β : Type} {f : α → β} : ∀ {l : List α} {i : Nat}, (l.eraseIdx i).map f = (l.map f).eraseIdx i
  | [], _ => rfl
  | _ :: _, 0 => rfl
  | a :: l, i + 1 => by simp [map_erase (l := l) (i := i)]
theorem findNow_kv {κ : IntKind} {n : Int} : ∀ {es : List MapEntry} {kv : KV} (i0 : Nat), EsIs κ es kv →
    (kvFind n kv = none ∧ Instr.findNow (.int κ) (.int κ n) es i0 = some none ∧ (∀ e ∈ es, e.key ≠ .int κ n) ∧ (∀ x, kvSet n x kv = kv ++ [(n, x)]) ∧ kvDel n kv = kv) ∨
    (∃ i v, Instr.findNow (.int κ) (.int κ n) es i0 = some (some (i0 + i, v)) ∧ i < es.length ∧ kvFind n kv = some v ∧ kv[i]? = some (n, v) ∧ (∀ x, kvSet n x kv = kv.set i (n, x)) ∧ kvDel n kv = kv.eraseIdx i) := by
  intro es
  induction es with
  | nil =>
    intro kv i0 h
    cases kv with
    | nil => exact .inl ⟨rfl, rfl, by simp, fun x => rfl, rfl⟩
    | cons y kv => simp [EsIs] at h
  | cons e es ih =>
    intro kv i0 h
    cases kv with
    | nil => simp [EsIs] at h
    | cons y kv =>
      obtain ⟨k, v⟩ := y
      simp only [EsIs, List.map_cons, List.cons.injEq, Prod.mk.injEq] at h
      obtain ⟨⟨hk, hv⟩, hr⟩ := h
      have hs : Instr.sameNow (.int κ) (.int κ n) e.key = some (n == k) := by rw [hk]; simp [Instr.sameNow]
      by_cases e1 : n = k
      · subst e1
        refine .inr ⟨0, v, ?_, by simp, by simp [kvFind], rfl, fun x => by simp [kvSet], by simp [kvDel]⟩
        simp [Instr.findNow, hs, hv]
      · have hs' : Instr.sameNow (.int κ) (.int κ n) e.key = some false := by rw [hs]; simp [e1]
        rcases ih (kv := kv) (i0 + 1) hr with ⟨h1, h2, h3, h4, h5⟩ | ⟨i, w, h1, h2, h3, h4, h5, h6⟩
        · refine .inl ⟨by simp [kvFind, e1, h1], by simp [Instr.findNow, hs', h2], ?_, fun x => by simp [kvSet, e1, h4 x], by simp [kvDel, e1, h5]⟩
          intro a ha
          rcases List.mem_cons.1 ha with rfl | ha
          · rw [hk]; intro q; cases q; exact e1 rfl
          · exact h3 a ha
        · refine .inr ⟨i + 1, w, ?_, by simp; omega, by simp [kvFind, e1, h3], by simpa using h4, fun x => by simp [kvSet, e1, h5 x], by simp [kvDel, e1, h6]⟩
          simp only [Instr.findNow, hs', h1]
          rw [show i0 + 1 + i = i0 + (i + 1) by omega]
def mapA (κ : IntKind) (m : Nat) (kv : KV) : Asn :=
  ⟨fun F h => (∀ x, F x ↔ x = m) ∧ ∃ es c, h m = some (.map es c) ∧ EsIs κ es.toList kv ∧ MapKept.Stamped es c,
   fun hl hh => ⟨hh.1, let ⟨es, c, h1, h2⟩ := hh.2; ⟨es, c, (hl m ((hh.1 m).2 rfl)).trans h1, h2⟩⟩,
   fun {F h x} hh hx => by obtain ⟨es, c, h1, _⟩ := hh.2; rw [(hh.1 x).1 hx, h1]; simp⟩
section
variable {L M : List Asn} {h : Hp} {κ : IntKind} {m : Nat} {kv : KV}
theorem Sat.map (hs : Sat (L ++ M) h) (j : Nat) (hj : M[j]? = some (mapA κ m kv)) : ∃ es c, h m = some (.map es c) ∧ EsIs κ es.toList kv ∧ MapKept.Stamped es c := let ⟨_, hF⟩ := hs.get' j hj; hF.2
theorem Sat.xMap (hs : Sat (L ++ M) h) (j : Nat) {F : List MapEntry → Nat → Prop} (hj : M[j]? = some (mapA κ m kv)) (hF : ∀ es c, EsIs κ es kv → F es c) : Hw.xMap h (some m) F := by
  obtain ⟨es, c, h1, h2, _⟩ := hs.map j hj
  unfold Hw.xMap
  simp only [h1]
  exact hF _ _ h2
theorem keyAt_kv {n : Int} {es : List MapEntry} {F : Option (Nat × Value) → Prop} (he : EsIs κ es kv) (hF : ∀ r, r.map Prod.snd = kvFind n kv → F r) : keyAt (.int κ) (.int κ n) es F := by
  unfold keyAt
  rcases findNow_kv (n := n) 0 he with ⟨h1, h2, _⟩ | ⟨i, v, h1, _, h3, _⟩
  · rw [h2]; exact hF _ (by rw [h1]; rfl)
  · rw [h1]; exact hF _ (by rw [h3]; rfl)
theorem rval_kv {r : Option (Nat × Value)} {o : Option Value} {z : Value} (h : r.map Prod.snd = o) : rval r z = o.getD z := by
  subst h; cases r <;> rfl
theorem Sat.lookup (hs : Sat (L ++ M) h) (j : Nat) {n : Int} {F : Option (Nat × Value) → Prop} (hj : M[j]? = some (mapA κ m kv)) (hF : ∀ r, r.map Prod.snd = kvFind n kv → F r) : Hw.xMap h (some m) fun es _ => keyAt (.int κ) (.int κ n) es F :=
  hs.xMap j hj fun es c he => keyAt_kv he hF
theorem Sat.muK {P : Program} {t kt et : TypeId} (hs : Sat (L ++ M) h) (j : Nat) {n : Int} {v : Value} {F : Hp → Prop} (hj : M[j]? = some (mapA κ m kv)) (hu : P.underlying t = some (.map kt et)) (hk : P.underlying kt = some (.int κ))
    (hF : ∀ h', Sat (L ++ M.set j (mapA κ m (kvSet n v kv))) h' → F h') : Hw.muK P t (.map (some m)) (.int κ n) v h F := by
  obtain ⟨es, c, h1, h2, h3⟩ := hs.map j hj
  unfold Hw.muK
  rw [hu]; simp only []
  rw [hk]
  simp only [plainKey, cond_true, xMapO, h1]
  unfold keyAt
  have go : ∀ es' c', EsIs κ es'.toList (kvSet n v kv) → MapKept.Stamped es' c' → F (upd h m (.map es' c')) := by
    intro es' c' q1 q2
    refine hF _ (hs.at j hj fun G hG => ⟨G, ⟨hG.1, es', c', upd_same, q1, q2⟩, fun x hx => .inl hx, fun x hx _ => upd_ne fun e => hx ((hG.1 x).2 e)⟩)
  rcases findNow_kv (n := n) 0 h2 with ⟨a1, a2, a3, a4, _⟩ | ⟨i, w, a1, a2, a3, a4, a5, _⟩
  · rw [a2]
    refine go _ _ ?_ (MapKept.stamped_push h3 a3)
    rw [a4]
    unfold EsIs at h2 ⊢
    simp only [Array.toList_push, List.map_append, List.map_cons, List.map_nil, h2]
  · rw [a1, Nat.zero_add]
    have hilt : i < es.size := by simpa using a2
    have hkey : es[i].key = .int κ n := by
      have h4 := congrArg (fun l => l[i]?) h2
      simp only [List.getElem?_map, a4, Option.map_some, Array.getElem?_toList, Array.getElem?_eq_getElem hilt, Option.some.injEq, Prod.mk.injEq] at h4
      exact h4.1
    refine go _ _ ?_ (MapKept.stamped_modify h3 i _ (fun e _ => rfl) ?_)
    · rw [a5]
      unfold EsIs at h2 ⊢
      apply List.ext_getElem?
      intro k
      have h4 := congrArg (fun l => l[k]?) h2
      simp only [List.getElem?_map, Array.getElem?_toList, Array.getElem?_modify, List.getElem?_set] at h4 ⊢
      by_cases e : i = k
      · subst e
        rw [Array.getElem?_eq_getElem hilt]
        have : i < kv.length := by have := (List.getElem?_eq_some_iff.1 a4).1; exact this
        simp [this]
      · simp only [e, if_false, h4]
    · intro e he hi
      rw [Array.getElem?_eq_getElem hilt] at hi
      cases hi; exact hkey.symm
theorem Sat.mdK {P : Program} {t kt et : TypeId} (hs : Sat (L ++ M) h) (j : Nat) {n : Int} {F : Hp → Prop} (hj : M[j]? = some (mapA κ m kv)) (hu : P.underlying t = some (.map kt et)) (hk : P.underlying kt = some (.int κ))
    (hF : ∀ h', Sat (L ++ M.set j (mapA κ m (kvDel n kv))) h' → F h') : Hw.mdK P t (.map (some m)) (.int κ n) h F := by
  obtain ⟨es, c, h1, h2, h3⟩ := hs.map j hj
  unfold Hw.mdK
  rw [hu]; simp only []
  rw [hk]
  simp only [plainKey, cond_true, xMapO, h1]
  unfold keyAt
  have go : ∀ es' c', EsIs κ es'.toList (kvDel n kv) → MapKept.Stamped es' c' → F (upd h m (.map es' c')) := by
    intro es' c' q1 q2
    refine hF _ (hs.at j hj fun G hG => ⟨G, ⟨hG.1, es', c', upd_same, q1, q2⟩, fun x hx => .inl hx, fun x hx _ => upd_ne fun e => hx ((hG.1 x).2 e)⟩)
  rcases findNow_kv (n := n) 0 h2 with ⟨a1, a2, a3, _, a4⟩ | ⟨i, w, a1, a2, a3, a4, _, a5⟩
  · rw [a2]
    exact go es c (by rw [a4]; exact h2) h3
  · rw [a1, Nat.zero_add]
    refine go _ _ ?_ (MapKept.stamped_erase h3 i)
    rw [a5]
    unfold EsIs at h2 ⊢
    rw [Array.toList_eraseIdxIfInBounds, map_erase, map_erase, h2]
theorem Sat.newMap {L M : List Asn} {h : Hp} {b : Nat} (κ : IntKind) (hs : Sat (L ++ M) h) (hb : h b = none) : Sat (L ++ (M ++ [mapA κ b []])) (upd h b (.map #[] 0)) :=
  hs.add (Ext.new hb) (F' := fun x => x = b) ⟨fun _ => Iff.rfl, #[], 0, upd_same, rfl, MapKept.stamped_empty 0⟩ (fun x hx => by rw [hx]; exact hb)
end
end Go.Hw

/-
  Maps that are walked; maps of pointers to objects, each told by a state.
-/
set_option linter.unusedSimpArgs false
set_option linter.unusedVariables false
namespace Go.Hw
open Go
/-! ### a map that is walked -/
def Walk (κ : IntKind) (h : Hp) (m b : Nat) (kv ks : KV) : Prop :=
  ∃ (es : Array MapEntry) (c : Nat) (gs : List MapEntry) (last : Nat), h m = some (.map es c) ∧ EsIs κ es.toList kv ∧ MapKept.Stamped es c ∧ h b = some (.mapIter (some m) c (gs.map (·.born)).toArray last) ∧ EsIs κ gs ks ∧ (gs.map (·.born)).Nodup ∧ (∀ g ∈ gs, g ∈ es.toList) ∧ last = c
def walkA (κ : IntKind) (m b : Nat) (kv ks : KV) : Asn :=
  ⟨fun F h => (∀ x, F x ↔ x = m ∨ x = b) ∧ Walk κ h m b kv ks,
   fun hl hh => ⟨hh.1, let ⟨es, c, gs, last, h1, h2, h3, h4, h5⟩ := hh.2; ⟨es, c, gs, last, (hl m ((hh.1 m).2 (.inl rfl))).trans h1, h2, h3, (hl b ((hh.1 b).2 (.inr rfl))).trans h4, h5⟩⟩,
   fun {F h x} hh hx => by
    obtain ⟨es, c, gs, last, h1, _, _, h4, _⟩ := hh.2
    rcases (hh.1 x).1 hx with rfl | rfl
    · rw [h1]; simp
    · rw [h4]; simp⟩
theorem nodup_of_map {α β : Type} {f : α → β} : ∀ {l : List α}, (l.map f).Nodup → l.Nodup
  | [], _ => List.nodup_nil
  | a :: l, h => by
    simp only [List.map_cons, List.nodup_cons] at h
    exact List.nodup_cons.2 ⟨fun q => h.1 (List.mem_map.2 ⟨a, q, rfl⟩), nodup_of_map h.2⟩
theorem EsIs.inj {κ : IntKind} {es gs : List MapEntry} {kv ks : KV} (h1 : EsIs κ es kv) (h2 : EsIs κ gs ks) (hp : gs.Perm es) : ks.Perm kv := by
  have h := hp.map fun e => (e.key, e.val)
  unfold EsIs at h1 h2
  rw [h1, h2] at h
  have g : ∀ x : Value × Value, (match x with | (.int _ n, v) => (n, v) | (_, v) => ((0 : Int), v)) = (match x with | (.int _ n, v) => (n, v) | (_, v) => ((0 : Int), v)) := fun _ => rfl
  have h' := h.map (fun x : Value × Value => (match x.1 with | .int _ n => (n, x.2) | _ => ((0 : Int), x.2)))
  simp only [List.map_map] at h'
  have e : ∀ l : KV, l.map ((fun x : Value × Value => (match x.1 with | .int _ n => (n, x.2) | _ => ((0 : Int), x.2))) ∘ fun x : Int × Value => (Value.int κ x.1, x.2)) = l := by
    intro l; induction l with
    | nil => rfl
    | cons a l ih => simp only [List.map_cons, ih]; rfl
  rw [e, e] at h'
  exact h'
section
variable {L : List Asn} {h : Hp} {κ : IntKind} {m b : Nat} {kv ks : KV}
theorem Sat.rgM {F : Option Addr → Hp → Prop} (hs : Sat (L ++ [mapA κ m kv]) h) (hF : ∀ b h', Sat (L ++ [walkA κ m b kv []]) h' → F (some ⟨b, 0, none⟩) h') : Hw.rgM h (some m) F := by
  obtain ⟨es, c, h1, h2, h3⟩ := hs.map 0 rfl
  unfold Hw.rgM
  simp only [h1]
  intro b hb
  refine hF b _ (hs.at 0 rfl fun G hG => ⟨fun x => x = m ∨ x = b, ⟨fun _ => Iff.rfl, es, c, [], c, ?_, h2, h3, upd_same, rfl, List.nodup_nil, by simp, rfl⟩, ?_, ?_⟩)
  · rw [upd_ne (by rintro rfl; rw [h1] at hb; cases hb)]; exact h1
  · rintro x (rfl | rfl)
    · exact .inl ((hG.1 _).2 rfl)
    · exact .inr hb
  · intro x hx hne
    exact upd_ne (by rintro rfl; exact hne hb)
theorem Sat.walk (hs : Sat (L ++ [walkA κ m b kv ks]) h) : Walk κ h m b kv ks := let ⟨_, hF⟩ := hs.get' (M := [_]) 0 rfl; hF.2
theorem Sat.endM (hs : Sat (L ++ [walkA κ m b kv ks]) h) : Sat (L ++ [mapA κ m kv]) h := by
  have hw := hs.walk
  refine hs.at 0 rfl fun G hG => ⟨fun x => x = m, ⟨fun _ => Iff.rfl, ?_⟩, fun x hx => .inl ((hG.1 x).2 (.inl hx)), fun _ _ _ => rfl⟩
  obtain ⟨es, c, gs, last, h1, h2, h3, _⟩ := hw
  exact ⟨es, c, h1, h2, h3⟩
theorem Sat.nxM {F : Bool → List Value → Hp → Prop} (hs : Sat (L ++ [walkA κ m b kv ks]) h)
    (hend : ks.Perm kv → F false [] h)
    (hF : ∀ k v h', (k, v) ∈ kv → ks.length < kv.length → Sat (L ++ [walkA κ m b kv (ks ++ [(k, v)])]) h' → F true [.int κ k, v] h') : Hw.nxM h (some ⟨b, 0, none⟩) F := by
  obtain ⟨es, c, gs, last, h1, h2, h3, h4, h5, h6, h7, rfl⟩ := hs.walk
  obtain ⟨s1, s2, s3⟩ := h3
  unfold Hw.nxM
  simp only [h4, h1]
  have n1 := nodup_of_map h6
  have n2 := nodup_of_map s2
  have born_inj : ∀ x ∈ es.toList, ∀ y ∈ es.toList, x.born = y.born → x = y := by
    intro x hx y hy e
    obtain ⟨i, hi, rfl⟩ := List.getElem_of_mem hx
    obtain ⟨j, hj, rfl⟩ := List.getElem_of_mem hy
    have := (List.getElem_inj (xs := es.toList.map (·.born)) (h₀ := by simpa using hi) (h₁ := by simpa using hj) s2).1 (by simpa using e)
    subst this; rfl
  have left_mem : ∀ e, e ∈ leftM (gs.map (·.born)).toArray es ↔ e ∈ es.toList ∧ e ∉ gs := by
    intro e
    unfold leftM
    rw [Array.mem_filter]
    simp only [List.contains_toArray, Bool.not_eq_true', List.contains_eq_mem, decide_eq_false_iff_not, Array.mem_toList_iff]
    constructor
    · rintro ⟨q1, q2⟩
      exact ⟨q1, fun q => q2 (List.mem_map.2 ⟨e, q, rfl⟩)⟩
    · rintro ⟨q1, q2⟩
      refine ⟨q1, fun q => ?_⟩
      obtain ⟨g, hg, hb⟩ := List.mem_map.1 q
      exact q2 (born_inj g (h7 g hg) e (Array.mem_toList_iff.2 q1) hb ▸ hg)
  refine ⟨?_, ?_, ?_, ?_⟩
  · cases hq : es.toList with
    | nil => have : es.isEmpty = true := by simp [← Array.toList_eq_nil_iff, hq]
             rw [this]; simp
    | cons x l =>
      have hx : x ∈ es.toList := by rw [hq]; exact List.mem_cons_self
      have h9 := s1 x hx
      have : es.all (fun x => decide (x.born ≥ last)) = false := by
        rw [← Bool.not_eq_true, Array.all_eq_true_iff_forall_mem]
        intro q
        have := q x (Array.mem_toList_iff.1 hx)
        simp at this; omega
      rw [this]; simp
  · intro e he
    exact s1 e ((left_mem e).1 he).1
  · intro hl
    refine hend (EsIs.inj h2 h5 ?_)
    refine (List.perm_ext_iff_of_nodup n1 n2).2 fun x => ⟨h7 x, fun hx => ?_⟩
    apply Classical.byContradiction
    intro hn
    have := (left_mem x).2 ⟨hx, hn⟩
    rw [hl] at this; simp at this
  · intro e he
    obtain ⟨he1, he2⟩ := (left_mem e).1 he
    obtain ⟨i, hi, hie⟩ := List.getElem_of_mem he1
    have hik : i < kv.length := by rw [← h2.len]; exact hi
    have hpair : (e.key, e.val) = (Value.int κ kv[i].1, kv[i].2) := by
      have h8 := congrArg (fun l => l[i]?) h2
      simp only [List.getElem?_map, List.getElem?_eq_getElem hi, List.getElem?_eq_getElem hik, Option.map_some, hie, Option.some.injEq] at h8
      exact h8
    simp only [Prod.mk.injEq] at hpair
    rw [hpair.1, hpair.2]
    have hlt : ks.length < kv.length := by
      rw [← h5.len, ← h2.len]
      have : (e :: gs).Subset es.toList := by
        intro x hx
        rcases List.mem_cons.1 hx with rfl | hx
        · exact he1
        · exact h7 x hx
      have := List.Nodup.length_le_of_subset (List.nodup_cons.2 ⟨he2, n1⟩) this
      rw [List.length_cons] at this; omega
    refine hF _ _ _ (List.getElem_mem hik) hlt (hs.at 0 rfl fun G hG => ⟨G, ⟨hG.1, es, last, gs ++ [e], last, ?_, h2, ⟨s1, s2, s3⟩, ?_, ?_, ?_, ?_, rfl⟩, fun x hx => .inl hx, fun x hx _ => upd_ne fun q => hx ((hG.1 x).2 (.inr q))⟩)
    · rw [upd_ne (by rintro rfl; rw [h1] at h4; cases h4)]; exact h1
    · rw [upd_same]; simp
    · unfold EsIs at h5 ⊢
      simp only [List.map_append, List.map_cons, List.map_nil, h5, hpair.1, hpair.2]
    · simp only [List.map_append, List.map_cons, List.map_nil]
      refine List.nodup_append.2 ⟨h6, by simp, ?_⟩
      intro a ha y hy
      simp only [List.mem_singleton] at hy
      subst hy
      obtain ⟨g, hg, rfl⟩ := List.mem_map.1 ha
      intro q
      exact he2 (born_inj g (h7 g hg) e he1 q ▸ hg)
    · intro g hg
      rcases List.mem_append.1 hg with hg | hg
      · exact h7 g hg
      · simp at hg; rw [hg]; exact he1
theorem Sat.enM {F : Value → Value → Prop} {k : Int} {v : Value} (hs : Sat (L ++ [walkA κ m b kv (ks ++ [(k, v)])]) h) (hF : F (.int κ k) v) : Hw.enM h (some ⟨b, 0, none⟩) F := by
  obtain ⟨es, c, gs, last, h1, h2, h3, h4, h5, h6, h7, rfl⟩ := hs.walk
  have hl := h5.len
  simp only [List.length_append, List.length_singleton] at hl
  obtain ⟨gs', g, rfl⟩ : ∃ gs' g, gs = gs' ++ [g] := by
    rcases List.eq_nil_or_concat gs with rfl | ⟨gs', g, rfl⟩
    · simp at hl
    · exact ⟨gs', g, by simp⟩
  unfold EsIs at h5
  simp only [List.map_append, List.map_cons, List.map_nil] at h5
  have h8 := (List.append_inj' h5 rfl).2
  simp only [List.cons.injEq, and_true, Prod.mk.injEq] at h8
  unfold Hw.enM
  simp only [h4, h1]
  have e1 : ((gs' ++ [g]).map (·.born)).toArray.back? = some g.born := by simp
  simp only [e1]
  refine ⟨by trivial, ?_⟩
  have hg : g ∈ es.toList := h7 g (by simp)
  have hfind : es.find? (·.born == g.born) = some g := by
    rw [← Array.find?_toList]
    obtain ⟨s1, s2, s3⟩ := h3
    have : ∀ (l : List MapEntry), (l.map (·.born)).Nodup → g ∈ l → l.find? (·.born == g.born) = some g := by
      intro l
      induction l with
      | nil => intro _ q; cases q
      | cons a l ih =>
        intro q1 q2
        simp only [List.map_cons, List.nodup_cons] at q1
        by_cases e : a.born = g.born
        · rcases List.mem_cons.1 q2 with rfl | q2
          · simp
          · exact absurd (List.mem_map.2 ⟨g, q2, e.symm⟩) q1.1
        · rcases List.mem_cons.1 q2 with rfl | q2
          · exact absurd rfl e
          · rw [List.find?_cons_of_neg (by simpa using e)]
            exact ih q1.2 q2
    exact this _ s2 hg
  simp only [hfind]
  rw [h8.1, h8.2]; exact hF
end
end Go.Hw

/-
 Maps of pointers to objects, keyed by a number of theirs, each object told by a state.
-/
set_option linter.unusedSimpArgs false
set_option linter.unusedVariables false
namespace Go.Hw
open Go
theorem Sat.exOut {α : Type} {L : List Asn} {A : α → Asn} {h : Hp} (hs : Sat (L ++ [exs A]) h) : ∃ a, Sat (L ++ [A a]) h := by
 obtain ⟨F, h1, h2⟩ := hs
 obtain ⟨a, ha⟩ := h1 L.length (exs A) (by simp)
 refine ⟨a, F, fun i B hi => ?_, by simpa using h2⟩
 by_cases e : i < L.length
 ·rw [List.getElem?_append_left e] at hi
  exact h1 i B (by rw [List.getElem?_append_left e]; exact hi)
 ·have := lt_of_get hi
  simp at this
  have : i = L.length := by omega
  subst this
  simp at hi; subst hi; exact ha
theorem Sat.exIn {α : Type} {L : List Asn} {A : α → Asn} {h : Hp} (a : α) (hs : Sat (L ++ [A a]) h) : Sat (L ++ [exs A]) h := hs.imp 0 rfl fun F hF => ⟨a, hF⟩
theorem Sat.andPur {L M : List Asn} {h : Hp} {p : Prop} (hs : Sat (L ++ M) h) (hp : p) : Sat (L ++ (M ++ [Hw.pur p])) h :=
 Hw.Sat.add hs Ext.refl (F' := fun _ => False) ⟨fun x e => e, hp⟩ (fun x e => e.elim)
section
variable {α : Type} (key : α → Int) (obj : Nat → α → Asn)
def findK (n : Int) (l : List α) : Option α := l.find? fun a => key a == n
def updK (n : Int) (a : α) (l : List α) : List α := l.map fun x => if key x = n then a else x
def delK (n : Int) (l : List α) : List α := l.filter fun a => key a != n
def NodK (l : List α) : Prop := l.Pairwise fun a b => key a ≠ key b
def kvs (E : List (Nat × α)) : KV := E.map fun e => (key e.2, .pointer (some (bk e.1)))
def pmA (κ : IntKind) (m : Nat) (l : List α) : Asn := exs fun E : List (Nat × α) => star [mapA κ m (kvs key E), star (E.map fun e => obj e.1 e.2), pur ((E.map Prod.snd).Perm l)]
def pmH (κ : IntKind) (m : Nat) (l : List α) (n : Int) (q : Nat) : Asn :=
 exs fun x : List (Nat × α) × Nat × α => star [mapA κ m (kvs key x.1), star ((x.1.map fun e => obj e.1 e.2).eraseIdx x.2.1), pur (x.1[x.2.1]? = some (q, x.2.2) ∧ key x.2.2 = n ∧ (x.1.map Prod.snd).Perm l)]
variable {key obj}
theorem NodK.perm {a b : List α} (h : a.Perm b) : NodK key a ↔ NodK key b := h.pairwise_iff fun h e => h e.symm
theorem findK_some {n : Int} {l : List α} {a : α} (h : findK key n l = some a) : a ∈ l ∧ key a = n :=
 ⟨List.mem_of_find?_eq_some h, by have h2 := List.find?_some h; simpa using h2⟩
theorem findK_none {n : Int} {l : List α} (h : findK key n l = none) : ∀ a ∈ l, key a ≠ n := by
 intro a ha
 have := List.find?_eq_none.1 h a ha
 simpa using this
theorem findK_none_of {n : Int} {l : List α} (h : ∀ a ∈ l, key a ≠ n) : findK key n l = none := List.find?_eq_none.2 fun a ha => by simpa using h a ha
theorem findK_of {n : Int} {l : List α} (hn : NodK key l) {a : α} (ha : a ∈ l) (e : key a = n) : findK key n l = some a := by
 cases hf : findK key n l with
 | none => exact absurd e (findK_none hf a ha)
 | some q =>
  obtain ⟨h1, h2⟩ := findK_some hf
  by_cases hq : q = a
  ·rw [hq]
  ·obtain ⟨i, hi, rfl⟩ := List.getElem_of_mem ha
   obtain ⟨k, hk, rfl⟩ := List.getElem_of_mem h1
   have hne : i ≠ k := by rintro rfl; exact hq rfl
   exfalso
   rcases Nat.lt_or_gt_of_ne hne with hlt | hlt
   ·exact List.pairwise_iff_getElem.1 hn i k hi hk hlt (e.trans h2.symm)
   ·exact List.pairwise_iff_getElem.1 hn k i hk hi hlt (h2.trans e.symm)
theorem set_updK {n : Int} {b : α} : ∀ {l : List α}, NodK key l → ∀ {j : Nat} {a : α}, l[j]? = some a → key a = n → l.set j b = updK key n b l := by
 intro l
 induction l with
 | nil => intro _ j a h; simp at h
 | cons q l ih =>
  intro hn j a h e
  obtain ⟨h1, h2⟩ := List.pairwise_cons.1 hn
  cases j with
  | zero =>
   simp at h; subst h
   simp only [List.set_cons_zero, updK, List.map_cons, e, if_true]
   congr 1
   have : ∀ x ∈ l, (if key x = n then b else x) = x := fun x hx => if_neg fun q => h1 x hx (e.trans q.symm)
   rw [List.map_congr_left this, List.map_id']
  | succ j =>
   simp at h
   have := ih h2 h e
   have hq : ¬ key q = n := fun w => h1 a (List.mem_of_getElem? h) (w.trans e.symm)
   simp only [List.set_cons_succ, this, updK, List.map_cons, if_neg hq]
theorem erase_delK {n : Int} : ∀ {l : List α}, NodK key l → ∀ {j : Nat} {a : α}, l[j]? = some a → key a = n → l.eraseIdx j = delK key n l := by
 intro l
 induction l with
 | nil => intro _ j a h; simp at h
 | cons q l ih =>
  intro hn j a h e
  obtain ⟨h1, h2⟩ := List.pairwise_cons.1 hn
  cases j with
  | zero =>
   simp at h; subst h
   have : l.filter (fun a => key a != n) = l := by
    rw [List.filter_eq_self]
    intro x hx
    have := h1 x hx
    simp only [bne_iff_ne, ne_eq]
    exact fun q => this (e.trans q.symm)
   simp [delK, e, this]
  | succ j =>
   simp at h
   have := ih h2 h e
   have hq : ¬ key q = n := fun w => h1 a (List.mem_of_getElem? h) (w.trans e.symm)
   simp only [List.eraseIdx_cons_succ, this]
   simp [delK, hq]
theorem delK_none {n : Int} {l : List α} (h : ∀ a ∈ l, key a ≠ n) : delK key n l = l := by
 unfold delK
 rw [List.filter_eq_self]
 intro x hx; simpa using h x hx
theorem updK_same {n : Int} {l : List α} (hn : NodK key l) {a : α} (ha : findK key n l = some a) : updK key n a l = l := by
 obtain ⟨h1, h2⟩ := findK_some ha
 have : ∀ x ∈ l, (if key x = n then a else x) = x := by
  intro x hx
  split
  ·rename_i e
   have := findK_of hn hx e
   rw [ha] at this; exact Option.some.inj this
  ·rfl
 unfold updK
 rw [List.map_congr_left this, List.map_id']
theorem updK_keys {n : Int} {l : List α} {a : α} (e : key a = n) : (updK key n a l).map key = l.map key := by
 unfold updK
 rw [List.map_map]
 refine List.map_congr_left fun x hx => ?_
 simp only [Function.comp_apply]
 split
 ·rename_i q; rw [e, q]
 ·rfl
theorem kvs_case (n : Int) : ∀ E : List (Nat × α),
  ((∀ e ∈ E, key e.2 ≠ n) ∧ kvFind n (kvs key E) = none ∧ (∀ x, kvSet n x (kvs key E) = kvs key E ++ [(n, x)]) ∧ kvDel n (kvs key E) = kvs key E) ∨
  (∃ (j : Nat) (e : Nat × α), E[j]? = some e ∧ key e.2 = n ∧ kvFind n (kvs key E) = some (.pointer (some (bk e.1))) ∧ (∀ (q : Nat) (a : α), key a = n → kvSet n (.pointer (some (bk q))) (kvs key E) = kvs key (E.set j (q, a))) ∧ kvDel n (kvs key E) = kvs key (E.eraseIdx j)) := by
 intro E
 induction E with
 | nil => exact .inl ⟨by simp, rfl, fun q => rfl, rfl⟩
 | cons e E ih =>
  by_cases e1 : n = key e.2
  ·exact .inr ⟨0, e, rfl, e1.symm, by simp [kvs, kvFind, e1], fun q a ha => by simp [kvs, kvSet, e1, ha], by simp [kvs, kvDel, e1]⟩
  ·rcases ih with ⟨h1, h2, h3, h4⟩ | ⟨j, f, h1, h2, h3, h5, h4⟩
   ·refine .inl ⟨?_, ?_, fun q => ?_, ?_⟩
    ·intro x hx
     rcases List.mem_cons.1 hx with rfl | hx
     ·exact fun w => e1 w.symm
     ·exact h1 x hx
    ·simp only [kvs, List.map_cons, kvFind, e1, if_false]; exact h2
    ·have := h3 q
     simp only [kvs] at this
     simp only [kvs, List.map_cons, kvSet, e1, if_false, this, List.cons_append]
    ·simp only [kvs] at h4
     simp only [kvs, List.map_cons, kvDel, e1, if_false, h4]
   ·refine .inr ⟨j + 1, f, by simpa using h1, h2, ?_, fun q a ha => ?_, ?_⟩
    ·simp only [kvs, List.map_cons, kvFind, e1, if_false]; exact h3
    ·have := h5 q a ha
     simp only [kvs] at this
     simp only [kvs, List.map_cons, kvSet, e1, if_false, this, List.set_cons_succ]
    ·simp only [kvs] at h4
     simp only [kvs, List.map_cons, kvDel, e1, if_false, h4, List.eraseIdx_cons_succ]
section
variable {L : List Asn} {h : Hp} {κ : IntKind} {m : Nat} {l : List α}
theorem pm_open (hs : Sat (L ++ [pmA key obj κ m l]) h) : ∃ E : List (Nat × α), Sat (L ++ [mapA κ m (kvs key E), star (E.map fun e => obj e.1 e.2)]) h ∧ (E.map Prod.snd).Perm l := by
 obtain ⟨E, hs⟩ := hs.exOut
 have hs : Sat (L ++ [star [mapA κ m (kvs key E), star (E.map fun e => obj e.1 e.2), pur ((E.map Prod.snd).Perm l)]]) h := hs
 have hs := hs.open
 exact ⟨E, hs.sel [0, 1] (by decide) rfl, hs.pur 2 rfl⟩
theorem pm_shut {E : List (Nat × α)} (hs : Sat (L ++ [mapA κ m (kvs key E), star (E.map fun e => obj e.1 e.2)]) h) (hp : (E.map Prod.snd).Perm l) : Sat (L ++ [pmA key obj κ m l]) h := by
 have h1 : Sat (L ++ [mapA κ m (kvs key E), star (E.map fun e => obj e.1 e.2), pur ((E.map Prod.snd).Perm l)]) h := hs.andPur hp
 have h2 := h1.close
 unfold pmA
 exact h2.exIn E
theorem pm_find {n : Int} {F : Option (Nat × Value) → Prop} (hs : Sat (L ++ [pmA key obj κ m l]) h) (hn : NodK key l)
  (h0 : findK key n l = none → ∀ r, r.map Prod.snd = none → F r)
  (h1 : ∀ a q, findK key n l = some a → Sat (L ++ [pmH key obj κ m l n q, obj q a]) h → ∀ r, r.map Prod.snd = some (.pointer (some (bk q))) → F r) : xMap h (some m) fun es _ => keyAt (.int κ) (.int κ n) es F := by
 obtain ⟨E, hs, hp⟩ := pm_open hs
 refine hs.lookup 0 rfl ?_
 intro r hr
 have hnE := (NodK.perm hp).2 hn
 rcases kvs_case (key := key) n E with ⟨q1, q2, _⟩ | ⟨j, e, q1, q2, q3, _⟩
 ·rw [q2] at hr
  refine h0 (findK_none_of fun a ha => ?_) r hr
  obtain ⟨e, he, rfl⟩ := List.mem_map.1 (hp.mem_iff.2 ha)
  exact q1 e he
 ·rw [q3] at hr
  refine h1 e.2 e.1 (findK_of hn (hp.mem_iff.1 (List.mem_map.2 ⟨e, List.mem_of_getElem? q1, rfl⟩)) q2) ?_ r hr
  have g1 : Sat ((L ++ [mapA κ m (kvs key E)]) ++ [star (E.map fun e => obj e.1 e.2)]) h := Sat.csa hs
  have g2 := g1.out j (A := obj e.1 e.2) (by rw [List.getElem?_map, q1]; rfl)
  have g3 : Sat (L ++ [obj e.1 e.2, mapA κ m (kvs key E), star ((E.map fun e => obj e.1 e.2).eraseIdx j)]) h := (Sat.asc g2).sel [2, 0, 1] (by decide) rfl
  have g4 : Sat ((L ++ [obj e.1 e.2]) ++ [mapA κ m (kvs key E), star ((E.map fun e => obj e.1 e.2).eraseIdx j)]) h := Sat.csa g3
  have g5 : Sat ((L ++ [obj e.1 e.2]) ++ [mapA κ m (kvs key E), star ((E.map fun e => obj e.1 e.2).eraseIdx j), pur (E[j]? = some (e.1, e.2) ∧ key e.2 = n ∧ (E.map Prod.snd).Perm l)]) h := g4.andPur ⟨q1, q2, hp⟩
  have g6 : Sat ((L ++ [obj e.1 e.2]) ++ [pmH key obj κ m l n e.1]) h := g5.close.exIn (A := fun x : List (Nat × α) × Nat × α => star [mapA κ m (kvs key x.1), star ((x.1.map fun e => obj e.1 e.2).eraseIdx x.2.1), pur (x.1[x.2.1]? = some (e.1, x.2.2) ∧ key x.2.2 = n ∧ (x.1.map Prod.snd).Perm l)]) (E, j, e.2)
  exact (Sat.asc g6).sel [1, 0] (by decide) rfl
theorem pm_in {n : Int} {q : Nat} {a : α} (hs : Sat (L ++ [pmH key obj κ m l n q, obj q a]) h) (hn : NodK key l) (ha : key a = n) : Sat (L ++ [pmA key obj κ m (updK key n a l)]) h := by
 have g1 : Sat ((L ++ [obj q a]) ++ [pmH key obj κ m l n q]) h := Sat.csa (hs.sel [1, 0] (by decide) rfl)
 obtain ⟨⟨E, j, a0⟩, g2⟩ := Sat.exOut g1
 have g2 : Sat ((L ++ [obj q a]) ++ [star [mapA κ m (kvs key E), star ((E.map fun e => obj e.1 e.2).eraseIdx j), pur (E[j]? = some (q, a0) ∧ key a0 = n ∧ (E.map Prod.snd).Perm l)]]) h := g2
 have g3 := g2.open
 obtain ⟨e1, e2, e3⟩ := g3.pur 2 rfl
 have g4 : Sat (L ++ [obj q a, mapA κ m (kvs key E), star ((E.map fun e => obj e.1 e.2).eraseIdx j), pur (E[j]? = some (q, a0) ∧ key a0 = n ∧ (E.map Prod.snd).Perm l)]) h := Sat.asc g3
 have g5 : Sat ((L ++ [mapA κ m (kvs key E)]) ++ [star ((E.map fun e => obj e.1 e.2).eraseIdx j), obj q a]) h := Sat.csa (g4.sel [1, 2, 0] (by decide) rfl)
 have hj : j < E.length := lt_of_get e1
 have g6 := g5.inn j (by simpa using hj)
 have e4 : (E.map fun e => obj e.1 e.2).set j (obj q a) = (E.set j (q, a)).map fun e => obj e.1 e.2 := by rw [List.map_set]
 rw [e4] at g6
 have e5 : kvs key E = kvs key (E.set j (q, a)) := by
  unfold kvs
  rw [List.map_set]
  refine (List.ext_getElem? fun i => ?_)
  rw [List.getElem?_set]
  split
  ·rename_i e; subst e
   simp only [List.length_map, hj, if_true, List.getElem?_map, e1, Option.map_some, e2, ha]
  ·rfl
 rw [e5] at g6
 refine pm_shut (Sat.asc g6) ?_
 have hnE := (NodK.perm e3).2 hn
 have e6 : (E.set j (q, a)).map Prod.snd = updK key n a (E.map Prod.snd) := by
  rw [List.map_set]
  exact set_updK hnE (j := j) (a := a0) (by rw [List.getElem?_map, e1]; rfl) e2
 rw [e6]
 exact e3.map _
theorem pm_new {P : Program} {t kt et : TypeId} {q : Nat} {a : α} {F : Hp → Prop} (hs : Sat (L ++ [pmA key obj κ m l, obj q a]) h) (hu : P.underlying t = some (.map kt et)) (hk : P.underlying kt = some (.int κ)) (hf : findK key (key a) l = none)
  (hF : ∀ h', (∀ l', l'.Perm (a :: l) → Sat (L ++ [pmA key obj κ m l']) h') → F h') : Hw.muK P t (.map (some m)) (.int κ (key a)) (.pointer (some (bk q))) h F := by
 have g1 : Sat ((L ++ [obj q a]) ++ [pmA key obj κ m l]) h := Sat.csa (hs.sel [1, 0] (by decide) rfl)
 obtain ⟨E, g2, hp⟩ := pm_open g1
 refine g2.muK 0 rfl hu hk ?_
 intro h' g3
 rcases kvs_case (key := key) (key a) E with ⟨q1, _, q3, _⟩ | ⟨j, e, q1, q2, _⟩
 ·rw [q3] at g3
  have g3 : Sat ((L ++ [obj q a]) ++ [mapA κ m (kvs key (E ++ [(q, a)])), star (E.map fun e => obj e.1 e.2)]) h' := by
   have : kvs key (E ++ [(q, a)]) = kvs key E ++ [(key a, .pointer (some (bk q)))] := by simp [kvs]
   rw [this]; exact g3
  have g4 : Sat ((L ++ [mapA κ m (kvs key (E ++ [(q, a)]))]) ++ [star (E.map fun e => obj e.1 e.2), obj q a]) h' := Sat.csa ((Sat.asc g3).sel [1, 2, 0] (by decide) rfl)
  have g5 := g4.into
  have e1 : (E.map fun e => obj e.1 e.2) ++ [obj q a] = (E ++ [(q, a)]).map fun e => obj e.1 e.2 := by simp
  rw [e1] at g5
  refine hF h' fun l' hl' => pm_shut (Sat.asc g5) ?_
  simp only [List.map_append, List.map_cons, List.map_nil]
  exact ((List.perm_append_singleton _ _).trans (hp.cons a)).trans hl'.symm
 ·exact absurd q2 (findK_none hf e.2 (hp.mem_iff.1 (List.mem_map.2 ⟨e, List.mem_of_getElem? q1, rfl⟩)))
theorem pm_newH {P : Program} {t kt et : TypeId} {q : Nat} {a : α} {F : Hp → Prop} (hs : Sat (L ++ [pmA key obj κ m l, obj q a]) h) (hu : P.underlying t = some (.map kt et)) (hk : P.underlying kt = some (.int κ)) (hf : findK key (key a) l = none)
  (hF : ∀ h', (∀ l', l'.Perm (a :: l) → Sat (L ++ [pmH key obj κ m l' (key a) q, obj q a]) h') → F h') : Hw.muK P t (.map (some m)) (.int κ (key a)) (.pointer (some (bk q))) h F := by
 have g1 : Sat ((L ++ [obj q a]) ++ [pmA key obj κ m l]) h := Sat.csa (hs.sel [1, 0] (by decide) rfl)
 obtain ⟨E, g2, hp⟩ := pm_open g1
 refine g2.muK 0 rfl hu hk ?_
 intro h' g3
 rcases kvs_case (key := key) (key a) E with ⟨q1, _, q3, _⟩ | ⟨j, e, q1, q2, _⟩
 ·rw [q3] at g3
  have g3 : Sat ((L ++ [obj q a]) ++ [mapA κ m (kvs key (E ++ [(q, a)])), star (E.map fun e => obj e.1 e.2)]) h' := by
   have : kvs key (E ++ [(q, a)]) = kvs key E ++ [(key a, .pointer (some (bk q)))] := by simp [kvs]
   rw [this]; exact g3
  refine hF h' fun l' hl' => ?_
  have e1 : ((E ++ [(q, a)]).map fun e => obj e.1 e.2).eraseIdx E.length = E.map fun e => obj e.1 e.2 := by
   rw [List.map_append, List.eraseIdx_append_of_length_le (by simp)]
   simp
  have hp2 : ((E ++ [(q, a)]).map Prod.snd).Perm l' := by
   simp only [List.map_append, List.map_cons, List.map_nil]
   exact ((List.perm_append_singleton _ _).trans (hp.cons a)).trans hl'.symm
  have e2 : (E ++ [(q, a)])[E.length]? = some (q, a) := by simp
  rw [← e1] at g3
  have g5 : Sat ((L ++ [obj q a]) ++ [mapA κ m (kvs key (E ++ [(q, a)])), star (((E ++ [(q, a)]).map fun e => obj e.1 e.2).eraseIdx E.length), pur ((E ++ [(q, a)])[E.length]? = some (q, a) ∧ key a = key a ∧ ((E ++ [(q, a)]).map Prod.snd).Perm l')]) h' := g3.andPur ⟨e2, rfl, hp2⟩
  have g6 : Sat ((L ++ [obj q a]) ++ [pmH key obj κ m l' (key a) q]) h' := g5.close.exIn (A := fun x : List (Nat × α) × Nat × α => star [mapA κ m (kvs key x.1), star ((x.1.map fun e => obj e.1 e.2).eraseIdx x.2.1), pur (x.1[x.2.1]? = some (q, x.2.2) ∧ key x.2.2 = key a ∧ (x.1.map Prod.snd).Perm l')]) (E ++ [(q, a)], E.length, a)
  exact (Sat.asc g6).sel [1, 0] (by decide) rfl
 ·exact absurd q2 (findK_none hf e.2 (hp.mem_iff.1 (List.mem_map.2 ⟨e, List.mem_of_getElem? q1, rfl⟩)))
theorem pm_put {P : Program} {t kt et : TypeId} {q : Nat} {a a0 : α} {F : Hp → Prop} (hs : Sat (L ++ [pmA key obj κ m l, obj q a]) h) (hn : NodK key l) (hu : P.underlying t = some (.map kt et)) (hk : P.underlying kt = some (.int κ)) (hf : findK key (key a) l = some a0)
  (hF : ∀ h', Sat (L ++ [pmA key obj κ m (updK key (key a) a l)]) h' → F h') : Hw.muK P t (.map (some m)) (.int κ (key a)) (.pointer (some (bk q))) h F := by
 have g1 : Sat ((L ++ [obj q a]) ++ [pmA key obj κ m l]) h := Sat.csa (hs.sel [1, 0] (by decide) rfl)
 obtain ⟨E, g2, hp⟩ := pm_open g1
 refine g2.muK 0 rfl hu hk ?_
 intro h' g3
 rcases kvs_case (key := key) (key a) E with ⟨q1, _⟩ | ⟨j, e, q1, q2, q3, q4, _⟩
 ·obtain ⟨h1, h2⟩ := findK_some hf
  obtain ⟨e, he, rfl⟩ := List.mem_map.1 (hp.mem_iff.2 h1)
  exact absurd h2 (q1 e he)
 ·rw [q4 q a rfl] at g3
  have g3 : Sat ((L ++ [obj q a]) ++ [mapA κ m (kvs key (E.set j (q, a))), star (E.map fun e => obj e.1 e.2)]) h' := g3
  have g4 := (Sat.csa g3 (A := [_]) (B := [_])).out j (A := obj e.1 e.2) (by rw [List.getElem?_map, q1]; rfl)
  have g5 : Sat (L ++ [obj q a, mapA κ m (kvs key (E.set j (q, a))), star ((E.map fun e => obj e.1 e.2).eraseIdx j), obj e.1 e.2]) h' := Sat.asc (Sat.asc g4)
  have g6 : Sat ((L ++ [mapA κ m (kvs key (E.set j (q, a)))]) ++ [star ((E.map fun e => obj e.1 e.2).eraseIdx j), obj q a]) h' := Sat.csa (g5.sel [1, 2, 0] (by decide) rfl)
  have hj : j < E.length := lt_of_get q1
  have g7 := g6.inn j (by simpa using hj)
  have e4 : (E.map fun e => obj e.1 e.2).set j (obj q a) = (E.set j (q, a)).map fun e => obj e.1 e.2 := by rw [List.map_set]
  rw [e4] at g7
  refine hF h' (pm_shut (Sat.asc g7) ?_)
  have hnE := (NodK.perm hp).2 hn
  have e6 : (E.set j (q, a)).map Prod.snd = updK key (key a) a (E.map Prod.snd) := by
   rw [List.map_set]
   exact set_updK hnE (j := j) (a := e.2) (by rw [List.getElem?_map, q1]; rfl) q2
  rw [e6]
  exact hp.map _
theorem pm_putH {P : Program} {t kt et : TypeId} {q q0 : Nat} {a : α} {F : Hp → Prop} (hs : Sat (L ++ [pmH key obj κ m l (key a) q0, obj q a]) h) (hn : NodK key l) (hu : P.underlying t = some (.map kt et)) (hk : P.underlying kt = some (.int κ))
  (hF : ∀ h', Sat (L ++ [pmA key obj κ m (updK key (key a) a l)]) h' → F h') : Hw.muK P t (.map (some m)) (.int κ (key a)) (.pointer (some (bk q))) h F := by
 have g1 : Sat ((L ++ [obj q a]) ++ [pmH key obj κ m l (key a) q0]) h := Sat.csa (hs.sel [1, 0] (by decide) rfl)
 obtain ⟨⟨E, j, a0⟩, g2⟩ := Sat.exOut g1
 have g2 : Sat ((L ++ [obj q a]) ++ [star [mapA κ m (kvs key E), star ((E.map fun e => obj e.1 e.2).eraseIdx j), pur (E[j]? = some (q0, a0) ∧ key a0 = key a ∧ (E.map Prod.snd).Perm l)]]) h := g2
 have g3 := g2.open
 obtain ⟨e1, e2, e3⟩ := g3.pur 2 rfl
 have hj : j < E.length := lt_of_get e1
 have hnE := (NodK.perm e3).2 hn
 refine g3.muK 0 rfl hu hk ?_
 intro h' g4
 have g5 : Sat (L ++ [obj q a, mapA κ m (kvSet (key a) (.pointer (some (bk q))) (kvs key E)), star ((E.map fun e => obj e.1 e.2).eraseIdx j), pur (E[j]? = some (q0, a0) ∧ key a0 = key a ∧ (E.map Prod.snd).Perm l)]) h' := Sat.asc g4
 have g6 : Sat ((L ++ [mapA κ m (kvSet (key a) (.pointer (some (bk q))) (kvs key E))]) ++ [star ((E.map fun e => obj e.1 e.2).eraseIdx j), obj q a]) h' := Sat.csa (g5.sel [1, 2, 0] (by decide) rfl)
 have g7 := g6.inn j (by simpa using hj)
 have e4 : (E.map fun e => obj e.1 e.2).set j (obj q a) = (E.set j (q, a)).map fun e => obj e.1 e.2 := by rw [List.map_set]
 rw [e4] at g7
 have e5 : kvSet (key a) (.pointer (some (bk q))) (kvs key E) = kvs key (E.set j (q, a)) := by
  rcases kvs_case (key := key) (key a) E with ⟨q1, _⟩ | ⟨j', e, q1, q2, _, q4, _⟩
  ·exact absurd e2 (q1 _ (List.mem_of_getElem? e1))
  ·have : j' = j := by
    have hnE' : E.Pairwise fun a b => key a.2 ≠ key b.2 := (List.pairwise_map (R := fun a b => key a ≠ key b)).1 hnE
    have hj' : j' < E.length := lt_of_get q1
    rw [List.getElem?_eq_getElem hj'] at q1
    rw [List.getElem?_eq_getElem hj] at e1
    rcases Nat.lt_trichotomy j' j with hlt | h0 | hlt
    ·exact absurd (by rw [Option.some.inj q1, Option.some.inj e1]; exact q2.trans e2.symm) (List.pairwise_iff_getElem.1 hnE' j' j hj' hj hlt)
    ·exact h0
    ·exact absurd (by rw [Option.some.inj q1, Option.some.inj e1]; exact e2.trans q2.symm) (List.pairwise_iff_getElem.1 hnE' j j' hj hj' hlt)
   subst this
   exact q4 q a rfl
 rw [e5] at g7
 refine hF h' (pm_shut (Sat.asc g7) ?_)
 have e6 : (E.set j (q, a)).map Prod.snd = updK key (key a) a (E.map Prod.snd) := by
  rw [List.map_set]
  exact set_updK hnE (j := j) (a := a0) (by rw [List.getElem?_map, e1]; rfl) e2
 rw [e6]
 exact e3.map _
theorem pm_del {P : Program} {t kt et : TypeId} {n : Int} {F : Hp → Prop} (hs : Sat (L ++ [pmA key obj κ m l]) h) (hn : NodK key l) (hu : P.underlying t = some (.map kt et)) (hk : P.underlying kt = some (.int κ))
  (hF : ∀ h', Sat (L ++ [pmA key obj κ m (delK key n l)]) h' → F h') : Hw.mdK P t (.map (some m)) (.int κ n) h F := by
 obtain ⟨E, g2, hp⟩ := pm_open hs
 refine g2.mdK 0 rfl hu hk ?_
 intro h' g3
 have hnE := (NodK.perm hp).2 hn
 rcases kvs_case (key := key) n E with ⟨q1, _, _, q3⟩ | ⟨j, e, q1, q2, q3, _, q4⟩
 ·rw [q3] at g3
  refine hF h' (pm_shut g3 ?_)
  rw [delK_none]
  ·exact hp
  ·intro a ha
   obtain ⟨e, he, rfl⟩ := List.mem_map.1 (hp.mem_iff.2 ha)
   exact q1 e he
 ·rw [q4] at g3
  have g4 := (Sat.csa g3 (A := [_]) (B := [_])).out j (A := obj e.1 e.2) (by rw [List.getElem?_map, q1]; rfl)
  have g5 : Sat (L ++ [mapA κ m (kvs key (E.eraseIdx j)), star ((E.map fun e => obj e.1 e.2).eraseIdx j)]) h' := (Sat.asc g4).sel [0, 1] (by decide) rfl
  have e4 : (E.map fun e => obj e.1 e.2).eraseIdx j = (E.eraseIdx j).map fun e => obj e.1 e.2 := by rw [map_erase]
  rw [e4] at g5
  refine hF h' (pm_shut g5 ?_)
  have e6 : (E.eraseIdx j).map Prod.snd = delK key n (E.map Prod.snd) := by
   rw [map_erase]
   exact erase_delK hnE (j := j) (a := e.2) (by rw [List.getElem?_map, q1]; rfl) q2
  rw [e6]
  exact hp.filter _
theorem pm_len {F : List MapEntry → Nat → Prop} (hs : Sat (L ++ [pmA key obj κ m l]) h) (hF : ∀ es c, es.length = l.length → F es c) : xMap h (some m) F := by
 obtain ⟨E, hs, hp⟩ := pm_open hs
 refine hs.xMap 0 rfl ?_
 intro es c he
 refine hF es c ?_
 rw [he.len]
 have := hp.length_eq
 simp only [List.length_map] at this
 simp [kvs, this]
theorem pm_clear {F : Hp → Prop} (hs : Sat (L ++ [pmA key obj κ m l]) h) (hF : ∀ h', Sat (L ++ [pmA key obj κ m ([] : List α)]) h' → F h') : clM h (some m) F := by
 obtain ⟨E, hs, hp⟩ := pm_open hs
 obtain ⟨es, c, h1, h2, h3⟩ := hs.map 0 rfl
 unfold clM
 simp only [h1]
 have g1 : Sat (L ++ [mapA κ m (kvs key E)]) h := hs.sel [0] (by decide) rfl
 have g2 : Sat (L ++ [mapA κ m (kvs key ([] : List (Nat × α)))]) (upd h m (.map #[] c)) :=
  g1.at 0 rfl fun G hG => ⟨G, ⟨hG.1, #[], c, upd_same, rfl, MapKept.stamped_empty c⟩, fun x hx => .inl hx, fun x hx _ => upd_ne fun e => hx ((hG.1 x).2 e)⟩
 have g3 : Sat ((L ++ [mapA κ m (kvs key ([] : List (Nat × α)))]) ++ []) (upd h m (.map #[] c)) := by rw [List.append_nil]; exact g2
 exact hF _ (pm_shut (E := []) (Sat.asc g3.close) (List.Perm.refl _))
theorem pm_mk {b : Nat} (hs : Sat (L ++ [mapA κ b []]) h) : Sat (L ++ [pmA key obj κ b ([] : List α)]) h := by
 have g3 : Sat ((L ++ [mapA κ b (kvs key ([] : List (Nat × α)))]) ++ []) h := by rw [List.append_nil]; exact hs
 exact pm_shut (E := []) (Sat.asc g3.close) (List.Perm.refl _)
end
end
end Go.Hw

set_option linter.unusedVariables false
set_option maxRecDepth 100000
namespace Go.Proofs.YtbbnpmikjdgdpaaGreat
open Go Go.Hw
noncomputable def B9 : Code := match Tryz.f9.body with | some c => c | none => .skip
noncomputable def N9_r0_t : Ann := .xf (treeT Tryz.prog E Tryz.f9.ntmps (.one 0 (.one 3 (.fork 1 (.one 2 (.fork 4 (.one 5 (.one 6 (.fork 7 (.one 8 .done) .done))) .done)) (.fork 4 (.one 5 (.fork 1 (.one 2 (.one 6 (.fork 7 (.one 8 .done) .done))) .done)) .done)))) (codeAt B9 [1, 1, 0]))
theorem N9_r0_ok : annOk Tryz.prog Tryz.f9.ntmps N9_r0_t (codeAt B9 [1, 1, 0]) := tree_sound hE hm (by kernel_rfl)
def N9_l1_b (x5 : Option Addr) (x34 : Int) (Φ : Int → Hp → Prop) (x35 : Int) (h : Hp) (K0 : Hp → Prop) : Prop :=
 bif (decide (x35 < x34)) then
 nn x5 fun a0 =>
 xL (cell h a0) fun s0 =>
 idx x35 s0.n <|
 nn s0.p fun a1 =>
 st h (a1.add (x35.toNat * 1516)) (.bool true) fun h0 =>
 Φ (IntKind.wrap .i64 (x35 + 1)) h0
 else
 K0 h
def N9_l1_B (x5 : Option Addr) (x34 : Int) (K0 : Hp → Prop) (s : Sg.T [(35, .c (.int .i64))]) (h : Hp) (Φ : Sg.T [(35, .c (.int .i64))] → Hp → Prop) : Prop :=
 N9_l1_b x5 x34 (fun x35 h => Φ x35 h) s h K0
def N9_l1 (x5 : Option Addr) (x34 x35 : Int) (h : Hp) (K0 : Hp → Prop) : Prop :=
 loopP (N9_l1_B x5 x34 K0) x35 h
noncomputable def N9_l1_t : Xf := loopT [(5, .c (.ptr)), (34, .c (.int .i64))] [(35, .c (.int .i64))] (codeAt B9 [1, 1, 1, 0, 1, 0, 0]) fun F Q => N9_l1_B F.1 F.2 (fun h' => Q (.exit 0) (Sg.env [] ()) h')
theorem N9_l1_ok : Sound Tryz.prog Tryz.f9.ntmps N9_l1_t (codeAt B9 [1, 1, 1, 0, 1, 0]) := by
 refine loop_sound (fun e => match e with | .exit 0 => [] | _ => []) (by kernel_rfl) ?_
 intro F Q s h Φ hb
 refine den_sound hE hm _ .leaf _ _ _ (annOk_leaf) ?_
 refine cast ?_ hb
 kernel_rfl
def N9_j0 (x5 : Option Addr) (h : Hp) (Kr : Option Addr → Hp → Prop) : Prop :=
 nn x5 fun a0 =>
 xL (cell h a0) fun s0 =>
 N9_l1 x5 ((s0.n : Nat) : Int) 0 h
 (fun h0 =>
 Kr x5 h0)
noncomputable def N9_j0_t : Xf := pieceT [(5, .c (.ptr))] (codeAt B9 [1, 1, 1]) fun x h Q => N9_j0 x h (fun o0 h' => Q .ret (Sg.env [(4, .c (.ptr))] o0) h')
theorem N9_j0_ok : Sound Tryz.prog Tryz.f9.ntmps N9_j0_t (codeAt B9 [1, 1, 1]) := by
 refine piece_sound (fun e => match e with | .ret => [4] | _ => []) ?_
 intro x h Q hb
 refine den_sound hE hm _ (.two (.two .leaf (.one (.xf N9_l1_t))) .leaf) _ _ _ (⟨⟨annOk_leaf, N9_l1_ok⟩, annOk_leaf⟩) ?_
 refine cast ?_ hb
 kernel_rfl
def N9 (x0 x1 : Int) (h : Hp) (K : Option Addr → Hp → Prop) : Prop :=
 bif (decide (x0 < 1)) then
 K none h
 else
 bif (decide (x0 > 64)) then
 K none h
 else
 bif (decide (x1 < 1)) then
 K none h
 else
 bif (decide (x1 > 64)) then
 K none h
 else
 alt (
 mkK Tryz.prog 75 x0 x0 h fun s0 h0 =>
 mkK Tryz.prog 75 x1 x1 h0 fun s1 h1 =>
 nw h1 (.cells ⟨[.slice s0.p s0.n s0.c, .int .i64 0, .slice s1.p s1.n s1.c, .int .i64 0, .int .i64 0, .int .i64 0, .int .i64 0]⟩ 72) fun b0 h2 =>
 N9_j0 (some (bk b0)) h2
 (fun p0 h3 =>
 K p0 h3)) <|
 mkK Tryz.prog 75 x1 x1 h fun s2 h4 =>
 mkK Tryz.prog 75 x0 x0 h4 fun s3 h5 =>
 nw h5 (.cells ⟨[.slice s3.p s3.n s3.c, .int .i64 0, .slice s2.p s2.n s2.c, .int .i64 0, .int .i64 0, .int .i64 0, .int .i64 0]⟩ 72) fun b1 h6 =>
 N9_j0 (some (bk b1)) h6
 (fun p1 h7 =>
 K p1 h7)
theorem S9 {x0 x1 : Int} {h : Hp} {K : Option Addr → Hp → Prop} (hn : N9 x0 x1 h K) : C9 x0 x1 h K := by
 refine calls_of_D Tryz.func9 (c := B9) rfl (by kernel_rfl) ?_
 refine den_sound hE hm _ (.two .leaf (.two .leaf (.two N9_r0_t (.xf N9_j0_t)))) _ _ _ (⟨annOk_leaf, ⟨annOk_leaf, ⟨N9_r0_ok, N9_j0_ok⟩⟩⟩) ?_
 refine cast ?_ hn
 kernel_rfl
end Go.Proofs.YtbbnpmikjdgdpaaGreat

set_option linter.unusedVariables false
set_option maxRecDepth 100000
namespace Go.Proofs.YtbbnpmikjdgdpaaGreat
open Go Go.Hw
noncomputable def B18 : Code := match Tryz.f18.body with | some c => c | none => .skip
def N18 (x0 : Option Addr) (x1 : Sl) (h : Hp) (K : Bool → Hp → Prop) : Prop :=
 bif (((x1.n : Nat) : Int) == 0) then
 K false h
 else
 bif (decide (((x1.n : Nat) : Int) > 1514)) then
 K false h
 else
 nn x0 fun a0 =>
 nn x0 fun a1 =>
 xI .i64 (cell h (a1.add 1)) fun n0 =>
 C39 (some a0) n0 h fun p0 h0 =>
 nn p0 fun a2 =>
 xB (cell h0 a2) fun b0 =>
 bif (!b0) then
 nn x0 fun a3 =>
 xI .i64 (cell h0 (a3.add 5)) fun n1 =>
 nn x0 fun a4 =>
 st h0 (a4.add 5) (.int .i64 (IntKind.wrap .i64 (n1 + 1))) fun h1 =>
 K false h1
 else
 C41 p0 x1 false h0 fun h2 =>
 nn x0 fun a5 =>
 C42 (some a5) h2 fun h3 =>
 nn x0 fun a6 =>
 xI .i64 (cell h3 (a6.add 4)) fun n2 =>
 nn x0 fun a7 =>
 st h3 (a7.add 4) (.int .i64 (IntKind.wrap .i64 (n2 + 1))) fun h4 =>
 K true h4
theorem S18 {x0 : Option Addr} {x1 : Sl} {h : Hp} {K : Bool → Hp → Prop} (hn : N18 x0 x1 h K) : C18 x0 x1 h K := by
 refine calls_of_D Tryz.func18 (c := B18) rfl (by kernel_rfl) ?_
 refine den_sound hE hm _ (.two .leaf (.two .leaf (.two (.ord [0, 1, 2, 3, 4, 5, 6, 7, 8, 9]) .leaf))) _ _ _ (⟨annOk_leaf, ⟨annOk_leaf, ⟨trivial, annOk_leaf⟩⟩⟩) ?_
 refine cast ?_ hn
 kernel_rfl
end Go.Proofs.YtbbnpmikjdgdpaaGreat

set_option linter.unusedVariables false
set_option maxRecDepth 100000
namespace Go.Proofs.YtbbnpmikjdgdpaaGreat
open Go Go.Hw
noncomputable def B17 : Code := match Tryz.f17.body with | some c => c | none => .skip
def N17 (x0 : Option Addr) (h : Hp) (K : Sl → Bool → Hp → Prop) : Prop :=
 nn x0 fun a0 =>
 nn x0 fun a1 =>
 xI .i64 (cell h (a1.add 3)) fun n0 =>
 C39 (some (a0.add 2)) n0 h fun p0 h0 =>
 nn p0 fun a2 =>
 xB (cell h0 a2) fun b0 =>
 bif (!b0) then
 K ⟨none, 0, 0⟩ false h0
 else
 C40 p0 h0 fun s0 h1 =>
 C41 p0 ⟨none, 0, 0⟩ false h1 fun h2 =>
 nn x0 fun a3 =>
 C42 (some (a3.add 2)) h2 fun h3 =>
 nn x0 fun a4 =>
 xI .i64 (cell h3 (a4.add 6)) fun n1 =>
 nn x0 fun a5 =>
 st h3 (a5.add 6) (.int .i64 (IntKind.wrap .i64 (n1 + 1))) fun h4 =>
 K s0 true h4
theorem S17 {x0 : Option Addr} {h : Hp} {K : Sl → Bool → Hp → Prop} (hn : N17 x0 h K) : C17 x0 h K := by
 refine calls_of_D Tryz.func17 (c := B17) rfl (by kernel_rfl) ?_
 refine den_sound hE hm _ (.two .leaf (.two (.ord [0, 1, 2, 3, 4, 5, 6, 7, 8, 9]) .leaf)) _ _ _ (⟨annOk_leaf, ⟨trivial, annOk_leaf⟩⟩) ?_
 refine cast ?_ hn
 kernel_rfl
end Go.Proofs.YtbbnpmikjdgdpaaGreat

set_option linter.unusedVariables false
set_option maxRecDepth 100000
namespace Go.Proofs.YtbbnpmikjdgdpaaGreat
open Go Go.Hw
noncomputable def B61 : Code := match Tryz.f61.body with | some c => c | none => .skip
def N61 (x0 : Option Addr) (h : Hp) (K : Int → Int → Hp → Prop) : Prop :=
 nn x0 fun a0 =>
 xL (cell h a0) fun s0 =>
 nn x0 fun a1 =>
 xL (cell h (a1.add 2)) fun s1 =>
 K ((s0.n : Nat) : Int) ((s1.n : Nat) : Int) h
theorem S61 {x0 : Option Addr} {h : Hp} {K : Int → Int → Hp → Prop} (hn : N61 x0 h K) : C61 x0 h K := by
 refine calls_of_D Tryz.func61 (c := B61) rfl (by kernel_rfl) ?_
 refine den_sound hE hm _ (.two .leaf (.two (.ord [0, 1, 2, 3, 4, 5, 6, 7, 8, 9, 10, 11, 12, 13]) .leaf)) _ _ _ (⟨annOk_leaf, ⟨trivial, annOk_leaf⟩⟩) ?_
 refine cast ?_ hn
 kernel_rfl
end Go.Proofs.YtbbnpmikjdgdpaaGreat

set_option linter.unusedVariables false
set_option maxRecDepth 100000
namespace Go.Proofs.YtbbnpmikjdgdpaaGreat
open Go Go.Hw
noncomputable def B62 : Code := match Tryz.f62.body with | some c => c | none => .skip
def N62 (x0 : Option Addr) (x1 : Int) (h : Hp) (K : Bool → Sl → Int → Hp → Prop) : Prop :=
 nw h (.cells ⟨[.bool false, .slice none 0 0]⟩ 153) fun b0 h0 =>
 nn x0 fun a0 =>
 C78 (some a0) x1 h0 fun b1 s0 n0 h1 =>
 st h1 (bk b0) (.bool b1) fun h2 =>
 st h2 ((bk b0).add 1) (.slice s0.p s0.n s0.c) fun h3 =>
 xB (cell h3 (bk b0)) fun b2 =>
 xL (cell h3 ((bk b0).add 1)) fun s1 =>
 K b2 s1 n0 h3
theorem S62 {x0 : Option Addr} {x1 : Int} {h : Hp} {K : Bool → Sl → Int → Hp → Prop} (hn : N62 x0 x1 h K) : C62 x0 x1 h K := by
 refine calls_of_M Tryz.func62 (c := B62) rfl (by kernel_rfl) ?_
 refine den_sound hE hm _ .leaf _ _ _ (annOk_leaf) ?_
 refine cast ?_ hn
 kernel_rfl
end Go.Proofs.YtbbnpmikjdgdpaaGreat

set_option linter.unusedVariables false
set_option maxRecDepth 100000
namespace Go.Proofs.YtbbnpmikjdgdpaaGreat
open Go Go.Hw
noncomputable def B78 : Code := match Tryz.f78.body with | some c => c | none => .skip
def N78 (x0 : Option Addr) (x1 : Int) (h : Hp) (K : Bool → Sl → Int → Hp → Prop) : Prop :=
 nw h (.cells ⟨[.bool false, .slice none 0 0]⟩ 153) fun b0 h0 =>
 C39 x0 x1 h0 fun p0 h1 =>
 peq h1 p0 none fun b1 =>
 bif b1 then
 st h1 (bk b0) (.bool false) fun h2 =>
 st h2 ((bk b0).add 1) (.slice none 0 0) fun h3 =>
 xB (cell h3 (bk b0)) fun b2 =>
 xL (cell h3 ((bk b0).add 1)) fun s0 =>
 K b2 s0 40 h3
 else
 nn p0 fun a0 =>
 xB (cell h1 a0) fun b3 =>
 C40 p0 h1 fun s1 h4 =>
 both (xB (cell h4 a0) fun b4 => Only (.bool b3) h4 (.bool b4) h4) <|
 st h4 (bk b0) (.bool b3) fun h5 =>
 st h5 ((bk b0).add 1) (.slice s1.p s1.n s1.c) fun h6 =>
 xB (cell h6 (bk b0)) fun b5 =>
 xL (cell h6 ((bk b0).add 1)) fun s2 =>
 K b5 s2 0 h6
theorem S78 {x0 : Option Addr} {x1 : Int} {h : Hp} {K : Bool → Sl → Int → Hp → Prop} (hn : N78 x0 x1 h K) : C78 x0 x1 h K := by
 refine calls_of_M Tryz.func78 (c := B78) rfl (by kernel_rfl) ?_
 refine den_sound hE hm _ (.two .leaf (.two .leaf (.two .leaf (.two (.ord [0, 1, 2, 3, 4, 5, 6, 7, 8]) .leaf)))) _ _ _ (⟨annOk_leaf, ⟨annOk_leaf, ⟨annOk_leaf, ⟨trivial, annOk_leaf⟩⟩⟩⟩) ?_
 refine cast ?_ hn
 kernel_rfl
end Go.Proofs.YtbbnpmikjdgdpaaGreat

set_option linter.unusedVariables false
set_option maxRecDepth 100000
namespace Go.Proofs.YtbbnpmikjdgdpaaGreat
open Go Go.Hw
noncomputable def B65 : Code := match Tryz.f65.body with | some c => c | none => .skip
def N65 (x0 : Option Addr) (x1 : Int) (h : Hp) (K : Int → Hp → Prop) : Prop :=
 nn x0 fun a0 =>
 C39 (some a0) x1 h fun p0 h0 =>
 peq h0 p0 none fun b0 =>
 bif b0 then
 K 40 h0
 else
 nn p0 fun a1 =>
 xB (cell h0 a1) fun b1 =>
 bif b1 then
 K 41 h0
 else
 C41 p0 ⟨none, 0, 0⟩ true h0 fun h1 =>
 K 0 h1
theorem S65 {x0 : Option Addr} {x1 : Int} {h : Hp} {K : Int → Hp → Prop} (hn : N65 x0 x1 h K) : C65 x0 x1 h K := by
 refine calls_of_D Tryz.func65 (c := B65) rfl (by kernel_rfl) ?_
 refine den_sound hE hm _ .leaf _ _ _ (annOk_leaf) ?_
 refine cast ?_ hn
 kernel_rfl
end Go.Proofs.YtbbnpmikjdgdpaaGreat

set_option linter.unusedVariables false
set_option maxRecDepth 100000
namespace Go.Proofs.YtbbnpmikjdgdpaaGreat
open Go Go.Hw
noncomputable def B90 : Code := match Tryz.f90.body with | some c => c | none => .skip
def N90 (x0 : Option Addr) (x1 : Int) (x2 : Sl) (h : Hp) (K : Int → Hp → Prop) : Prop :=
 nn x0 fun a0 =>
 C39 (some (a0.add 2)) x1 h fun p0 h0 =>
 peq h0 p0 none fun b0 =>
 bif b0 then
 K 40 h0
 else
 bif (decide (((x2.n : Nat) : Int) < 60)) then
 K 5 h0
 else
 bif (decide (((x2.n : Nat) : Int) > 1514)) then
 K 2 h0
 else
 nn p0 fun a1 =>
 xB (cell h0 a1) fun b1 =>
 bif b1 then
 K 41 h0
 else
 C41 p0 x2 true h0 fun h1 =>
 K 0 h1
theorem S90 {x0 : Option Addr} {x1 : Int} {x2 : Sl} {h : Hp} {K : Int → Hp → Prop} (hn : N90 x0 x1 x2 h K) : C90 x0 x1 x2 h K := by
 refine calls_of_D Tryz.func90 (c := B90) rfl (by kernel_rfl) ?_
 refine den_sound hE hm _ .leaf _ _ _ (annOk_leaf) ?_
 refine cast ?_ hn
 kernel_rfl
end Go.Proofs.YtbbnpmikjdgdpaaGreat

/-
 The card: its rings as queues of frames; its calls.
-/
set_option linter.unusedSimpArgs false
set_option linter.unusedVariables false
set_option maxRecDepth 20000
namespace Go.Proofs.YtbbnpmikjdgdpaaGreat
open Go Go.Hw
theorem mod2 {a n : Nat} (h : a < 2 * n) : a % n = if a < n then a else a - n := by
 split
 ·exact Nat.mod_eq_of_lt (by omega)
 ·rw [Nat.mod_eq_sub_mod (by omega)]; exact Nat.mod_eq_of_lt (by omega)
structure RQ (full : Bool) (Q : List Slt) (hd : Nat) (q : List (List UInt8)) : Prop where
 lt : hd < Q.length
 len : q.length ≤ Q.length
 at_ : ∀ i, i < Q.length → ∃ e, Q[(hd + i) % Q.length]? = some e ∧ ((i < q.length → e.card = full ∧ q[i]? = some e.data) ∧ (q.length ≤ i → e.card = !full))
theorem RQ.tail {full : Bool} {Q : List Slt} {hd : Nat} {q : List (List UInt8)} (h : RQ full Q hd q) (hl : q.length < Q.length) : ∃ e, Q[(hd + q.length) % Q.length]? = some e ∧ e.card = !full := by
 obtain ⟨e, h1, _, h3⟩ := h.at_ q.length hl
 exact ⟨e, h1, h3 (Nat.le_refl _)⟩
theorem RQ.fullAt {full : Bool} {Q : List Slt} {hd : Nat} {q : List (List UInt8)} (h : RQ full Q hd q) (hl : q.length = Q.length) : ∃ e, Q[(hd + q.length) % Q.length]? = some e ∧ e.card = full := by
 have h0 := h.lt
 obtain ⟨e, h1, h2, _⟩ := h.at_ 0 (by omega)
 refine ⟨e, ?_, (h2 (by omega)).1⟩
 rw [hl, Nat.add_mod_right]
 exact h1
theorem RQ.head {full : Bool} {Q : List Slt} {hd : Nat} {q : List (List UInt8)} (h : RQ full Q hd q) : ∃ e, Q[hd]? = some e ∧ ((q = [] → e.card = !full) ∧ ∀ d r, q = d :: r → e.card = full ∧ e.data = d) := by
 have h0 := h.lt
 obtain ⟨e, h1, h2, h3⟩ := h.at_ 0 (by omega)
 rw [Nat.add_zero, Nat.mod_eq_of_lt h0] at h1
 refine ⟨e, h1, fun q0 => h3 (by rw [q0]; simp), fun d r q0 => ?_⟩
 obtain ⟨a, b⟩ := h2 (by rw [q0]; simp)
 rw [q0] at b
 cases b
 exact ⟨a, rfl⟩
theorem RQ.push {full : Bool} {Q : List Slt} {hd : Nat} {q : List (List UInt8)} (h : RQ full Q hd q) (hl : q.length < Q.length) {e : Slt} (he : Q[(hd + q.length) % Q.length]? = some e) {l : List UInt8} (hll : l.length ≤ 1514) :
  RQ full (Q.set ((hd + q.length) % Q.length) (e.putS full l hll)) hd (q ++ [l]) := by
 have h0 := h.lt
 refine ⟨by rw [List.length_set]; exact h0, by rw [List.length_set, List.length_append, List.length_singleton]; omega, ?_⟩
 intro i hi
 rw [List.length_set] at hi ⊢
 obtain ⟨x, h1, h2, h3⟩ := h.at_ i hi
 rw [List.getElem?_set]
 by_cases hiq : i = q.length
 ·subst hiq
  rw [if_pos rfl, if_pos (lt_of_get h1)]
  refine ⟨_, rfl, fun _ => ⟨rfl, ?_⟩, fun hh => ?_⟩
  ·rw [List.getElem?_append_right (Nat.le_refl _), Nat.sub_self, putS_data]; rfl
  ·rw [List.length_append, List.length_singleton] at hh; omega
 ·rw [if_neg (by rw [mod2 (by omega), mod2 (by omega)]; split <;> split <;> omega)]
  refine ⟨x, h1, fun hh => ?_, fun hh => h3 (by rw [List.length_append, List.length_singleton] at hh; omega)⟩
  rw [List.length_append, List.length_singleton] at hh
  have := h2 (by omega)
  refine ⟨this.1, ?_⟩
  rw [List.getElem?_append_left (by omega)]
  exact this.2
theorem RQ.pop {full : Bool} {Q : List Slt} {hd : Nat} {d : List UInt8} {q : List (List UInt8)} (h : RQ full Q hd (d :: q)) {e : Slt} (he : Q[hd]? = some e) {l : List UInt8} (hll : l.length ≤ 1514) :
  RQ full (Q.set hd (e.putS (!full) l hll)) ((hd + 1) % Q.length) q := by
 have h0 := h.lt
 have hlen := h.len
 rw [List.length_cons] at hlen
 have hm := Nat.mod_lt (hd + 1) (show 0 < Q.length by omega)
 refine ⟨by rw [List.length_set]; exact hm, by rw [List.length_set]; omega, ?_⟩
 intro i hi
 rw [List.length_set] at hi ⊢
 rw [List.getElem?_set]
 by_cases hil : i + 1 < Q.length
 ·obtain ⟨x, h1, h2, h3⟩ := h.at_ (i + 1) hil
  have e1 : ((hd + 1) % Q.length + i) % Q.length = (hd + (i + 1)) % Q.length := by
   rw [Nat.mod_add_mod]; congr 1; omega
  rw [e1, if_neg (by rw [mod2 (by omega)]; split <;> omega)]
  refine ⟨x, h1, fun hh => ?_, fun hh => h3 (by rw [List.length_cons]; omega)⟩
  have := h2 (by rw [List.length_cons]; omega)
  exact ⟨this.1, by simpa using this.2⟩
 ·have e1 : ((hd + 1) % Q.length + i) % Q.length = hd := by
   rw [Nat.mod_add_mod, show hd + 1 + i = hd + Q.length by omega, Nat.add_mod_right, Nat.mod_eq_of_lt h0]
  rw [e1, if_pos rfl, if_pos h0]
  refine ⟨_, rfl, fun hh => by omega, fun _ => rfl⟩
theorem RQ.new {full : Bool} {Q : List Slt} (h : 0 < Q.length) (hc : ∀ e ∈ Q, e.card = !full) : RQ full Q 0 [] := by
 refine ⟨h, by simp, fun i hi => ?_⟩
 rw [Nat.zero_add, Nat.mod_eq_of_lt hi]
 exact ⟨_, List.getElem?_eq_getElem hi, fun hh => by simp at hh, fun _ => hc _ (List.getElem_mem hi)⟩
structure CdX where
 s : Sl
 t : Sl
 Q : List Slt
 R : List Slt
 a : Int
 b : Int
 c : Int
structure CdS where
 rn : Nat
 rh : Nat
 rq : List (List UInt8)
 tn : Nat
 th : Nat
 tq : List (List UInt8)
def cdC (k : CdS) (x : CdX) : List Value := [x.s.v, .int .i64 (((k.rh + k.rq.length) % k.rn : Nat) : Int), x.t.v, .int .i64 (k.th : Int), .int .i64 x.a, .int .i64 x.b, .int .i64 x.c]
structure CdOk (k : CdS) (x : CdX) : Prop where
 rn : x.Q.length = k.rn
 tn : x.R.length = k.tn
 rq : RQ false x.Q k.rh k.rq
 tq : RQ true x.R k.th k.tq
 m : k.rn ≤ 64 ∧ k.tn ≤ 64
def cardA (b : Nat) (k : CdS) : Asn := exs fun x : CdX => star [row b 72 (cdC k x), Hw.own 75 1516 x.s (x.Q.flatMap slotC), Hw.own 75 1516 x.t (x.R.flatMap slotC), pur (CdOk k x)]
section
variable {L M : List Asn} {h : Hp} {b : Nat} {k : CdS}
theorem card_open (hs : Sat (L ++ [cardA b k]) h) : ∃ x, CdOk k x ∧ Sat (L ++ [row b 72 (cdC k x), Hw.own 75 1516 x.s (x.Q.flatMap slotC), Hw.own 75 1516 x.t (x.R.flatMap slotC)]) h := by
 obtain ⟨x, hs⟩ := hs.exOut
 have hs : Sat (L ++ [star [row b 72 (cdC k x), Hw.own 75 1516 x.s (x.Q.flatMap slotC), Hw.own 75 1516 x.t (x.R.flatMap slotC), pur (CdOk k x)]]) h := hs
 have hs := hs.open
 exact ⟨x, hs.pur 3 rfl, hs.sel [0, 1, 2] (by decide) rfl⟩
theorem card_shut {x : CdX} (hs : Sat (L ++ [row b 72 (cdC k x), Hw.own 75 1516 x.s (x.Q.flatMap slotC), Hw.own 75 1516 x.t (x.R.flatMap slotC)]) h) (hx : CdOk k x) : Sat (L ++ [cardA b k]) h := by
 have h1 : Sat (L ++ [row b 72 (cdC k x), Hw.own 75 1516 x.s (x.Q.flatMap slotC), Hw.own 75 1516 x.t (x.R.flatMap slotC), pur (CdOk k x)]) h := hs.andPur hx
 have h2 := h1.close
 unfold cardA
 exact h2.exIn x
theorem ring_row {T : TypeId} {s : Sl} {Q : List Slt} (hs : Sat (L ++ M) h) (j : Nat) (hj : M[j]? = some (Hw.own T 1516 s (Q.flatMap slotC))) : s.n = Q.length ∧ (s.n ≠ 0 → ∃ r, s.p = some (bk r)) := by
 have hn := hs.elemN j hj slotC_w (by decide)
 refine ⟨hn, fun h0 => ?_⟩
 obtain ⟨r, cs, hp, _⟩ := (hs.own j hj).row (by
  intro e
  have := congrArg List.length e
  rw [flat_len slotC_w, List.length_nil] at this
  omega)
 exact ⟨r, hp⟩
theorem c_arr {x : Sl} {l : List UInt8} {K : Bool → Hp → Prop} (hs : Sat (L ++ [cardA b k]) h) (hr : RdB h x l) (h0 : l.length = 0 ∨ 1514 < l.length → K false h) (hfull : 0 < l.length ∧ l.length ≤ 1514 → k.rq.length = k.rn → ∀ h', Sat (L ++ [cardA b k]) h' → K false h')
  (hok : 0 < l.length ∧ l.length ≤ 1514 → k.rq.length < k.rn → ∀ h', Sat (L ++ [cardA b { k with rq := k.rq ++ [l] }]) h' → K true h') : C18 (some (bk b)) x h K := by
 apply S18; unfold N18
 have xn := hr.n
 by_cases k1 : l.length = 0
 ·rw [show (((x.n : Nat) : Int) == 0) = true by simp; omega, cond_true]; exact h0 (.inl k1)
 ·rw [show (((x.n : Nat) : Int) == 0) = false by simp; omega, cond_false]
  by_cases k2 : 1514 < l.length
  ·rw [show decide (((x.n : Nat) : Int) > 1514) = true from decide_eq_true (by omega), cond_true]; exact h0 (.inr k2)
  ·rw [show decide (((x.n : Nat) : Int) > 1514) = false from decide_eq_false (by omega), cond_false]
   obtain ⟨y, ok, g⟩ := card_open hs
   obtain ⟨rn, rr⟩ := ring_row g 1 rfl
   have o1 := ok.rn
   have o2 := ok.rq.lt
   have o3 := ok.rq.len
   have o4 := ok.m
   have hb := g.blk 0 rfl
   have hm := Nat.mod_lt (k.rh + k.rq.length) (show 0 < k.rn by omega)
   simp only [nn_some', add_bk]
   refine g.lI 0 rfl rfl ?_
   refine k_at (s := y.s) (o := 0) (by rw [hb.cell]; rfl) (fun q => by omega) (fun j r hj hjn hp => ?_) rr
   have hj : j = (k.rh + k.rq.length) % k.rn := by omega
   subst hj
   simp only [nn_some']
   by_cases k3 : k.rq.length = k.rn
   ·obtain ⟨e, he, hec⟩ := ok.rq.fullAt (by omega)
    rw [o1] at he
    obtain ⟨c0, _, _⟩ := slot_rd g 1 rfl he hp
    refine xB_of c0 ?_
    rw [hec, Bool.not_false, cond_true]
    refine g.lI 0 rfl rfl ?_
    refine g.st 0 rfl (by simp [cdC]) rfl ?_
    intro h' g'
    exact hfull (by omega) k3 h' (card_shut (x := { y with b := IntKind.wrap .i64 (y.b + 1) }) g' ⟨ok.rn, ok.tn, ok.rq, ok.tq, ok.m⟩)
   ·obtain ⟨e, he, hec⟩ := ok.rq.tail (by omega)
    rw [o1] at he
    obtain ⟨c0, _, _⟩ := slot_rd g 1 rfl he hp
    refine xB_of c0 ?_
    rw [hec, Bool.not_false, Bool.not_true, cond_false]
    refine k_put g 1 rfl he hp hr (by omega) ?_
    intro h1 g1
    have hb1 := Sat.blk g1 0 rfl
    refine k_step (s := y.s) (o := 0) (by rw [hb1.cell]; rfl) (by rw [hb1.cell]; rfl) (by omega) (by omega) ?_
    refine Sat.st g1 0 rfl (by simp [cdC]) rfl ?_
    intro h2 g2
    refine Sat.lI g2 0 rfl rfl ?_
    refine Sat.st g2 0 rfl (by simp [cdC]) rfl ?_
    intro h3 g3
    refine hok (by omega) (by omega) h3 (card_shut (k := { k with rq := k.rq ++ [l] }) (x := { y with Q := y.Q.set ((k.rh + k.rq.length) % k.rn) (e.putS false l (by omega)), a := IntKind.wrap .i64 (y.a + 1) }) ?_ ⟨by rw [List.length_set]; exact ok.rn, ok.tn, ?_, ok.tq, ok.m⟩)
    ·have e1 : (((k.rh + k.rq.length) % k.rn + 1) % y.s.n) = ((k.rh + (k.rq ++ [l]).length) % k.rn) := by
      rw [List.length_append, List.length_singleton, show y.s.n = k.rn by omega, Nat.mod_add_mod]; rfl
     rw [e1] at g3
     exact g3
    ·have := ok.rq.push (by omega) (e := e) (by rw [o1]; exact he) (l := l) (by omega)
     rw [o1] at this
     exact this
theorem c_dep {K : Sl → Bool → Hp → Prop} (hs : Sat (L ++ [cardA b k]) h) (h0 : k.tq = [] → K ⟨none, 0, 0⟩ false h)
  (hK : ∀ d r, k.tq = d :: r → ∀ h' y, Sat (L ++ [cardA b { k with th := (k.th + 1) % k.tn, tq := r }, Hw.own 5 1 y (bc d)]) h' → K y true h') : C17 (some (bk b)) h K := by
 apply S17; unfold N17
 obtain ⟨y, ok, g⟩ := card_open hs
 obtain ⟨tn, rr⟩ := ring_row g 2 rfl
 have o1 := ok.tn
 have o2 := ok.tq.lt
 have o4 := ok.m
 have hb := g.blk 0 rfl
 simp only [nn_some', add_bk]
 refine g.lI 0 rfl rfl ?_
 refine k_at (s := y.t) (o := 2) (by rw [hb.cell]; rfl) (fun q => by omega) (fun j r hj hjn hp => ?_) rr
 have hj : j = k.th := by omega
 subst hj
 simp only [nn_some']
 obtain ⟨e, he, e1, e2⟩ := ok.tq.head
 obtain ⟨c0, _, _⟩ := slot_rd g 2 rfl he hp
 refine xB_of c0 ?_
 cases hq : k.tq with
 | nil => rw [e1 hq]; exact h0 hq
 | cons d q =>
  obtain ⟨f1, f2⟩ := e2 d q hq
  rw [f1, Bool.not_true, cond_false]
  refine k_data g 2 rfl he hp fun z h1 hz => ?_
  rw [f2] at hz
  have g1 := g.addNew hz
  have g1 : Sat (L ++ [row b 72 (cdC k y), Hw.own 75 1516 y.s (y.Q.flatMap slotC), Hw.own 75 1516 y.t (y.R.flatMap slotC), Hw.own 5 1 z (bc d)]) h1 := g1
  refine k_put g1 2 rfl he hp (RdB.nil (p := none) (c := 0)) (by simp) ?_
  intro h2 g2
  have hb2 := Sat.blk g2 0 rfl
  refine k_step (s := y.t) (o := 2) (by rw [hb2.cell]; rfl) (by rw [hb2.cell]; rfl) (by omega) (by omega) ?_
  refine Sat.st g2 0 rfl (by simp [cdC]) rfl ?_
  intro h3 g3
  refine Sat.lI g3 0 rfl rfl ?_
  refine Sat.st g3 0 rfl (by simp [cdC]) rfl ?_
  intro h4 g4
  have e3 : (k.th + 1) % y.t.n = (k.th + 1) % k.tn := by rw [show y.t.n = k.tn by omega]
  rw [e3] at g4
  have pq := ok.tq
  rw [hq] at pq
  have pq := pq.pop he (l := []) (by simp)
  rw [o1] at pq
  have g5 : Sat ((L ++ [Hw.own 5 1 z (bc d)]) ++ [row b 72 (cdC { k with th := (k.th + 1) % k.tn, tq := q } { y with R := y.R.set k.th (e.putS false [] (by simp)), c := IntKind.wrap .i64 (y.c + 1) }), Hw.own 75 1516 y.s (y.Q.flatMap slotC), Hw.own 75 1516 y.t ((y.R.set k.th (e.putS false [] (by simp))).flatMap slotC)]) h4 := Sat.part g4 [3, 0, 1, 2] (by decide) rfl
  have g6 := card_shut g5 ⟨ok.rn, by rw [List.length_set]; exact ok.tn, ok.rq, pq, ok.m⟩
  exact hK d q hq h4 z ((Sat.asc g6).sel [1, 0] (by decide) rfl)
theorem c_rings {K : Int → Int → Hp → Prop} (hs : Sat (L ++ [cardA b k]) h) (hK : K k.rn k.tn h) : C61 (some (bk b)) h K := by
 apply S61; unfold N61
 obtain ⟨y, ok, g⟩ := card_open hs
 obtain ⟨rn, _⟩ := ring_row g 1 rfl
 obtain ⟨tn, _⟩ := ring_row g 2 rfl
 simp only [nn_some', add_bk]
 refine g.lL 0 (k := 0) rfl rfl ?_
 refine g.lL 0 rfl rfl ?_
 rw [rn, tn, ok.rn, ok.tn]
 exact hK
theorem c_crx {K : Bool → Sl → Int → Hp → Prop} (hs : Sat (L ++ [cardA b k]) h) (h0 : k.rq = [] → ∀ h' y, Sat (L ++ [cardA b k]) h' → K true y 0 h')
  (hK : ∀ d r, k.rq = d :: r → ∀ h' y, Sat (L ++ [cardA b k, Hw.own 5 1 y (bc d)]) h' → K false y 0 h') : C62 (some (bk b)) (k.rh : Int) h K := by
 apply S62; unfold N62
 obtain ⟨y, ok, g⟩ := card_open hs
 obtain ⟨rn, rr⟩ := ring_row g 1 rfl
 have o1 := ok.rn
 have o2 := ok.rq.lt
 refine g.nw ?_
 intro z h1 g1 _
 simp only [nn_some']
 apply S78; unfold N78
 refine Sat.nw g1 ?_
 intro w h2 g2 _
 have g2 : Sat (L ++ [row b 72 (cdC k y), Hw.own 75 1516 y.s (y.Q.flatMap slotC), Hw.own 75 1516 y.t (y.R.flatMap slotC), row z 153 [.bool false, .slice none 0 0], row w 153 [.bool false, .slice none 0 0]]) h2 := g2
 have hb := g2.blk 0 rfl
 refine k_at (s := y.s) (o := 0) (by rw [hb.cell]; rfl) (fun q => by omega) (fun j r hj hjn hp => ?_) rr
 have hj : j = k.rh := by omega
 subst hj
 simp only [peq_none, Option.isNone_some, cond_false, nn_some']
 obtain ⟨e, he, e1, e2⟩ := ok.rq.head
 obtain ⟨c0, _, _⟩ := slot_rd g2 1 rfl he hp
 refine xB_of c0 ?_
 refine k_data g2 1 rfl he hp fun u h3 hu => ?_
 have g3 := g2.addNew hu
 have g3 : Sat (L ++ [row b 72 (cdC k y), Hw.own 75 1516 y.s (y.Q.flatMap slotC), Hw.own 75 1516 y.t (y.R.flatMap slotC), row z 153 [.bool false, .slice none 0 0], row w 153 [.bool false, .slice none 0 0], Hw.own 5 1 u (bc e.data)]) h3 := g3
 obtain ⟨c1, _, _⟩ := slot_rd g3 1 rfl he hp
 refine ⟨xB_of c1 ⟨rfl, rfl⟩, ?_⟩
 simp only [add_bk]
 have hs := g3
 refine Sat.st hs 4 (k := 0) rfl (by simp) rfl fun h4 hs => ?_
 simp only [List.set_cons_zero, List.set_cons_succ] at hs
 refine Sat.st hs 4 rfl (by simp) rfl fun h4 hs => ?_
 simp only [List.set_cons_zero, List.set_cons_succ] at hs
 refine Sat.lB hs 4 (k := 0) rfl rfl ?_
 refine Sat.lL hs 4 rfl rfl ?_
 refine Sat.st hs 3 (k := 0) rfl (by simp) rfl fun h4 hs => ?_
 simp only [List.set_cons_zero, List.set_cons_succ] at hs
 refine Sat.st hs 3 rfl (by simp) rfl fun h4 hs => ?_
 simp only [List.set_cons_zero, List.set_cons_succ] at hs
 refine Sat.lB hs 3 (k := 0) rfl rfl ?_
 refine Sat.lL hs 3 rfl rfl ?_
 have g5 : Sat ((L ++ [Hw.own 5 1 u (bc e.data)]) ++ [row b 72 (cdC k y), Hw.own 75 1516 y.s (y.Q.flatMap slotC), Hw.own 75 1516 y.t (y.R.flatMap slotC)]) h4 := Sat.part hs [5, 0, 1, 2] (by decide) rfl
 have g6 := Sat.asc (card_shut g5 ok)
 cases hq : k.rq with
 | nil => rw [e1 hq]; exact h0 hq _ _ (g6.sel [1] (by decide) rfl)
 | cons d q =>
  obtain ⟨f1, f2⟩ := e2 d q hq
  rw [f2] at g6
  rw [f1]
  exact hK d q hq _ _ (g6.sel [1, 0] (by decide) rfl)
theorem c_give {d : List UInt8} {q : List (List UInt8)} {K : Int → Hp → Prop} (hs : Sat (L ++ [cardA b k]) h) (hq : k.rq = d :: q)
  (hK : ∀ h', Sat (L ++ [cardA b { k with rh := (k.rh + 1) % k.rn, rq := q }]) h' → K 0 h') : C65 (some (bk b)) (k.rh : Int) h K := by
 apply S65; unfold N65
 obtain ⟨y, ok, g⟩ := card_open hs
 obtain ⟨rn, rr⟩ := ring_row g 1 rfl
 have o1 := ok.rn
 have o2 := ok.rq.lt
 have hb := g.blk 0 rfl
 simp only [nn_some']
 refine k_at (s := y.s) (o := 0) (by rw [hb.cell]; rfl) (fun q => by omega) (fun j r hj hjn hp => ?_) rr
 have hj : j = k.rh := by omega
 subst hj
 simp only [peq_none, Option.isNone_some, cond_false, nn_some']
 obtain ⟨e, he, e1, e2⟩ := ok.rq.head
 obtain ⟨c0, _, _⟩ := slot_rd g 1 rfl he hp
 refine xB_of c0 ?_
 rw [(e2 d q hq).1, cond_false]
 refine k_put g 1 rfl he hp (RdB.nil (p := none) (c := 0)) (by simp) ?_
 intro h2 g2
 have pq := ok.rq
 rw [hq] at pq
 have pq := pq.pop he (l := []) (by simp)
 rw [o1] at pq
 refine hK h2 (card_shut (k := { k with rh := (k.rh + 1) % k.rn, rq := q }) (x := { y with Q := y.Q.set k.rh (e.putS true [] (by simp)) }) ?_ ⟨by rw [List.length_set]; exact ok.rn, ok.tn, pq, ok.tq, ok.m⟩)
 have e3 : ((k.rh + 1) % k.rn + q.length) % k.rn = (k.rh + k.rq.length) % k.rn := by rw [hq, Nat.mod_add_mod, List.length_cons]; congr 1; omega
 have e4 : cdC { k with rh := (k.rh + 1) % k.rn, rq := q } { y with Q := y.Q.set k.rh (e.putS true [] (by simp)) } = cdC k y := by
  unfold cdC; rw [e3]
 rw [e4]
 exact g2
theorem c_lay {x : Sl} {l : List UInt8} {K : Int → Hp → Prop} (hs : Sat (L ++ [cardA b k]) h) (hr : RdB h x l) (hl : 60 ≤ l.length ∧ l.length ≤ 1514) (hfull : k.tq.length = k.tn → K 41 h)
  (hK : k.tq.length < k.tn → ∀ h', Sat (L ++ [cardA b { k with tq := k.tq ++ [l] }]) h' → K 0 h') : C90 (some (bk b)) (((k.th + k.tq.length) % k.tn : Nat) : Int) x h K := by
 apply S90; unfold N90
 obtain ⟨y, ok, g⟩ := card_open hs
 obtain ⟨tn, rr⟩ := ring_row g 2 rfl
 have o1 := ok.tn
 have o2 := ok.tq.lt
 have o3 := ok.tq.len
 have hb := g.blk 0 rfl
 have xn := hr.n
 have hm := Nat.mod_lt (k.th + k.tq.length) (show 0 < k.tn by omega)
 simp only [nn_some', add_bk]
 refine k_at (s := y.t) (o := 2) (by rw [hb.cell]; rfl) (fun q => by omega) (fun j r hj hjn hp => ?_) rr
 have hj : j = (k.th + k.tq.length) % k.tn := by omega
 subst hj
 simp only [peq_none, Option.isNone_some, cond_false, nn_some']
 rw [show decide (((x.n : Nat) : Int) < 60) = false from decide_eq_false (by omega), cond_false, show decide (((x.n : Nat) : Int) > 1514) = false from decide_eq_false (by omega), cond_false]
 by_cases k3 : k.tq.length = k.tn
 ·obtain ⟨e, he, hec⟩ := ok.tq.fullAt (by omega)
  rw [o1] at he
  obtain ⟨c0, _, _⟩ := slot_rd g 2 rfl he hp
  refine xB_of c0 ?_
  rw [hec, cond_true]
  exact hfull k3
 ·obtain ⟨e, he, hec⟩ := ok.tq.tail (by omega)
  rw [o1] at he
  obtain ⟨c0, _, _⟩ := slot_rd g 2 rfl he hp
  refine xB_of c0 ?_
  rw [hec, Bool.not_true, cond_false]
  refine k_put g 2 rfl he hp hr hl.2 ?_
  intro h1 g1
  have pq := ok.tq.push (by omega) (e := e) (by rw [o1]; exact he) (l := l) hl.2
  rw [o1] at pq
  exact hK (by omega) h1 (card_shut (k := { k with tq := k.tq ++ [l] }) (x := { y with R := y.R.set ((k.th + k.tq.length) % k.tn) (e.putS true l hl.2) }) g1 ⟨ok.rn, by rw [List.length_set]; exact ok.tn, ok.rq, pq, ok.m⟩)
end
end Go.Proofs.YtbbnpmikjdgdpaaGreat

set_option linter.unusedVariables false
set_option maxRecDepth 100000
namespace Go.Proofs.YtbbnpmikjdgdpaaGreat
open Go Go.Hw
noncomputable def B10 : Code := match Tryz.f10.body with | some c => c | none => .skip
def N10 (x0 : Option Addr) (x1_0 x1_1 x1_2 x1_3 x1_4 x1_5 : Int) (h : Hp) (K : Option Addr → Hp → Prop) : Prop :=
 nw h (.cells ⟨[.int .u8 x1_0, .int .u8 x1_1, .int .u8 x1_2, .int .u8 x1_3, .int .u8 x1_4, .int .u8 x1_5]⟩ 46) fun b0 h0 =>
 peq h0 x0 none fun b1 =>
 bif b1 then
 K none h0
 else
 xI .u8 (cell h0 (bk b0)) fun n0 =>
 xI .u8 (cell h0 ((bk b0).add 1)) fun n1 =>
 xI .u8 (cell h0 ((bk b0).add 2)) fun n2 =>
 xI .u8 (cell h0 ((bk b0).add 3)) fun n3 =>
 xI .u8 (cell h0 ((bk b0).add 4)) fun n4 =>
 xI .u8 (cell h0 ((bk b0).add 5)) fun n5 =>
 nw h0 (.cells ⟨[.int .i64 0, .int .i64 0, .int .i64 0, .int .i64 0, .pointer x0, .int .u8 n0, .int .u8 n1, .int .u8 n2, .int .u8 n3, .int .u8 n4, .int .u8 n5, .int .i64 0, .int .i64 0]⟩ 79) fun b2 h1 =>
 K (some (bk b2)) h1
theorem S10 {x0 : Option Addr} {x1_0 x1_1 x1_2 x1_3 x1_4 x1_5 : Int} {h : Hp} {K : Option Addr → Hp → Prop} (hn : N10 x0 x1_0 x1_1 x1_2 x1_3 x1_4 x1_5 h K) : C10 x0 x1_0 x1_1 x1_2 x1_3 x1_4 x1_5 h K := by
 refine calls_of_D Tryz.func10 (c := B10) rfl (by kernel_rfl) ?_
 refine den_sound hE hm _ .leaf _ _ _ (annOk_leaf) ?_
 refine cast ?_ hn
 kernel_rfl
end Go.Proofs.YtbbnpmikjdgdpaaGreat

set_option linter.unusedVariables false
set_option maxRecDepth 100000
namespace Go.Proofs.YtbbnpmikjdgdpaaGreat
open Go Go.Hw
noncomputable def B23 : Code := match Tryz.f23.body with | some c => c | none => .skip
def N23 (x0 : Option Addr) (h : Hp) (K : Int → Int → Int → Int → Int → Int → Hp → Prop) : Prop :=
 nw h (.cells ⟨[.int .u8 0, .int .u8 0, .int .u8 0, .int .u8 0, .int .u8 0, .int .u8 0]⟩ 46) fun b0 h0 =>
 nn x0 fun a0 =>
 xI .u8 (cell h0 (a0.add 5)) fun n0 =>
 xI .u8 (cell h0 (a0.add 6)) fun n1 =>
 xI .u8 (cell h0 (a0.add 7)) fun n2 =>
 xI .u8 (cell h0 (a0.add 8)) fun n3 =>
 xI .u8 (cell h0 (a0.add 9)) fun n4 =>
 xI .u8 (cell h0 (a0.add 10)) fun n5 =>
 st h0 (bk b0) (.int .u8 n0) fun h1 =>
 st h1 ((bk b0).add 1) (.int .u8 n1) fun h2 =>
 st h2 ((bk b0).add 2) (.int .u8 n2) fun h3 =>
 st h3 ((bk b0).add 3) (.int .u8 n3) fun h4 =>
 st h4 ((bk b0).add 4) (.int .u8 n4) fun h5 =>
 st h5 ((bk b0).add 5) (.int .u8 n5) fun h6 =>
 xI .u8 (cell h6 (bk b0)) fun n6 =>
 xI .u8 (cell h6 ((bk b0).add 1)) fun n7 =>
 xI .u8 (cell h6 ((bk b0).add 2)) fun n8 =>
 xI .u8 (cell h6 ((bk b0).add 3)) fun n9 =>
 xI .u8 (cell h6 ((bk b0).add 4)) fun n10 =>
 xI .u8 (cell h6 ((bk b0).add 5)) fun n11 =>
 K n6 n7 n8 n9 n10 n11 h6
theorem S23 {x0 : Option Addr} {h : Hp} {K : Int → Int → Int → Int → Int → Int → Hp → Prop} (hn : N23 x0 h K) : C23 x0 h K := by
 refine calls_of_M Tryz.func23 (c := B23) rfl (by kernel_rfl) ?_
 refine den_sound hE hm _ .leaf _ _ _ (annOk_leaf) ?_
 refine cast ?_ hn
 kernel_rfl
end Go.Proofs.YtbbnpmikjdgdpaaGreat

set_option linter.unusedVariables false
set_option maxRecDepth 100000
namespace Go.Proofs.YtbbnpmikjdgdpaaGreat
open Go Go.Hw
noncomputable def B66 : Code := match Tryz.f66.body with | some c => c | none => .skip
def N66 (x0 x1 : Int) (h : Hp) (K : Int → Hp → Prop) : Prop :=
 bif (decide ((IntKind.wrap .i64 (x0 + 1)) < x1)) then
 K (IntKind.wrap .i64 (x0 + 1)) h
 else
 K 0 h
theorem S66 {x0 x1 : Int} {h : Hp} {K : Int → Hp → Prop} (hn : N66 x0 x1 h K) : C66 x0 x1 h K := by
 refine calls_of_D Tryz.func66 (c := B66) rfl (by kernel_rfl) ?_
 refine den_sound hE hm _ .leaf _ _ _ (annOk_leaf) ?_
 refine cast ?_ hn
 kernel_rfl
end Go.Proofs.YtbbnpmikjdgdpaaGreat

set_option linter.unusedVariables false
set_option maxRecDepth 100000
namespace Go.Proofs.YtbbnpmikjdgdpaaGreat
open Go Go.Hw
noncomputable def B43 : Code := match Tryz.f43.body with | some c => c | none => .skip
noncomputable def N43_r0_t : Ann := .xf (treeT Tryz.prog E Tryz.f43.ntmps (.one 0 (.one 1 (.one 2 (.one 3 (.one 4 (.one 5 (.one 6 (.one 7 (.fork 8 (.one 9 (.one 10 (.one 11 (.fork 12 (.fork 13 (.one 14 .done) .done) .done)))) (.fork 12 (.fork 8 (.one 9 (.one 10 (.one 11 (.fork 13 (.one 14 .done) .done)))) .done) .done)))))))))) (codeAt B43 [1, 1, 1, 0, 0, 0, 1, 0, 0, 0]))
theorem N43_r0_ok : annOk Tryz.prog Tryz.f43.ntmps N43_r0_t (codeAt B43 [1, 1, 1, 0, 0, 0, 1, 0, 0, 0]) := tree_sound hE hm (by kernel_rfl)
def N43_j2 (x0 : Option Addr) (x1 : Int) (x5 : Sl) (x6 : Int) (x10 : Option Addr) (x56 : Bool) (h : Hp) (Kn : Sl → Hp → Prop) : Prop :=
 bif x56 then
 nn x10 fun a0 =>
 xI .u8 (cell h a0) fun n0 =>
 xI .u8 (cell h (a0.add 1)) fun n1 =>
 xI .u8 (cell h (a0.add 2)) fun n2 =>
 xI .u8 (cell h (a0.add 3)) fun n3 =>
 xI .u8 (cell h (a0.add 4)) fun n4 =>
 xI .u8 (cell h (a0.add 5)) fun n5 =>
 xI .u8 (cell h (a0.add 6)) fun n6 =>
 xI .u8 (cell h (a0.add 7)) fun n7 =>
 xI .u8 (cell h (a0.add 8)) fun n8 =>
 xI .u8 (cell h (a0.add 9)) fun n9 =>
 xI .u8 (cell h (a0.add 10)) fun n10 =>
 xI .u8 (cell h (a0.add 11)) fun n11 =>
 xI .i64 (cell h (a0.add 12)) fun n12 =>
 xL (cell h (a0.add 13)) fun s0 =>
 nw h (.cells ⟨[.int .u8 n0, .int .u8 n1, .int .u8 n2, .int .u8 n3, .int .u8 n4, .int .u8 n5, .int .u8 n6, .int .u8 n7, .int .u8 n8, .int .u8 n9, .int .u8 n10, .int .u8 n11, .int .i64 n12, .slice s0.p s0.n s0.c]⟩ 110) fun b0 h0 =>
 apK Tryz.prog 110 x5 (.slice (some (bk b0)) 1 1) h0 fun s1 h1 =>
 nn x0 fun a1 =>
 xI .i64 (cell h1 a1) fun n13 =>
 nn x0 fun a2 =>
 st h1 a2 (.int .i64 (IntKind.wrap .i64 (n13 + 1))) fun h2 =>
 Kn s1 h2
 else
 nn x0 fun a3 =>
 xI .i64 (cell h (a3.add 1)) fun n14 =>
 nn x0 fun a4 =>
 st h (a4.add 1) (.int .i64 (IntKind.wrap .i64 (n14 + 1))) fun h3 =>
 Kn x5 h3
noncomputable def N43_j2_t : Xf := pieceT [(0, .c (.ptr)), (1, .c (.int .i64)), (5, .c (.slice)), (6, .c (.int .i64)), (10, .c (.ptr)), (56, .c (.bool))] (codeAt B43 [1, 1, 1, 0, 0, 0, 1, 0, 0, 1, 1, 1, 0, 1]) fun x h Q => N43_j2 x.1 x.2.1 x.2.2.1 x.2.2.2.1 x.2.2.2.2.1 x.2.2.2.2.2 h (fun o0 h' => Q .normal (Sg.env [(5, .c (.slice))] o0) h')
theorem N43_j2_ok : Sound Tryz.prog Tryz.f43.ntmps N43_j2_t (codeAt B43 [1, 1, 1, 0, 0, 0, 1, 0, 0, 1, 1, 1, 0, 1]) := by
 refine piece_sound (fun e => match e with | .normal => [5] | _ => []) ?_
 intro x h Q hb
 refine den_sound hE hm _ .leaf _ _ _ (annOk_leaf) ?_
 refine cast ?_ hb
 kernel_rfl
def N43_j3 (x0 : Option Addr) (x1 : Int) (x5 : Sl) (x6 : Int) (h : Hp) (Kn : Hp → Prop) : Prop :=
 nn x0 fun a0 =>
 xP (cell h (a0.add 4)) fun p0 =>
 nn x0 fun a1 =>
 xI .i64 (cell h (a1.add 11)) fun n0 =>
 C65 p0 n0 h fun n1 h0 =>
 nn x0 fun a2 =>
 xI .i64 (cell h0 (a2.add 11)) fun n2 =>
 C66 n2 x6 h0 fun n3 h1 =>
 nn x0 fun a3 =>
 st h1 (a3.add 11) (.int .i64 n3) fun h2 =>
 Kn h2
noncomputable def N43_j3_t : Xf := pieceT [(0, .c (.ptr)), (1, .c (.int .i64)), (5, .c (.slice)), (6, .c (.int .i64))] (codeAt B43 [1, 1, 1, 0, 0, 0, 1, 0, 0, 1, 1, 1, 1]) fun x h Q => N43_j3 x.1 x.2.1 x.2.2.1 x.2.2.2 h (fun h' => Q .normal (Sg.env [] ()) h')
theorem N43_j3_ok : Sound Tryz.prog Tryz.f43.ntmps N43_j3_t (codeAt B43 [1, 1, 1, 0, 0, 0, 1, 0, 0, 1, 1, 1, 1]) := by
 refine piece_sound (fun e => match e with | .normal => [] | _ => []) ?_
 intro x h Q hb
 refine den_sound hE hm _ (.two (.ord [0, 1, 2, 3, 4, 5, 6, 7, 8]) .leaf) _ _ _ (⟨trivial, annOk_leaf⟩) ?_
 refine cast ?_ hb
 kernel_rfl
def N43_j1 (x0 : Option Addr) (x1 : Int) (x5 : Sl) (x6 : Int) (x8 : Option Addr) (x9 : Int) (h : Hp) (K0 Kn : Sl → Hp → Prop) : Prop :=
 bif (x9 != 0) then
 K0 x5 h
 else
 nn x8 fun a0 =>
 xB (cell h a0) fun b0 =>
 bif b0 then
 K0 x5 h
 else
 nn x8 fun a1 =>
 xL (cell h (a1.add 1)) fun s0 =>
 C63 s0 h fun n0 n1 n2 n3 n4 n5 n6 n7 n8 n9 n10 n11 n12 s1 n13 h0 =>
 nw h0 (.cells ⟨[.int .u8 0, .int .u8 0, .int .u8 0, .int .u8 0, .int .u8 0, .int .u8 0, .int .u8 0, .int .u8 0, .int .u8 0, .int .u8 0, .int .u8 0, .int .u8 0, .int .i64 0, .slice none 0 0]⟩ 110) fun b1 h1 =>
 st h1 (bk b1) (.int .u8 n0) fun h2 =>
 st h2 ((bk b1).add 1) (.int .u8 n1) fun h3 =>
 st h3 ((bk b1).add 2) (.int .u8 n2) fun h4 =>
 st h4 ((bk b1).add 3) (.int .u8 n3) fun h5 =>
 st h5 ((bk b1).add 4) (.int .u8 n4) fun h6 =>
 st h6 ((bk b1).add 5) (.int .u8 n5) fun h7 =>
 st h7 ((bk b1).add 6) (.int .u8 n6) fun h8 =>
 st h8 ((bk b1).add 7) (.int .u8 n7) fun h9 =>
 st h9 ((bk b1).add 8) (.int .u8 n8) fun h10 =>
 st h10 ((bk b1).add 9) (.int .u8 n9) fun h11 =>
 st h11 ((bk b1).add 10) (.int .u8 n10) fun h12 =>
 st h12 ((bk b1).add 11) (.int .u8 n11) fun h13 =>
 st h13 ((bk b1).add 12) (.int .i64 n12) fun h14 =>
 st h14 ((bk b1).add 13) (.slice s1.p s1.n s1.c) fun h15 =>
 bif (n13 == 0) then
 nn x0 fun a2 =>
 xI .u8 (cell h15 (a2.add 5)) fun n14 =>
 xI .u8 (cell h15 (a2.add 6)) fun n15 =>
 xI .u8 (cell h15 (a2.add 7)) fun n16 =>
 xI .u8 (cell h15 (a2.add 8)) fun n17 =>
 xI .u8 (cell h15 (a2.add 9)) fun n18 =>
 xI .u8 (cell h15 (a2.add 10)) fun n19 =>
 xI .u8 (cell h15 (bk b1)) fun n20 =>
 xI .u8 (cell h15 ((bk b1).add 1)) fun n21 =>
 xI .u8 (cell h15 ((bk b1).add 2)) fun n22 =>
 xI .u8 (cell h15 ((bk b1).add 3)) fun n23 =>
 xI .u8 (cell h15 ((bk b1).add 4)) fun n24 =>
 xI .u8 (cell h15 ((bk b1).add 5)) fun n25 =>
 xI .u8 (cell h15 ((bk b1).add 6)) fun n26 =>
 xI .u8 (cell h15 ((bk b1).add 7)) fun n27 =>
 xI .u8 (cell h15 ((bk b1).add 8)) fun n28 =>
 xI .u8 (cell h15 ((bk b1).add 9)) fun n29 =>
 xI .u8 (cell h15 ((bk b1).add 10)) fun n30 =>
 xI .u8 (cell h15 ((bk b1).add 11)) fun n31 =>
 xI .i64 (cell h15 ((bk b1).add 12)) fun n32 =>
 xL (cell h15 ((bk b1).add 13)) fun s2 =>
 C64 n14 n15 n16 n17 n18 n19 n20 n21 n22 n23 n24 n25 n26 n27 n28 n29 n30 n31 n32 s2 h15 fun b2 h16 =>
 N43_j2 x0 x1 x5 x6 (some (bk b1)) b2 h16
 (fun s3 h17 =>
 N43_j3 x0 x1 s3 x6 h17
 (fun h18 =>
 Kn s3 h18))
 else
 N43_j2 x0 x1 x5 x6 (some (bk b1)) false h15
 (fun s4 h19 =>
 N43_j3 x0 x1 s4 x6 h19
 (fun h20 =>
 Kn s4 h20))
noncomputable def N43_j1_t : Xf := pieceT [(0, .c (.ptr)), (1, .c (.int .i64)), (5, .c (.slice)), (6, .c (.int .i64)), (8, .c (.ptr)), (9, .c (.int .i64))] (codeAt B43 [1, 1, 1, 0, 0, 0, 1, 0, 0, 1]) fun x h Q => N43_j1 x.1 x.2.1 x.2.2.1 x.2.2.2.1 x.2.2.2.2.1 x.2.2.2.2.2 h (fun o0 h' => Q (.exit 0) (Sg.env [(5, .c (.slice))] o0) h') (fun o0 h' => Q .normal (Sg.env [(5, .c (.slice))] o0) h')
theorem N43_j1_ok : Sound Tryz.prog Tryz.f43.ntmps N43_j1_t (codeAt B43 [1, 1, 1, 0, 0, 0, 1, 0, 0, 1]) := by
 refine piece_sound (fun e => match e with | .exit 0 => [5] | .normal => [5] | _ => []) ?_
 intro x h Q hb
 refine den_sound hE hm _ (.two .leaf (.two .leaf (.two (.two (.ord [0, 1, 2, 3, 4, 5, 6, 7, 8, 9]) (.xf N43_j2_t)) (.xf N43_j3_t)))) _ _ _ (⟨annOk_leaf, ⟨annOk_leaf, ⟨⟨trivial, N43_j2_ok⟩, N43_j3_ok⟩⟩⟩) ?_
 refine cast ?_ hb
 kernel_rfl
def N43_l0_b (x0 : Option Addr) (x6 : Int) (Φ : Int → Sl → Hp → Prop) (x1 : Int) (x5 : Sl) (h : Hp) (K0 : Sl → Hp → Prop) : Prop :=
 bif (decide (x1 > 0)) then
 nn x0 fun a0 =>
 xP (cell h (a0.add 4)) fun p0 =>
 nn x0 fun a1 =>
 xI .i64 (cell h (a1.add 11)) fun n0 =>
 alt (
 C62 p0 n0 h fun b0 s0 n1 h0 =>
 nw h0 (.cells ⟨[.bool false, .slice none 0 0]⟩ 153) fun b1 h1 =>
 both (xI .i64 (cell h1 (a1.add 11)) fun n2 => Only (.int .i64 n0) h1 (.int .i64 n2) h1) <|
 both (xP (cell h1 (a0.add 4)) fun p1 => Only (.pointer p0) h1 (.pointer p1) h1) <|
 st h1 (bk b1) (.bool b0) fun h2 =>
 st h2 ((bk b1).add 1) (.slice s0.p s0.n s0.c) fun h3 =>
 N43_j1 x0 x1 x5 x6 (some (bk b1)) n1 h3
 (fun s1 h4 =>
 K0 s1 h4)
 (fun s2 h5 =>
 Φ (IntKind.wrap .i64 (x1 - 1)) s2 h5)) <|
 nw h (.cells ⟨[.bool false, .slice none 0 0]⟩ 153) fun b2 h6 =>
 both (xI .i64 (cell h6 (a1.add 11)) fun n3 => Only (.int .i64 n0) h6 (.int .i64 n3) h6) <|
 both (xP (cell h6 (a0.add 4)) fun p2 => Only (.pointer p0) h6 (.pointer p2) h6) <|
 C62 p0 n0 h6 fun b3 s3 n4 h7 =>
 st h7 (bk b2) (.bool b3) fun h8 =>
 st h8 ((bk b2).add 1) (.slice s3.p s3.n s3.c) fun h9 =>
 N43_j1 x0 x1 x5 x6 (some (bk b2)) n4 h9
 (fun s4 h10 =>
 K0 s4 h10)
 (fun s5 h11 =>
 Φ (IntKind.wrap .i64 (x1 - 1)) s5 h11)
 else
 K0 x5 h
def N43_l0_B (x0 : Option Addr) (x6 : Int) (K0 : Sl → Hp → Prop) (s : Sg.T [(1, .c (.int .i64)), (5, .c (.slice))]) (h : Hp) (Φ : Sg.T [(1, .c (.int .i64)), (5, .c (.slice))] → Hp → Prop) : Prop :=
 N43_l0_b x0 x6 (fun x1 x5 h => Φ (x1, x5) h) s.1 s.2 h K0
def N43_l0 (x0 : Option Addr) (x6 x1 : Int) (x5 : Sl) (h : Hp) (K0 : Sl → Hp → Prop) : Prop :=
 loopP (N43_l0_B x0 x6 K0) (x1, x5) h
noncomputable def N43_l0_t : Xf := loopT [(0, .c (.ptr)), (6, .c (.int .i64))] [(1, .c (.int .i64)), (5, .c (.slice))] (codeAt B43 [1, 1, 1, 0, 0, 0]) fun F Q => N43_l0_B F.1 F.2 (fun o0 h' => Q (.exit 0) (Sg.env [(5, .c (.slice))] o0) h')
theorem N43_l0_ok : Sound Tryz.prog Tryz.f43.ntmps N43_l0_t (codeAt B43 [1, 1, 1, 0, 0]) := by
 refine loop_sound (fun e => match e with | .exit 0 => [5] | _ => []) (by kernel_rfl) ?_
 intro F Q s h Φ hb
 refine den_sound hE hm _ (.two .leaf (.two (.one (.two N43_r0_t (.xf N43_j1_t))) .leaf)) _ _ _ (⟨annOk_leaf, ⟨⟨N43_r0_ok, N43_j1_ok⟩, annOk_leaf⟩⟩) ?_
 refine cast ?_ hb
 kernel_rfl
def N43 (x0 : Option Addr) (x1 : Int) (h : Hp) (K : Sl → Hp → Prop) : Prop :=
 nn x0 fun a0 =>
 xP (cell h (a0.add 4)) fun p0 =>
 C61 p0 h fun n0 n1 h0 =>
 N43_l0 x0 n0 x1 ⟨none, 0, 0⟩ h0
 (fun s0 h1 =>
 K s0 h1)
theorem S43 {x0 : Option Addr} {x1 : Int} {h : Hp} {K : Sl → Hp → Prop} (hn : N43 x0 x1 h K) : C43 x0 x1 h K := by
 refine calls_of_D Tryz.func43 (c := B43) rfl (by kernel_rfl) ?_
 refine den_sound hE hm _ (.two .leaf (.two .leaf (.two .leaf (.two (.one (.xf N43_l0_t)) .leaf)))) _ _ _ (⟨annOk_leaf, ⟨annOk_leaf, ⟨annOk_leaf, ⟨N43_l0_ok, annOk_leaf⟩⟩⟩⟩) ?_
 refine cast ?_ hn
 kernel_rfl
end Go.Proofs.YtbbnpmikjdgdpaaGreat

set_option linter.unusedVariables false
set_option maxRecDepth 100000
namespace Go.Proofs.YtbbnpmikjdgdpaaGreat
open Go Go.Hw
noncomputable def B74 : Code := match Tryz.f74.body with | some c => c | none => .skip
def N74 (x0 : Option Addr) (x1_0 x1_1 x1_2 x1_3 x1_4 x1_5 x1_6 : Int) (x1_7 : Sl) (h : Hp) (K : Sl → Int → Hp → Prop) : Prop :=
 nw h (.cells ⟨[.int .u8 x1_0, .int .u8 x1_1, .int .u8 x1_2, .int .u8 x1_3, .int .u8 x1_4, .int .u8 x1_5, .int .i64 x1_6, .slice x1_7.p x1_7.n x1_7.c]⟩ 99) fun b0 h0 =>
 xI .u8 (cell h0 (bk b0)) fun n0 =>
 xI .u8 (cell h0 ((bk b0).add 1)) fun n1 =>
 xI .u8 (cell h0 ((bk b0).add 2)) fun n2 =>
 xI .u8 (cell h0 ((bk b0).add 3)) fun n3 =>
 xI .u8 (cell h0 ((bk b0).add 4)) fun n4 =>
 xI .u8 (cell h0 ((bk b0).add 5)) fun n5 =>
 nn x0 fun a0 =>
 xI .u8 (cell h0 (a0.add 5)) fun n6 =>
 xI .u8 (cell h0 (a0.add 6)) fun n7 =>
 xI .u8 (cell h0 (a0.add 7)) fun n8 =>
 xI .u8 (cell h0 (a0.add 8)) fun n9 =>
 xI .u8 (cell h0 (a0.add 9)) fun n10 =>
 xI .u8 (cell h0 (a0.add 10)) fun n11 =>
 xI .i64 (cell h0 ((bk b0).add 6)) fun n12 =>
 xL (cell h0 ((bk b0).add 7)) fun s0 =>
 C89 n0 n1 n2 n3 n4 n5 n6 n7 n8 n9 n10 n11 n12 s0 h0 fun s1 n13 h1 =>
 bif (n13 != 0) then
 K ⟨none, 0, 0⟩ n13 h1
 else
 nn x0 fun a1 =>
 xP (cell h1 (a1.add 4)) fun p0 =>
 nn x0 fun a2 =>
 xI .i64 (cell h1 (a2.add 12)) fun n14 =>
 C90 p0 n14 s1 h1 fun n15 h2 =>
 bif (n15 != 0) then
 K ⟨none, 0, 0⟩ 3 h2
 else
 nn x0 fun a3 =>
 xP (cell h2 (a3.add 4)) fun p1 =>
 C61 p1 h2 fun n16 n17 h3 =>
 nn x0 fun a4 =>
 xI .i64 (cell h3 (a4.add 12)) fun n18 =>
 C66 n18 n17 h3 fun n19 h4 =>
 nn x0 fun a5 =>
 st h4 (a5.add 12) (.int .i64 n19) fun h5 =>
 K s1 0 h5
theorem S74 {x0 : Option Addr} {x1_0 x1_1 x1_2 x1_3 x1_4 x1_5 x1_6 : Int} {x1_7 : Sl} {h : Hp} {K : Sl → Int → Hp → Prop} (hn : N74 x0 x1_0 x1_1 x1_2 x1_3 x1_4 x1_5 x1_6 x1_7 h K) : C74 x0 x1_0 x1_1 x1_2 x1_3 x1_4 x1_5 x1_6 x1_7 h K := by
 refine calls_of_D Tryz.func74 (c := B74) rfl (by kernel_rfl) ?_
 refine den_sound hE hm _ (.two .leaf (.two (.ord [0, 1, 2, 3, 4, 5, 6, 7, 8, 9, 10, 11, 12, 13, 14, 15, 16]) (.two .leaf (.two (.two (.ord [0, 1, 2, 3, 4, 5, 6, 7, 8, 9, 10]) .leaf) .leaf)))) _ _ _ (⟨annOk_leaf, ⟨trivial, ⟨annOk_leaf, ⟨⟨trivial, annOk_leaf⟩, annOk_leaf⟩⟩⟩⟩) ?_
 refine cast ?_ hn
 kernel_rfl
end Go.Proofs.YtbbnpmikjdgdpaaGreat

set_option linter.unusedVariables false
set_option maxRecDepth 100000
namespace Go.Proofs.YtbbnpmikjdgdpaaGreat
open Go Go.Hw
noncomputable def B53 : Code := match Tryz.f53.body with | some c => c | none => .skip
def N53 (x0 : Option Addr) (x1_0 x1_1 x1_2 x1_3 x1_4 x1_5 x1_6 : Int) (x1_7 : Sl) (h : Hp) (K : Sl → Int → Hp → Prop) : Prop :=
 nw h (.cells ⟨[.int .u8 x1_0, .int .u8 x1_1, .int .u8 x1_2, .int .u8 x1_3, .int .u8 x1_4, .int .u8 x1_5, .int .i64 x1_6, .slice x1_7.p x1_7.n x1_7.c]⟩ 99) fun b0 h0 =>
 xI .u8 (cell h0 (bk b0)) fun n0 =>
 xI .u8 (cell h0 ((bk b0).add 1)) fun n1 =>
 xI .u8 (cell h0 ((bk b0).add 2)) fun n2 =>
 xI .u8 (cell h0 ((bk b0).add 3)) fun n3 =>
 xI .u8 (cell h0 ((bk b0).add 4)) fun n4 =>
 xI .u8 (cell h0 ((bk b0).add 5)) fun n5 =>
 xI .i64 (cell h0 ((bk b0).add 6)) fun n6 =>
 xL (cell h0 ((bk b0).add 7)) fun s0 =>
 C74 x0 n0 n1 n2 n3 n4 n5 n6 s0 h0 fun s1 n7 h1 =>
 bif (n7 != 0) then
 nn x0 fun a0 =>
 xI .i64 (cell h1 (a0.add 3)) fun n8 =>
 nn x0 fun a1 =>
 st h1 (a1.add 3) (.int .i64 (IntKind.wrap .i64 (n8 + 1))) fun h2 =>
 K ⟨none, 0, 0⟩ n7 h2
 else
 nn x0 fun a2 =>
 xI .i64 (cell h1 (a2.add 2)) fun n9 =>
 nn x0 fun a3 =>
 st h1 (a3.add 2) (.int .i64 (IntKind.wrap .i64 (n9 + 1))) fun h3 =>
 K s1 0 h3
theorem S53 {x0 : Option Addr} {x1_0 x1_1 x1_2 x1_3 x1_4 x1_5 x1_6 : Int} {x1_7 : Sl} {h : Hp} {K : Sl → Int → Hp → Prop} (hn : N53 x0 x1_0 x1_1 x1_2 x1_3 x1_4 x1_5 x1_6 x1_7 h K) : C53 x0 x1_0 x1_1 x1_2 x1_3 x1_4 x1_5 x1_6 x1_7 h K := by
 refine calls_of_D Tryz.func53 (c := B53) rfl (by kernel_rfl) ?_
 refine den_sound hE hm _ .leaf _ _ _ (annOk_leaf) ?_
 refine cast ?_ hn
 kernel_rfl
end Go.Proofs.YtbbnpmikjdgdpaaGreat

/-
 The card made; its driver: in memory, its calls.
-/
set_option linter.unusedSimpArgs false
set_option linter.unusedVariables false
set_option maxRecDepth 20000
namespace Go.Proofs.YtbbnpmikjdgdpaaGreat
open Go Go.Hw
def Slt.one : Slt := { Slt.zero with card := true }
theorem rep_set {n i : Nat} (hi : i < n) : (List.replicate i Slt.one ++ List.replicate (n - i) Slt.zero).set i Slt.one = List.replicate (i + 1) Slt.one ++ List.replicate (n - (i + 1)) Slt.zero := by
 rw [List.set_append_right _ _ (by simp), List.length_replicate, Nat.sub_self, show n - i = (n - (i + 1)) + 1 by omega, List.replicate_succ, List.set_cons_zero, List.replicate_succ']
 simp
section
variable {L M : List Asn} {h : Hp} {b : Nat}
theorem c_cnew {rn tn : Int} {K : Option Addr → Hp → Prop} (hs : Sat (L ++ M) h) (h0 : ¬((1 ≤ rn ∧ rn ≤ 64) ∧ (1 ≤ tn ∧ tn ≤ 64)) → K none h)
  (hK : ((1 ≤ rn ∧ rn ≤ 64) ∧ (1 ≤ tn ∧ tn ≤ 64)) → ∀ b h', Sat (L ++ (M ++ [cardA b ⟨rn.toNat, 0, [], tn.toNat, 0, []⟩])) h' → K (some (bk b)) h') : C9 rn tn h K := by
 apply S9; unfold N9
 by_cases k1 : rn < 1
 ·rw [show decide (rn < 1) = true from decide_eq_true k1, cond_true]; exact h0 (by omega)
 ·rw [show decide (rn < 1) = false from decide_eq_false k1, cond_false]
  by_cases k2 : rn > 64
  ·rw [show decide (rn > 64) = true from decide_eq_true k2, cond_true]; exact h0 (by omega)
  ·rw [show decide (rn > 64) = false from decide_eq_false k2, cond_false]
   by_cases k3 : tn < 1
   ·rw [show decide (tn < 1) = true from decide_eq_true k3, cond_true]; exact h0 (by omega)
   ·rw [show decide (tn < 1) = false from decide_eq_false k3, cond_false]
    by_cases k4 : tn > 64
    ·rw [show decide (tn > 64) = true from decide_eq_true k4, cond_true]; exact h0 (by omega)
    ·rw [show decide (tn > 64) = false from decide_eq_false k4, cond_false]
     have sb := slot_b
     have room : ∀ {x : Int}, 0 ≤ x → x ≤ 64 → (Tryz.prog.bytesOf 75 : Int) * x ≤ 2 ^ 48 := by
      intro x hx0 hx
      have : (Tryz.prog.bytesOf 75 : Int) * x ≤ 2048 * 64 := Int.mul_le_mul (by omega) hx hx0 (by omega)
      omega
     -- both rings are there
     have fin : ∀ {h' : Hp} {s t : Sl} {b : Nat}, Sat (L ++ (M ++ [row b 72 [s.v, .int .i64 0, t.v, .int .i64 0, .int .i64 0, .int .i64 0, .int .i64 0], Hw.own 75 1516 s ((List.replicate rn.toNat Slt.zero).flatMap slotC), Hw.own 75 1516 t ((List.replicate tn.toNat Slt.zero).flatMap slotC)])) h' →
       N9_j0 (some (bk b)) h' fun p h'' => K p h'' := by
      intro h' s t b g
      have g : Sat ((L ++ M) ++ [row b 72 [s.v, .int .i64 0, t.v, .int .i64 0, .int .i64 0, .int .i64 0, .int .i64 0], Hw.own 75 1516 s ((List.replicate 0 Slt.one ++ List.replicate (rn.toNat - 0) Slt.zero).flatMap slotC), Hw.own 75 1516 t ((List.replicate tn.toNat Slt.zero).flatMap slotC)]) h' := by
       rw [List.replicate_zero, List.nil_append, Nat.sub_zero]; exact Sat.csa g
      have sn := g.elemN 1 rfl slotC_w (by decide)
      have sn : s.n = rn.toNat := by simpa using sn
      unfold N9_j0
      simp only [nn_some']
      refine g.lL 0 (k := 0) rfl rfl ?_
      unfold N9_l1
      refine loopP_inv (fun (x : Int) hc => ∃ i : Nat, x = i ∧ i ≤ rn.toNat ∧ Sat ((L ++ M) ++ [row b 72 [s.v, .int .i64 0, t.v, .int .i64 0, .int .i64 0, .int .i64 0, .int .i64 0], Hw.own 75 1516 s ((List.replicate i Slt.one ++ List.replicate (rn.toNat - i) Slt.zero).flatMap slotC), Hw.own 75 1516 t ((List.replicate tn.toNat Slt.zero).flatMap slotC)]) hc) (fun x _ => rn.toNat - x.toNat) ?_ ⟨0, rfl, Nat.zero_le _, g⟩
      rintro x hc ⟨i, rfl, hi, g1⟩
      unfold N9_l1_B N9_l1_b
      dsimp only
      by_cases hlt : i < rn.toNat
      ·rw [show decide ((i : Int) < ((s.n : Nat) : Int)) = true from decide_eq_true (by omega), cond_true]
       simp only [nn_some']
       refine g1.lL 0 (k := 0) rfl rfl ?_
       have he : (List.replicate i Slt.one ++ List.replicate (rn.toNat - i) Slt.zero)[i]? = some Slt.zero := by
        rw [List.getElem?_append_right (by simp), List.length_replicate, Nat.sub_self, List.getElem?_replicate, if_pos (by omega)]
       refine g1.elem 1 rfl slotC_w (by decide) he rfl ?_
       intro r hr _
       rw [add_bk, Int.toNat_natCast]
       have := Sat.stE (k := 0) (x' := Slt.one) (v := .bool true) g1 1 rfl slotC_w he (by omega) rfl rfl hr (F := fun h' => (∃ i_1 : Nat, IntKind.wrap .i64 ((i : Int) + 1) = i_1 ∧ i_1 ≤ rn.toNat ∧ Sat ((L ++ M) ++ [row b 72 [s.v, .int .i64 0, t.v, .int .i64 0, .int .i64 0, .int .i64 0, .int .i64 0], Hw.own 75 1516 s ((List.replicate i_1 Slt.one ++ List.replicate (rn.toNat - i_1) Slt.zero).flatMap slotC), Hw.own 75 1516 t ((List.replicate tn.toNat Slt.zero).flatMap slotC)]) h') ∧ rn.toNat - (IntKind.wrap .i64 ((i : Int) + 1)).toNat < rn.toNat - ((i : Nat) : Int).toNat) ?_
       ·exact this
       ·intro h2 g2
        rw [rep_set hlt] at g2
        rw [nat_succ64 (by omega)]
        exact ⟨⟨i + 1, rfl, hlt, g2⟩, by omega⟩
      ·rw [show decide ((i : Int) < ((s.n : Nat) : Int)) = false from decide_eq_false (by omega), cond_false]
       have : i = rn.toNat := by omega
       subst this
       rw [Nat.sub_self, List.replicate_zero, List.append_nil] at g1
       refine hK ⟨by omega, by omega⟩ b _ (Sat.asc (card_shut (k := ⟨rn.toNat, 0, [], tn.toNat, 0, []⟩) (x := ⟨s, t, List.replicate rn.toNat Slt.one, List.replicate tn.toNat Slt.zero, 0, 0, 0⟩) ?_ ⟨by simp, by simp, RQ.new (by simp; omega) ?_, RQ.new (by simp; omega) ?_, show rn.toNat ≤ 64 by omega, show tn.toNat ≤ 64 by omega⟩))
       ·have e : cdC ⟨rn.toNat, 0, [], tn.toNat, 0, []⟩ ⟨s, t, List.replicate rn.toNat Slt.one, List.replicate tn.toNat Slt.zero, 0, 0, 0⟩ = [s.v, .int .i64 0, t.v, .int .i64 0, .int .i64 0, .int .i64 0, .int .i64 0] := by
         unfold cdC
         simp
        rw [e]; exact g1
       ·intro e he; rw [(List.mem_replicate.1 he).2]; rfl
       ·intro e he; rw [(List.mem_replicate.1 he).2]; rfl
     refine ⟨?_, ?_⟩
     ·refine hs.mk (sz := 1516) slot_zl (by omega) (by omega) (room (by omega) (by omega)) (by omega) ?_
      intro s h1 _ _ g1
      rw [zeros_flat slotC_w (by decide) slot_z] at g1
      refine Sat.mk g1 (sz := 1516) slot_zl (by omega) (by omega) (room (by omega) (by omega)) (by omega) ?_
      intro t h2 _ _ g2
      rw [zeros_flat slotC_w (by decide) slot_z] at g2
      refine Sat.nw g2 ?_
      intro b h3 g3 _
      have g4 : Sat ((L ++ M) ++ [Hw.own 75 1516 s ((List.replicate rn.toNat Slt.zero).flatMap slotC), Hw.own 75 1516 t ((List.replicate tn.toNat Slt.zero).flatMap slotC), row b 72 [s.v, .int .i64 0, t.v, .int .i64 0, .int .i64 0, .int .i64 0, .int .i64 0]]) h3 := by
       rw [List.append_assoc, List.append_assoc] at g3
       exact Sat.csa g3
      exact fin (Sat.asc (g4.sel [2, 0, 1] (by decide) rfl))
     ·refine hs.mk (sz := 1516) slot_zl (by omega) (by omega) (room (by omega) (by omega)) (by omega) ?_
      intro t h1 _ _ g1
      rw [zeros_flat slotC_w (by decide) slot_z] at g1
      refine Sat.mk g1 (sz := 1516) slot_zl (by omega) (by omega) (room (by omega) (by omega)) (by omega) ?_
      intro s h2 _ _ g2
      rw [zeros_flat slotC_w (by decide) slot_z] at g2
      refine Sat.nw g2 ?_
      intro b h3 g3 _
      have g4 : Sat ((L ++ M) ++ [Hw.own 75 1516 t ((List.replicate tn.toNat Slt.zero).flatMap slotC), Hw.own 75 1516 s ((List.replicate rn.toNat Slt.zero).flatMap slotC), row b 72 [s.v, .int .i64 0, t.v, .int .i64 0, .int .i64 0, .int .i64 0, .int .i64 0]]) h3 := by
       rw [List.append_assoc, List.append_assoc] at g3
       exact Sat.csa g3
      exact fin (Sat.asc (g4.sel [2, 1, 0] (by decide) rfl))
end
end Go.Proofs.YtbbnpmikjdgdpaaGreat

/-
 The driver: in memory; New, Own, Send; what comes and goes on its card.
-/
set_option linter.unusedSimpArgs false
set_option linter.unusedVariables false
set_option maxRecDepth 20000
namespace Go.Proofs.YtbbnpmikjdgdpaaGreat
open Go Go.Hw
structure NcS where
 own : M6
 rn : Nat
 rq : List (List UInt8)
 tn : Nat
 tq : List (List UInt8)
structure NcX where
 rh : Nat
 th : Nat
 a : Int
 b : Int
 c : Int
 d : Int
def NcS.cd (N : NcS) (x : NcX) : CdS := ⟨N.rn, x.rh, N.rq, N.tn, x.th, N.tq⟩
def nicC (bc : Nat) (N : NcS) (x : NcX) : List Value := [.int .i64 x.a, .int .i64 x.b, .int .i64 x.c, .int .i64 x.d, .pointer (some (bk bc)), .int .u8 N.own.a, .int .u8 N.own.b, .int .u8 N.own.c, .int .u8 N.own.d, .int .u8 N.own.e, .int .u8 N.own.f, .int .i64 (x.rh : Int), .int .i64 (((x.th + N.tq.length) % N.tn : Nat) : Int)]
def nicA (b bc : Nat) (N : NcS) : Asn := exs fun x : NcX => star [row b 79 (nicC bc N x), cardA bc (N.cd x)]
section
variable {L M : List Asn} {h : Hp} {b bc : Nat} {N : NcS}
theorem nic_open (hs : Sat (L ++ [nicA b bc N]) h) : ∃ x, Sat (L ++ [row b 79 (nicC bc N x), cardA bc (N.cd x)]) h := by
 obtain ⟨x, hs⟩ := hs.exOut
 have hs : Sat (L ++ [star [row b 79 (nicC bc N x), cardA bc (N.cd x)]]) h := hs
 exact ⟨x, hs.open⟩
theorem nic_shut {x : NcX} (hs : Sat (L ++ [row b 79 (nicC bc N x), cardA bc (N.cd x)]) h) : Sat (L ++ [nicA b bc N]) h := by
 have h2 := hs.close
 unfold nicA
 exact h2.exIn x
theorem card_rng {k : CdS} (hs : Sat (L ++ [cardA b k]) h) : (k.rh < k.rn ∧ k.rq.length ≤ k.rn ∧ k.rn ≤ 64) ∧ (k.th < k.tn ∧ k.tq.length ≤ k.tn ∧ k.tn ≤ 64) := by
 obtain ⟨x, ok, _⟩ := card_open hs
 have h1 := ok.rq.lt
 have h2 := ok.rq.len
 have h3 := ok.tq.lt
 have h4 := ok.tq.len
 have h5 := ok.rn
 have h6 := ok.tn
 have h7 := ok.m
 omega
theorem nic_rng (hs : Sat (L ++ [nicA b bc N]) h) : (0 < N.rn ∧ N.rq.length ≤ N.rn ∧ N.rn ≤ 64) ∧ (0 < N.tn ∧ N.tq.length ≤ N.tn ∧ N.tn ≤ 64) := by
 obtain ⟨x, g⟩ := nic_open hs
 have := card_rng (Sat.csa g (A := [_]))
 simp only [NcS.cd] at this
 omega
theorem c_narr {x : Sl} {l : List UInt8} {K : Bool → Hp → Prop} (hs : Sat (L ++ [nicA b bc N]) h) (hr : RdB h x l) (h0 : (l.length = 0 ∨ 1514 < l.length) ∨ N.rq.length = N.rn → ∀ h', Sat (L ++ [nicA b bc N]) h' → K false h')
  (hok : 0 < l.length ∧ l.length ≤ 1514 → N.rq.length < N.rn → ∀ h', Sat (L ++ [nicA b bc { N with rq := N.rq ++ [l] }]) h' → K true h') : C18 (some (bk bc)) x h K := by
 obtain ⟨y, g⟩ := nic_open hs
 refine c_arr (Sat.csa g (A := [_])) hr (fun q => h0 (.inl q) h hs) (fun q1 q2 h' g' => h0 (.inr q2) h' (nic_shut (Sat.asc g'))) (fun q1 q2 h' g' => ?_)
 exact hok q1 q2 h' (nic_shut (N := { N with rq := N.rq ++ [l] }) (x := y) (Sat.asc g'))
theorem c_ndep {K : Sl → Bool → Hp → Prop} (hs : Sat (L ++ [nicA b bc N]) h) (h0 : N.tq = [] → K ⟨none, 0, 0⟩ false h)
  (hK : ∀ d r, N.tq = d :: r → ∀ h' y, Sat (L ++ [nicA b bc { N with tq := r }, Hw.own 5 1 y (Hw.bc d)]) h' → K y true h') : C17 (some (bk bc)) h K := by
 obtain ⟨y, g⟩ := nic_open hs
 refine c_dep (Sat.csa g (A := [_])) h0 (fun d r hq h' z g' => ?_)
 have hq : N.tq = d :: r := hq
 have e : (y.th + N.tq.length) % N.tn = ((y.th + 1) % N.tn + r.length) % N.tn := by rw [hq, Nat.mod_add_mod, List.length_cons]; congr 1; omega
 have g1 : Sat ((L ++ [Hw.own 5 1 z (Hw.bc d)]) ++ [row b 79 (nicC bc N y), cardA bc { N.cd y with th := (y.th + 1) % N.tn, tq := r }]) h' := Sat.part (Sat.asc g') [2, 0, 1] (by decide) rfl
 have e2 : nicC bc N y = nicC bc { N with tq := r } { y with th := (y.th + 1) % N.tn } := by unfold nicC; rw [e]
 rw [e2] at g1
 have g2 := nic_shut (N := { N with tq := r }) (x := { y with th := (y.th + 1) % N.tn }) g1
 exact hK d r hq h' z ((Sat.asc g2).sel [1, 0] (by decide) rfl)
theorem c_nnew {own : M6} {k : CdS} {K : Option Addr → Hp → Prop} (hs : Sat (L ++ [cardA bc ⟨k.rn, 0, [], k.tn, 0, []⟩]) h)
  (hK : ∀ b h', Sat (L ++ [nicA b bc ⟨own, k.rn, [], k.tn, []⟩]) h' → K (some (bk b)) h') : C10 (some (bk bc)) own.a own.b own.c own.d own.e own.f h K := by
 apply S10; unfold N10
 refine hs.nw ?_
 intro z h1 g1 _
 have g1 : Sat (L ++ [cardA bc ⟨k.rn, 0, [], k.tn, 0, []⟩, row z 46 (macC own)]) h1 := g1
 simp only [peq_none, Option.isNone_some, cond_false, add_bk]
 refine g1.lI 1 (k := 0) rfl rfl ?_
 refine g1.lI 1 rfl rfl ?_
 refine g1.lI 1 rfl rfl ?_
 refine g1.lI 1 rfl rfl ?_
 refine g1.lI 1 rfl rfl ?_
 refine g1.lI 1 rfl rfl ?_
 refine Sat.nw g1 ?_
 intro b h2 g2 _
 have hr := card_rng (hs)
 have hr : 0 < k.tn := by simp only at hr; omega
 have g3 : Sat (L ++ [row b 79 (nicC bc ⟨own, k.rn, [], k.tn, []⟩ ⟨0, 0, 0, 0, 0, 0⟩), cardA bc ⟨k.rn, 0, [], k.tn, 0, []⟩]) h2 := by
  have e : nicC bc ⟨own, k.rn, [], k.tn, []⟩ ⟨0, 0, 0, 0, 0, 0⟩ = [.int .i64 0, .int .i64 0, .int .i64 0, .int .i64 0, .pointer (some (bk bc)), .int .u8 own.a, .int .u8 own.b, .int .u8 own.c, .int .u8 own.d, .int .u8 own.e, .int .u8 own.f, .int .i64 0, .int .i64 0] := by
   unfold nicC; simp
  rw [e]
  exact Sat.sel g2 [2, 0] (by decide) rfl
 exact hK b h2 (nic_shut (N := ⟨own, k.rn, [], k.tn, []⟩) (x := ⟨0, 0, 0, 0, 0, 0⟩) g3)
theorem c_nown {K : Int → Int → Int → Int → Int → Int → Hp → Prop} (hs : Sat (L ++ [nicA b bc N]) h) (hK : ∀ h', Ext none' h h' → K N.own.a N.own.b N.own.c N.own.d N.own.e N.own.f h') : C23 (some (bk b)) h K := by
 apply S23; unfold N23
 obtain ⟨y, g⟩ := nic_open hs
 have hs0 : Sat ([Hw.was h] ++ []) h := Sat.start
 intro z e0
 have he := Ext.new (S := none') (o := .cells ⟨[.int .u8 0, .int .u8 0, .int .u8 0, .int .u8 0, .int .u8 0, .int .u8 0]⟩ 46 (0, 0)) e0
 have g1 := g.ext he
 have w1 := Sat.new hs0 e0 (.cells ⟨[.int .u8 0, .int .u8 0, .int .u8 0, .int .u8 0, .int .u8 0, .int .u8 0]⟩ 46 (0, 0))
 have w1 : Sat ([] ++ [Hw.was h, row z 46 [.int .u8 0, .int .u8 0, .int .u8 0, .int .u8 0, .int .u8 0, .int .u8 0]]) _ := w1
 simp only [nn_some', add_bk]
 refine g1.lI 0 rfl rfl ?_
 refine g1.lI 0 rfl rfl ?_
 refine g1.lI 0 rfl rfl ?_
 refine g1.lI 0 rfl rfl ?_
 refine g1.lI 0 rfl rfl ?_
 refine g1.lI 0 rfl rfl ?_
 have hs := w1
 refine Sat.st hs 1 (k := 0) rfl (by simp) rfl fun h7 hs => ?_
 simp only [List.set_cons_zero, List.set_cons_succ] at hs
 refine Sat.st hs 1 rfl (by simp) rfl fun h7 hs => ?_
 simp only [List.set_cons_zero, List.set_cons_succ] at hs
 refine Sat.st hs 1 rfl (by simp) rfl fun h7 hs => ?_
 simp only [List.set_cons_zero, List.set_cons_succ] at hs
 refine Sat.st hs 1 rfl (by simp) rfl fun h7 hs => ?_
 simp only [List.set_cons_zero, List.set_cons_succ] at hs
 refine Sat.st hs 1 rfl (by simp) rfl fun h7 hs => ?_
 simp only [List.set_cons_zero, List.set_cons_succ] at hs
 refine Sat.st hs 1 rfl (by simp) rfl fun h7 hs => ?_
 simp only [List.set_cons_zero, List.set_cons_succ] at hs
 refine Sat.lI hs 1 (k := 0) rfl rfl ?_
 refine Sat.lI hs 1 rfl rfl ?_
 refine Sat.lI hs 1 rfl rfl ?_
 refine Sat.lI hs 1 rfl rfl ?_
 refine Sat.lI hs 1 rfl rfl ?_
 refine Sat.lI hs 1 rfl rfl ?_
 exact hK _ (hs.was 0 rfl)
theorem c_nnext {a n : Nat} {K : Int → Hp → Prop} (ha : a < n) (hn : n ≤ 64) (hK : K (((a + 1) % n : Nat) : Int) h) : C66 (a : Int) (n : Int) h K := by
 apply S66; unfold N66
 rw [nat_succ64 (by omega)]
 by_cases h1 : a + 1 < n
 ·rw [show decide (((a + 1 : Nat) : Int) < (n : Int)) = true from decide_eq_true (by omega), cond_true]
  rw [Nat.mod_eq_of_lt h1] at hK; exact hK
 ·rw [show decide (((a + 1 : Nat) : Int) < (n : Int)) = false from decide_eq_false (by omega), cond_false]
  have : a + 1 = n := by omega
  rw [this, Nat.mod_self] at hK; exact hK
def sdC (d : M6) (kind : Int) (x : Sl) : List Value := [.int .u8 d.a, .int .u8 d.b, .int .u8 d.c, .int .u8 d.d, .int .u8 d.e, .int .u8 d.f, .int .i64 kind, x.v]
theorem c_nlay {d : M6} {kind : Int} {data : List UInt8} {x : Sl} {K : Sl → Int → Hp → Prop} (hs : Sat (L ++ [nicA b bc N]) h) (hd : d.ok) (hown : N.own.ok) (hr : RdB h x data) (hdl : data.length ≤ 1099511627776)
  (hbad : sealE kind data ≠ 0 → ∀ h', Sat (L ++ [nicA b bc N]) h' → K ⟨none, 0, 0⟩ (sealE kind data) h') (hfull : sealE kind data = 0 → N.tq.length = N.tn → ∀ h', Sat (L ++ [nicA b bc N]) h' → K ⟨none, 0, 0⟩ 3 h')
  (hok : sealE kind data = 0 → N.tq.length < N.tn → ∀ h' y, Sat (L ++ [nicA b bc { N with tq := N.tq ++ [sealL d N.own kind data] }, Hw.own 5 1 y (Hw.bc (sealL d N.own kind data))]) h' → K y 0 h') :
  C74 (some (bk b)) d.a d.b d.c d.d d.e d.f kind x h K := by
 apply S74; unfold N74
 obtain ⟨u, g⟩ := nic_open hs
 intro z e0
 have he := Ext.new (S := none') (o := .cells ⟨[.int .u8 d.a, .int .u8 d.b, .int .u8 d.c, .int .u8 d.d, .int .u8 d.e, .int .u8 d.f, .int .i64 kind, .slice x.p x.n x.c]⟩ 99 (0, 0)) e0
 have g1 := Sat.new g e0 (.cells ⟨[.int .u8 d.a, .int .u8 d.b, .int .u8 d.c, .int .u8 d.d, .int .u8 d.e, .int .u8 d.f, .int .i64 kind, .slice x.p x.n x.c]⟩ 99 (0, 0))
 have r1 := hr.ext he
 revert r1 he g1
 generalize upd h z _ = h1
 intro he g1 r1
 have g1 : Sat (L ++ [row b 79 (nicC bc N u), cardA bc (N.cd u), row z 99 (sdC d kind x)]) h1 := g1
 simp only [nn_some', add_bk]
 refine Sat.lI g1 2 (k := 0) rfl rfl ?_
 refine Sat.lI g1 2 rfl rfl ?_
 refine Sat.lI g1 2 rfl rfl ?_
 refine Sat.lI g1 2 rfl rfl ?_
 refine Sat.lI g1 2 rfl rfl ?_
 refine Sat.lI g1 2 rfl rfl ?_
 refine Sat.lI g1 0 rfl rfl ?_
 refine Sat.lI g1 0 rfl rfl ?_
 refine Sat.lI g1 0 rfl rfl ?_
 refine Sat.lI g1 0 rfl rfl ?_
 refine Sat.lI g1 0 rfl rfl ?_
 refine Sat.lI g1 0 rfl rfl ?_
 refine Sat.lI g1 2 rfl rfl ?_
 refine Sat.lL g1 2 rfl rfl ?_
 refine c_seal hd hown r1 hdl (fun q h2 he2 => ?_) (fun q h2 y hy => ?_)
 ·rw [show (sealE kind data != 0) = true by simp [q], cond_true]
  exact hbad q h2 (nic_shut ((Sat.ext g1 he2).sel [0, 1] (by decide) rfl))
 ·rw [show ((0 : Int) != 0) = false from rfl, cond_false]
  have g2 := Sat.addNew g1 hy
  have g2 : Sat (L ++ [row b 79 (nicC bc N u), cardA bc (N.cd u), row z 99 (sdC d kind x), Hw.own 5 1 y (Hw.bc (sealL d N.own kind data))]) h2 := g2
  refine g2.lP 0 rfl rfl ?_
  refine g2.lI 0 rfl rfl ?_
  have hlen := seal_len (d := d) (s := N.own) (kind := kind) (data := data)
  have hdata : data.length ≤ 1500 := by
   unfold sealE at q
   split at q
   ·cases q
   ·split at q
    ·cases q
    ·omega
  have g3 : Sat ((L ++ [row b 79 (nicC bc N u), Hw.own 5 1 y (Hw.bc (sealL d N.own kind data))]) ++ [cardA bc (N.cd u)]) h2 := g2.part [0, 3, 1] (by decide) rfl
  have rng := card_rng g3
  simp only [NcS.cd] at rng
  refine c_lay (k := N.cd u) g3 (g2.own 3 rfl).rdb (by omega) (fun hf => ?_) (fun hl h3 g4 => ?_)
  ·rw [show ((41 : Int) != 0) = true from rfl, cond_true]
   exact hfull q hf h2 (nic_shut (g2.sel [0, 1] (by decide) rfl))
  ·rw [show ((0 : Int) != 0) = false from rfl, cond_false]
   have g5 : Sat (L ++ [row b 79 (nicC bc N u), Hw.own 5 1 y (Hw.bc (sealL d N.own kind data)), cardA bc { N.cd u with tq := N.tq ++ [sealL d N.own kind data] }]) h3 := Sat.asc g4
   refine g5.lP 0 rfl rfl ?_
   have g6 : Sat ((L ++ [row b 79 (nicC bc N u), Hw.own 5 1 y (Hw.bc (sealL d N.own kind data))]) ++ [cardA bc { N.cd u with tq := N.tq ++ [sealL d N.own kind data] }]) h3 := Sat.csa g5 (A := [_, _])
   refine c_rings g6 ?_
   refine g5.lI 0 rfl rfl ?_
   refine c_nnext (a := (u.th + N.tq.length) % N.tn) (n := N.tn) (Nat.mod_lt _ (by omega)) (by omega) ?_
   refine Sat.st g5 0 rfl (by simp [nicC]) rfl ?_
   intro h4 g7
   have e : ((u.th + N.tq.length) % N.tn + 1) % N.tn = (u.th + (N.tq ++ [sealL d N.own kind data]).length) % N.tn := by
    rw [Nat.mod_add_mod, List.length_append, List.length_singleton]; rfl
   rw [e] at g7
   have g8 : Sat ((L ++ [Hw.own 5 1 y (Hw.bc (sealL d N.own kind data))]) ++ [row b 79 (nicC bc { N with tq := N.tq ++ [sealL d N.own kind data] } u), cardA bc (NcS.cd { N with tq := N.tq ++ [sealL d N.own kind data] } u)]) h4 := Sat.part g7 [1, 0, 2] (by decide) rfl
   exact hok q hl h4 y ((Sat.asc (nic_shut g8)).sel [1, 0] (by decide) rfl)
theorem c_nsend {d : M6} {kind : Int} {data : List UInt8} {x : Sl} {K : Sl → Int → Hp → Prop} (hs : Sat (L ++ [nicA b bc N]) h) (hd : d.ok) (hown : N.own.ok) (hr : RdB h x data) (hdl : data.length ≤ 1099511627776)
  (hbad : sealE kind data ≠ 0 ∨ N.tq.length = N.tn → ∀ e h', e ≠ 0 → Sat (L ++ [nicA b bc N]) h' → K ⟨none, 0, 0⟩ e h')
  (hok : sealE kind data = 0 → N.tq.length < N.tn → ∀ h' y, Sat (L ++ [nicA b bc { N with tq := N.tq ++ [sealL d N.own kind data] }, Hw.own 5 1 y (Hw.bc (sealL d N.own kind data))]) h' → K y 0 h') :
  C53 (some (bk b)) d.a d.b d.c d.d d.e d.f kind x h K := by
 apply S53; unfold N53
 intro z e0
 have he := Ext.new (S := none') (o := .cells ⟨[.int .u8 d.a, .int .u8 d.b, .int .u8 d.c, .int .u8 d.d, .int .u8 d.e, .int .u8 d.f, .int .i64 kind, .slice x.p x.n x.c]⟩ 99 (0, 0)) e0
 have g1 := Sat.new hs e0 (.cells ⟨[.int .u8 d.a, .int .u8 d.b, .int .u8 d.c, .int .u8 d.d, .int .u8 d.e, .int .u8 d.f, .int .i64 kind, .slice x.p x.n x.c]⟩ 99 (0, 0))
 have r1 := hr.ext he
 revert r1 he g1
 generalize upd h z _ = h1
 intro he g1 r1
 have g1 : Sat (L ++ [nicA b bc N, row z 99 (sdC d kind x)]) h1 := g1
 simp only [nn_some', add_bk]
 refine Sat.lI g1 1 (k := 0) rfl rfl ?_
 refine Sat.lI g1 1 rfl rfl ?_
 refine Sat.lI g1 1 rfl rfl ?_
 refine Sat.lI g1 1 rfl rfl ?_
 refine Sat.lI g1 1 rfl rfl ?_
 refine Sat.lI g1 1 rfl rfl ?_
 refine Sat.lI g1 1 rfl rfl ?_
 refine Sat.lL g1 1 rfl rfl ?_
 have g2 : Sat (L ++ [nicA b bc N]) h1 := g1.sel [0] (by decide) rfl
 have bad : ∀ {e : Int} {h' : Hp}, e ≠ 0 → (sealE kind data ≠ 0 ∨ N.tq.length = N.tn) → Sat (L ++ [nicA b bc N]) h' → (bif e != 0 then xI .i64 (cell h' ⟨b, 3, none⟩) fun n8 => st h' ⟨b, 3, none⟩ (.int .i64 (IntKind.wrap .i64 (n8 + 1))) fun h2 => K ⟨none, 0, 0⟩ e h2
   else xI .i64 (cell h' ⟨b, 2, none⟩) fun n9 => st h' ⟨b, 2, none⟩ (.int .i64 (IntKind.wrap .i64 (n9 + 1))) fun h3 => K ⟨none, 0, 0⟩ 0 h3) := by
  intro e h' hne q g
  rw [show (e != 0) = true by simp [hne], cond_true]
  obtain ⟨u, g⟩ := nic_open g
  refine g.lI 0 rfl rfl ?_
  refine g.st 0 rfl (by simp [nicC]) rfl ?_
  intro h2 g2
  exact hbad q e h2 hne (nic_shut (x := { u with d := IntKind.wrap .i64 (u.d + 1) }) g2)
 refine c_nlay g2 hd hown r1 hdl (fun q h2 g3 => ?_) (fun q1 q2 h2 g3 => ?_) (fun q1 q2 h2 y g3 => ?_)
 ·have := bad q (.inl q) g3
  rw [show (sealE kind data != 0) = true by simp [q], cond_true] at this ⊢
  exact this
 ·exact bad (e := 3) (by decide) (.inr q2) g3
 ·rw [show ((0 : Int) != 0) = false from rfl, cond_false]
  have g4 : Sat ((L ++ [Hw.own 5 1 y (Hw.bc (sealL d N.own kind data))]) ++ [nicA b bc { N with tq := N.tq ++ [sealL d N.own kind data] }]) h2 := g3.part [1, 0] (by decide) rfl
  obtain ⟨u, g5⟩ := nic_open g4
  refine g5.lI 0 rfl rfl ?_
  refine g5.st 0 rfl (by simp [nicC]) rfl ?_
  intro h3 g6
  have g7 := nic_shut (N := { N with tq := N.tq ++ [sealL d N.own kind data] }) (x := { u with c := IntKind.wrap .i64 (u.c + 1) }) g6
  exact hok q1 q2 h3 y ((Sat.asc g7).sel [1, 0] (by decide) rfl)
end
end Go.Proofs.YtbbnpmikjdgdpaaGreat
