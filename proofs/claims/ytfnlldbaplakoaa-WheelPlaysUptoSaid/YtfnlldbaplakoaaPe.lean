/- Texts of a walk over heaps, printed by program and by hand: lemmas for the law that is proved in this claim. No condition. -/
import Derived.Test.YtfnlldbaplakoaaPd
import Derived.Test.YtfnlldbaplakoaaPc
set_option linter.unusedVariables false
set_option maxRecDepth 100000
namespace Go.Proofs.Ytfnlldbaplakoaa
open Go Go.Hw
/-! ### 39 slices.MinFunc[[]*slipway/wheel.timer,*slipway/wheel.timer] -/
noncomputable def B39 : Code := match Try.f39.body with | some c => c | none => .skip
def N39_l1_b (x0_x : Sl) (x1_cmp : Value) (Φ : Option Addr → Int → Hp → Prop) (x5_m : Option Addr) (x6_i : Int) (h : Hp) (K_e0 : Option Addr → Hp → Prop) : Prop :=
  bif (decide (x6_i < ((x0_x.n : Nat) : Int))) then
    idx x6_i x0_x.n <|
    nn x0_x.p fun a0 =>
    xP (cell h (a0.add (x6_i.toNat * 1))) fun p0 =>
    HCallV Try.prog E (x1_cmp) [.pointer p0, .pointer x5_m] h fun v0 h0 =>
    xI .i64 (some v0) fun n0 =>
    bif (decide (n0 < 0)) then
      idx x6_i x0_x.n <|
      nn x0_x.p fun a1 =>
      xP (cell h0 (a1.add (x6_i.toNat * 1))) fun p1 =>
      Φ p1 (IntKind.wrap .i64 (x6_i + 1)) h0
    else
      Φ x5_m (IntKind.wrap .i64 (x6_i + 1)) h0
  else
    K_e0 x5_m h
def N39_l1_B (x0_x : Sl) (x1_cmp : Value) (K_e0 : Option Addr → Hp → Prop) (s : Sg.T [(5, .c (.ptr)), (6, .c (.int .i64))]) (h : Hp) (Φ : Sg.T [(5, .c (.ptr)), (6, .c (.int .i64))] → Hp → Prop) : Prop :=
  N39_l1_b x0_x x1_cmp (fun x5_m x6_i h => Φ (x5_m, x6_i) h) s.1 s.2 h K_e0
def N39_l1 (x0_x : Sl) (x1_cmp : Value) (x5_m : Option Addr) (x6_i : Int) (h : Hp) (K_e0 : Option Addr → Hp → Prop) : Prop :=
  loopP (N39_l1_B x0_x x1_cmp K_e0) (x5_m, x6_i) h
noncomputable def N39_l1_t : Xf := loopT [(0, .c (.slice)), (1, .c (.any))] [(5, .c (.ptr)), (6, .c (.int .i64))] (codeAt B39 [1, 1, 1, 0, 1, 0, 0]) fun F Q => N39_l1_B F.1 F.2 (fun o0 h' => Q (.exit 0) (Sg.env [(5, .c (.ptr))] o0) h')
theorem N39_l1_ok : Sound Try.prog Try.f39.ntmps N39_l1_t (codeAt B39 [1, 1, 1, 0, 1, 0]) := by
  refine loop_sound (fun e => match e with | .exit 0 => [5] | _ => []) (by kernel_rfl) ?_
  intro F Q s h Φ hb
  refine den_sound hE hm _ .leaf _ _ _ (annOk_leaf) ?_
  refine cast ?_ hb
  kernel_rfl
def N39_j0 (x0_x : Sl) (x1_cmp : Value) (h : Hp) (K_ret : Option Addr → Hp → Prop) : Prop :=
  idx 0 x0_x.n <|
  nn x0_x.p fun a0 =>
  xP (cell h (a0.add ((0 : Int).toNat * 1))) fun p0 =>
  N39_l1 x0_x x1_cmp p0 1 h
    (fun p1 h0 =>
      K_ret p1 h0)
noncomputable def N39_j0_t : Xf := pieceT [(0, .c (.slice)), (1, .c (.any))] (codeAt B39 [1, 1]) fun x h Q => N39_j0 x.1 x.2 h (fun o0 h' => Q .ret (Sg.env [(4, .c (.ptr))] o0) h')
theorem N39_j0_ok : Sound Try.prog Try.f39.ntmps N39_j0_t (codeAt B39 [1, 1]) := by
  refine piece_sound (fun e => match e with | .ret => [4] | _ => []) ?_
  intro x h Q hb
  refine den_sound hE hm _ (.two .leaf (.two (.two .leaf (.one (.xf N39_l1_t))) .leaf)) _ _ _ (⟨annOk_leaf, ⟨⟨annOk_leaf, N39_l1_ok⟩, annOk_leaf⟩⟩) ?_
  refine cast ?_ hb
  kernel_rfl
def N39 (x0 : Sl) (x1 : Value) (h : Hp) (K : Option Addr → Hp → Prop) : Prop :=
  bif (decide (((x0.n : Nat) : Int) < 1)) then
    False
  else
    N39_j0 x0 x1 h
      (fun p0 h0 =>
        K p0 h0)
theorem S39 {x0 : Sl} {x1 : Value} {h : Hp} {K : Option Addr → Hp → Prop} (hn : N39 x0 x1 h K) : C39 x0 x1 h K := by
  refine calls_of_D Try.func39 (c := B39) rfl (by kernel_rfl) ?_
  refine den_sound hE hm _ (.two .leaf (.two .leaf (.xf N39_j0_t))) _ _ _ (⟨annOk_leaf, ⟨annOk_leaf, N39_j0_ok⟩⟩) ?_
  refine cast ?_ hn
  kernel_rfl
end Go.Proofs.Ytfnlldbaplakoaa

set_option linter.unusedVariables false
set_option maxRecDepth 100000
namespace Go.Proofs.Ytfnlldbaplakoaa
open Go Go.Hw
/-! ### 30 (*slipway/wheel.Wheel).soonest -/
noncomputable def B30 : Code := match Try.f30.body with | some c => c | none => .skip
def N30_l1_b (x0_w : Option Addr) (x3_k : Int) (x6 : Int) (Φ : Int → Hp → Prop) (x4_i : Int) (h : Hp) (K_e2 : Hp → Prop) (K_ret : Option Addr → Hp → Prop) : Prop :=
  bif (decide (x4_i < 64)) then
    nn x0_w fun a0 =>
    idx x3_k 4 <|
    idx x4_i 64 <|
    xL (cell h (((a0.add 2).add (x3_k.toNat * 64)).add (x4_i.toNat * 1))) fun s0 =>
    bif (decide (((s0.n : Nat) : Int) > 0)) then
      C39 s0 (.func (.func 40) ⟨[]⟩ ⟨[]⟩) h fun p0 h0 =>
      K_ret p0 h0
    else
      Φ (IntKind.wrap .i64 (x4_i + 1)) h
  else
    K_e2 h
def N30_l1_B (x0_w : Option Addr) (x3_k : Int) (x6 : Int) (K_e2 : Hp → Prop) (K_ret : Option Addr → Hp → Prop) (s : Sg.T [(4, .c (.int .i64))]) (h : Hp) (Φ : Sg.T [(4, .c (.int .i64))] → Hp → Prop) : Prop :=
  N30_l1_b x0_w x3_k x6 (fun x4_i h => Φ x4_i h) s h K_e2 K_ret
def N30_l1 (x0_w : Option Addr) (x3_k : Int) (x6 : Int) (x4_i : Int) (h : Hp) (K_e2 : Hp → Prop) (K_ret : Option Addr → Hp → Prop) : Prop :=
  loopP (N30_l1_B x0_w x3_k x6 K_e2 K_ret) x4_i h
noncomputable def N30_l1_t : Xf := loopT [(0, .c (.ptr)), (3, .c (.int .i64)), (6, .c (.int .i64))] [(4, .c (.int .i64))] (codeAt B30 [1, 0, 1, 0, 0, 1, 1, 0, 0, 1, 1, 0, 0]) fun F Q => N30_l1_B F.1 F.2.1 F.2.2 (fun h' => Q (.exit 2) (Sg.env [] ()) h') (fun o0 h' => Q .ret (Sg.env [(2, .c (.ptr))] o0) h')
theorem N30_l1_ok : Sound Try.prog Try.f30.ntmps N30_l1_t (codeAt B30 [1, 0, 1, 0, 0, 1, 1, 0, 0, 1, 1, 0]) := by
  refine loop_sound (fun e => match e with | .exit 2 => [] | .ret => [2] | _ => []) (by kernel_rfl) ?_
  intro F Q s h Φ hb
  refine den_sound hE hm _ .leaf _ _ _ (annOk_leaf) ?_
  refine cast ?_ hb
  kernel_rfl
def N30_l0_b (x0_w : Option Addr) (Φ : Int → Hp → Prop) (x6 : Int) (h : Hp) (K_e0 : Hp → Prop) (K_ret : Option Addr → Hp → Prop) : Prop :=
  bif (decide (x6 < 4)) then
    nn x0_w fun a0 =>
    xI .i64 (cell h a0) fun n0 =>
    C37 n0 x6 h fun n1 h0 =>
    N30_l1 x0_w x6 x6 n1 h0
      (fun h1 =>
        Φ (IntKind.wrap .i64 (x6 + 1)) h1)
      (fun p0 h2 =>
        K_ret p0 h2)
  else
    K_e0 h
def N30_l0_B (x0_w : Option Addr) (K_e0 : Hp → Prop) (K_ret : Option Addr → Hp → Prop) (s : Sg.T [(6, .c (.int .i64))]) (h : Hp) (Φ : Sg.T [(6, .c (.int .i64))] → Hp → Prop) : Prop :=
  N30_l0_b x0_w (fun x6 h => Φ x6 h) s h K_e0 K_ret
def N30_l0 (x0_w : Option Addr) (x6 : Int) (h : Hp) (K_e0 : Hp → Prop) (K_ret : Option Addr → Hp → Prop) : Prop :=
  loopP (N30_l0_B x0_w K_e0 K_ret) x6 h
noncomputable def N30_l0_t : Xf := loopT [(0, .c (.ptr))] [(6, .c (.int .i64))] (codeAt B30 [1, 0, 1, 0, 0]) fun F Q => N30_l0_B F (fun h' => Q (.exit 0) (Sg.env [] ()) h') (fun o0 h' => Q .ret (Sg.env [(2, .c (.ptr))] o0) h')
theorem N30_l0_ok : Sound Try.prog Try.f30.ntmps N30_l0_t (codeAt B30 [1, 0, 1, 0]) := by
  refine loop_sound (fun e => match e with | .exit 0 => [] | .ret => [2] | _ => []) (by kernel_rfl) ?_
  intro F Q s h Φ hb
  refine den_sound hE hm _ (.two .leaf (.two .leaf (.two (.one (.two .leaf (.two .leaf (.one (.xf N30_l1_t))))) .leaf))) _ _ _ (⟨annOk_leaf, ⟨annOk_leaf, ⟨⟨annOk_leaf, ⟨annOk_leaf, N30_l1_ok⟩⟩, annOk_leaf⟩⟩⟩) ?_
  refine cast ?_ hb
  kernel_rfl
def N30 (x0 : Option Addr) (h : Hp) (K : Option Addr → Hp → Prop) : Prop :=
  N30_l0 x0 0 h
    (fun h0 =>
      nn x0 fun a0 =>
      xL (cell h0 (a0.add 258)) fun s0 =>
      bif (decide (((s0.n : Nat) : Int) > 0)) then
        nn x0 fun a1 =>
        xL (cell h0 (a1.add 258)) fun s1 =>
        idx 0 s1.n <|
        nn s1.p fun a2 =>
        xP (cell h0 (a2.add ((0 : Int).toNat * 1))) fun p0 =>
        K p0 h0
      else
        K none h0)
    (fun p1 h1 =>
      K p1 h1)
theorem S30 {x0 : Option Addr} {h : Hp} {K : Option Addr → Hp → Prop} (hn : N30 x0 h K) : C30 x0 h K := by
  refine calls_of_D Try.func30 (c := B30) rfl (by kernel_rfl) ?_
  refine den_sound hE hm _ (.two .leaf (.two (.two .leaf (.one (.xf N30_l0_t))) .leaf)) _ _ _ (⟨annOk_leaf, ⟨⟨annOk_leaf, N30_l0_ok⟩, annOk_leaf⟩⟩) ?_
  refine cast ?_ hn
  kernel_rfl
end Go.Proofs.Ytfnlldbaplakoaa

/-
  The wheel: how the rows lie in time; the first timer.
-/
set_option linter.unusedSimpArgs false
set_option linter.unusedVariables false
namespace Go.Proofs.Ytfnlldbaplakoaa
open Go Go.Hw

theorem dg0 (t : Int) : dg t 0 = t % 64 := by unfold dg; simp
theorem dg1 (t : Int) : dg t 1 = t / 64 % 64 := by unfold dg; simp
theorem dg2 (t : Int) : dg t 2 = t / 4096 % 64 := by unfold dg; rfl
theorem dg3 (t : Int) : dg t 3 = t / 262144 % 64 := by unfold dg; rfl

theorem slot_cases {now t : Int} (h0 : 0 ≤ now) (h1 : now ≤ t) :
    (t / 64 = now / 64 ∧ lev now t = 0 ∧ (slotOf now t : Int) = t % 64) ∨
    (now / 64 < t / 64 ∧ t / 4096 = now / 4096 ∧ lev now t = 1 ∧ (slotOf now t : Int) = 64 + t / 64 % 64) ∨
    (now / 4096 < t / 4096 ∧ t / 262144 = now / 262144 ∧ lev now t = 2 ∧ (slotOf now t : Int) = 128 + t / 4096 % 64) ∨
    (now / 262144 < t / 262144 ∧ t / 16777216 = now / 16777216 ∧ lev now t = 3 ∧ (slotOf now t : Int) = 192 + t / 262144 % 64) ∨
    (now / 16777216 < t / 16777216 ∧ lev now t = -1 ∧ slotOf now t = 256) := by
  by_cases e4 : t / 16777216 = now / 16777216
  · by_cases e3 : t / 262144 = now / 262144
    · by_cases e2 : t / 4096 = now / 4096
      · by_cases e1 : t / 64 = now / 64
        · have hl : lev now t = 0 := by
            unfold lev; rw [if_neg (by omega), dg3, dg3, if_neg (by omega), dg2, dg2, if_neg (by omega), dg1, dg1, if_neg (by omega)]
          have hs : (slotOf now t : Int) = t % 64 := by
            unfold slotOf; rw [hl, if_neg (by omega), dg0]; omega
          exact .inl ⟨e1, hl, hs⟩
        · have hl : lev now t = 1 := by
            unfold lev; rw [if_neg (by omega), dg3, dg3, if_neg (by omega), dg2, dg2, if_neg (by omega), dg1, dg1, if_pos (by omega)]
          have hs : (slotOf now t : Int) = 64 + t / 64 % 64 := by
            unfold slotOf; rw [hl, if_neg (by omega), dg1]; omega
          exact .inr (.inl ⟨by omega, e2, hl, hs⟩)
      · have hl : lev now t = 2 := by
          unfold lev; rw [if_neg (by omega), dg3, dg3, if_neg (by omega), dg2, dg2, if_pos (by omega)]
        have hs : (slotOf now t : Int) = 128 + t / 4096 % 64 := by
          unfold slotOf; rw [hl, if_neg (by omega), dg2]; omega
        exact .inr (.inr (.inl ⟨by omega, e3, hl, hs⟩))
    · have hl : lev now t = 3 := by
        unfold lev; rw [if_neg (by omega), dg3, dg3, if_pos (by omega)]
      have hs : (slotOf now t : Int) = 192 + t / 262144 % 64 := by
        unfold slotOf; rw [hl, if_neg (by omega), dg3]; omega
      exact .inr (.inr (.inr (.inl ⟨by omega, e4, hl, hs⟩)))
  · have hl : lev now t = -1 := by unfold lev; rw [if_pos e4]
    exact .inr (.inr (.inr (.inr ⟨by omega, hl, slotOf_far.2 hl⟩)))
/-- a row before another one: its times are before the other one's -/
theorem slot_mono {now t u : Int} (h0 : 0 ≤ now) (h1 : now ≤ t) (h2 : now ≤ u) (h : slotOf now t < slotOf now u) : t < u := by
  rcases slot_cases h0 h1 with a | a | a | a | a <;> rcases slot_cases h0 h2 with b | b | b | b | b <;> omega
/-- on its level, a time's digit is not before now's -/
theorem slot_digit {now t : Int} (h0 : 0 ≤ now) (h1 : now ≤ t) {k : Nat} (hk : slotOf now t / 64 = k) (hk3 : k < 4) : k * 64 + (dg now k).toNat ≤ slotOf now t := by
  have hd := dg_bd now k
  have hk' : k = 0 ∨ k = 1 ∨ k = 2 ∨ k = 3 := by omega
  rcases slot_cases h0 h1 with a | a | a | a | a <;> rcases hk' with e | e | e | e <;> subst e
  all_goals first
    | omega
    | (have := dg0 now; simp only [Int.Nat.cast_ofNat_Int] at *; omega)
    | (have := dg1 now; have e1 : ((1 : Nat) : Int) = 1 := rfl; rw [e1] at *; omega)
    | (have := dg0 now; have e1 : ((0 : Nat) : Int) = 0 := rfl; rw [e1] at *; omega)
    | (have := dg2 now; have e1 : ((2 : Nat) : Int) = 2 := rfl; rw [e1] at *; omega)
    | (have := dg3 now; have e1 : ((3 : Nat) : Int) = 3 := rfl; rw [e1] at *; omega)

/-! ### the first of a row -/
theorem hv40 {x y : Option Addr} {h : Hp} {F : Value → Hp → Prop} (hc : C40 x y h fun b h' => F (.int .i64 b) h') :
    HCallV Try.prog E (.func (.func 40) ⟨[]⟩ ⟨[]⟩) [.pointer x, .pointer y] h F := by
  refine HCalls.mono (K := fun v h' => VT.on (.c (.int .i64)) (some v) fun r => F (.int .i64 r) h') hc ?_
  intro v h' hv
  obtain ⟨b, e, hF⟩ := VT.on_some hv
  cases e; exact hF

theorem c39 {tm : Nat → Tm} {s : Sl} {L : List Nat} {h : Hp} {K : Option Addr → Hp → Prop} (ho : Own h 62 1 s (L.map ptr)) (hne : L ≠ []) (hl : L.length < 1099511627776) (ht : ∀ b ∈ L, ∃ lv pl, Blk h b 65 (tc (tm b) lv pl))
    (hK : ∀ b h', b ∈ L → (∀ x ∈ L, ltT tm x b = false) → Ext none' h h' → K (some (bk b)) h') : C39 s (.func (.func 40) ⟨[]⟩ ⟨[]⟩) h K := by
  apply S39; unfold N39 N39_j0
  have hn : s.n = L.length := by have := ho.1; simpa using this.symm
  have hpos : 0 < L.length := List.length_pos_iff.2 hne
  have : decide (((s.n : Nat) : Int) < 1) = false := by simp; omega
  rw [this, cond_false]
  refine idx_of (by omega) (by omega) ?_
  obtain ⟨r, hp, hcell0⟩ := Own.ptr ho (k := 0) hpos
  rw [hp]
  simp only [nn_some', add_bk, Int.toNat_zero, Nat.zero_mul, hcell0, xP_some]
  unfold N39_l1
  refine loopP_inv (fun (x : Option Addr × Int) hc => ∃ (m i : Nat), x = (some (bk m), (i : Int)) ∧ m ∈ L ∧ 1 ≤ i ∧ i ≤ L.length ∧ (∀ q, q < i → ltT tm (L.getD q 0) m = false) ∧ Ext none' h hc)
    (fun x _ => L.length - x.2.toNat) ?_ ⟨L.getD 0 0, 1, rfl, mem_getD hpos, Nat.le_refl _, hpos, ?_, Ext.refl⟩
  · rintro x hc ⟨m, i, rfl, hm, hi1, hi2, hmin, he⟩
    unfold N39_l1_B N39_l1_b
    by_cases hi : i < L.length
    · have : decide ((i : Int) < ((s.n : Nat) : Int)) = true := by simp; omega
      simp only [this, cond_true]
      refine idx_of (by omega) (by omega) ?_
      have ho1 := ho.ext he (fun _ _ => id)
      obtain ⟨r', hp', hcell⟩ := Own.ptr ho1 (k := i) hi
      rw [hp'] at hp
      have er : r' = r := congrArg Addr.block (Option.some.inj hp)
      subst er
      simp only [hp', nn_some', add_bk, Int.toNat_natCast, Nat.mul_one, hcell, xP_some]
      refine hv40 ?_
      obtain ⟨l1, p1, hb1⟩ := ht _ (mem_getD (L := L) hi)
      obtain ⟨l2, p2, hb2⟩ := ht _ hm
      refine c40 (p := [.int .i64 l1, .int .i64 p1]) (q := [.int .i64 l2, .int .i64 p2]) (he.blk hb1 id) (he.blk hb2 id) ?_
      intro h2 he2
      simp only [xI_some]
      change (bif ltT tm (L.getD i 0) m then _ else _)
      have wi : IntKind.wrap .i64 ((i : Int) + 1) = ((i + 1 : Nat) : Int) := by rw [wrap64 (by omega) (by omega)]; omega
      have ho2 := ho1.ext he2 (fun _ _ => id)
      obtain ⟨r2, hp2, hcell2⟩ := Own.ptr ho2 (k := i) hi
      rw [hp'] at hp2
      have er : r' = r2 := congrArg Addr.block (Option.some.inj hp2)
      subst er
      cases hq : ltT tm (L.getD i 0) m with
      | true =>
        rw [cond_true]
        refine idx_of (by omega) (by omega) ?_
        simp only [hp', nn_some', add_bk, Int.toNat_natCast, Nat.mul_one, hcell2, xP_some, wi]
        refine ⟨⟨L.getD i 0, i + 1, rfl, mem_getD hi, by omega, by omega, ?_, he.trans he2⟩, by omega⟩
        intro q hq2
        by_cases e : q = i
        · subst e
          cases hz : ltT tm (L.getD q 0) (L.getD q 0) with
          | false => rfl
          | true => have := lt_as _ _ hz; rw [hz] at this; cases this
        · have a1 := hmin q (by omega)
          exact lt_tot _ _ _ (lt_as _ _ hq) a1
      | false =>
        rw [cond_false]
        simp only [wi]
        refine ⟨⟨m, i + 1, rfl, hm, by omega, by omega, ?_, he.trans he2⟩, by omega⟩
        intro q hq2
        by_cases e : q = i
        · subst e; exact hq
        · exact hmin q (by omega)
    · have : decide ((i : Int) < ((s.n : Nat) : Int)) = false := by simp; omega
      simp only [this, cond_false]
      refine hK m hc hm ?_ he
      intro x hx
      obtain ⟨q, hq, e⟩ := mem_getD' hx
      rw [← e]; exact hmin q (by omega)
  · intro q hq
    have : q = 0 := by omega
    subst this
    cases hz : ltT tm (L.getD 0 0) (L.getD 0 0) with
    | false => rfl
    | true => have := lt_as _ _ hz; rw [hz] at this; cases this

/-- the first timer is in the first row that has one -/
structure Placed (tm : Nat → Tm) (w : WS) : Prop where
  slot : ∀ j, j < 257 → ∀ b ∈ w.ct j, slotOf w.now (tm b).tim = j
  tim : ∀ j, j < 257 → ∀ b ∈ w.ct j, w.now ≤ (tm b).tim ∧ (tm b).tim ≤ MaxT

theorem heap_min {tm : Nat → Tm} {L : List Nat} (hh : Pq.Heap (ltT tm) L) : ∀ j, j < L.length → ltT tm (L.getD j 0) (L.getD 0 0) = false := by
  intro j
  induction j using Nat.strongRecOn with
  | _ j ih =>
    intro hj
    by_cases e : j = 0
    · subst e
      cases hz : ltT tm (L.getD 0 0) (L.getD 0 0) with
      | false => rfl
      | true => have := lt_as _ _ hz; rw [hz] at this; cases this
    · have h1 := ih ((j - 1) / 2) (by omega) (by omega)
      have h2 := hh j (by omega) hj
      exact lt_tot _ _ _ h1 h2

theorem c30 {W : Nat} {tm : Nat → Tm} {w : WS} {h : Hp} {K : Option Addr → Hp → Prop} (M : Mem h W tm w) (hheap : Pq.Heap (ltT tm) (w.ct 256)) (hp : Placed tm w) (hn0 : 0 ≤ w.now) (hn1 : w.now ≤ MaxT)
    (hlen : ∀ j, j < 257 → (w.ct j).length < 1099511627776)
    (hN : ∀ h', (∀ j, j < 257 → w.ct j = []) → Ext none' h h' → K none h')
    (hK : ∀ h' j b, j < 257 → b ∈ w.ct j → (∀ k, k < 257 → ∀ x ∈ w.ct k, ltT tm x b = false) → Ext none' h h' → K (some (bk b)) h') : C30 (some (bk W)) h K := by
  apply S30; unfold N30 N30_l0
  have fin : ∀ (j : Nat) (hj : j < 257), (∀ i, i < j → w.ct i = []) → ∀ b ∈ w.ct j, (∀ x ∈ w.ct j, ltT tm x b = false) → ∀ k, k < 257 → ∀ x ∈ w.ct k, ltT tm x b = false := by
    intro j hj hemp b hb hmin k hk x hx
    rcases Nat.lt_trichotomy k j with h1 | h1 | h1
    · rw [hemp k h1] at hx; cases hx
    · subst h1; exact hmin x hx
    · have s1 := hp.slot j hj b hb
      have s2 := hp.slot k hk x hx
      have := slot_mono hn0 (hp.tim j hj b hb).1 (hp.tim k hk x hx).1 (by omega)
      rw [ltT_false]; omega
  refine loopP_inv (fun (x : Int) hc => ∃ k : Nat, x = k ∧ k ≤ 4 ∧ hc = h ∧ ∀ i, i < k * 64 → w.ct i = []) (fun x _ => 4 - x.toNat) ?_ ⟨0, rfl, by omega, rfl, by intro i hi; omega⟩
  rintro x hc ⟨k, rfl, hk4, rfl, hemp⟩
  unfold N30_l0_B N30_l0_b
  by_cases hk : k < 4
  · have : decide ((k : Int) < 4) = true := by simp; omega
    simp only [this, cond_true, nn_some', M.hW.cell, wl_0, xI_some]
    unfold MaxT at hn1
    refine c37 (by omega) (by omega) hn0 (by omega) ?_
    have hd := dg_bd w.now k
    unfold N30_l1
    refine loopP_inv (fun (x : Int) hc' => ∃ i : Nat, x = i ∧ i ≤ 64 ∧ hc' = hc ∧ ∀ q, q < k * 64 + i → w.ct q = []) (fun x _ => 64 - x.toNat) ?_ ⟨(dg w.now k).toNat, by omega, by omega, rfl, ?_⟩
    · rintro x hc' ⟨i, rfl, hi64, rfl, hemp2⟩
      unfold N30_l1_B N30_l1_b
      by_cases hi : i < 64
      · have : decide ((i : Int) < 64) = true := by simp; omega
        simp only [this, cond_true, nn_some']
        refine idx_of (by omega) (by omega) ?_
        refine idx_of (by omega) (by omega) ?_
        have hoff : 2 + k * 64 + i = 2 + (k * 64 + i) := by omega
        simp only [add_bk, add_mk, Int.toNat_natCast, Nat.mul_one, hoff, M.hW.cell, wl_row (show k * 64 + i < 257 by omega), xL_v]
        have hn := M.len (show k * 64 + i < 257 by omega)
        by_cases hz : w.ct (k * 64 + i) = []
        · have : decide ((((w.rows (k * 64 + i)).n : Nat) : Int) > 0) = false := by rw [hn, hz]; rfl
          simp only [this, cond_false]
          have wi : IntKind.wrap .i64 ((i : Int) + 1) = ((i + 1 : Nat) : Int) := by rw [wrap64 (by omega) (by omega)]; omega
          rw [wi]
          refine ⟨⟨i + 1, rfl, by omega, trivial, ?_⟩, by omega⟩
          intro q hq
          by_cases e : q = k * 64 + i
          · subst e; exact hz
          · exact hemp2 q (by omega)
        · have hpos : 0 < (w.ct (k * 64 + i)).length := List.length_pos_iff.2 hz
          have : decide ((((w.rows (k * 64 + i)).n : Nat) : Int) > 0) = true := by rw [hn]; simp; omega
          simp only [this, cond_true]
          refine c39 (tm := tm) (M.own _ (by omega)) hz (hlen _ (by omega)) (fun b hb => ?_) ?_
          · obtain ⟨pl, h'⟩ := M.tblk (by omega) hb; exact ⟨_, _, h'⟩
          · intro b h' hb hmin he
            exact hK h' _ b (by omega) hb (fin _ (by omega) hemp2 b hb hmin) he
      · have : decide ((i : Int) < 64) = false := by simp; omega
        simp only [this, cond_false]
        have wk : IntKind.wrap .i64 ((k : Int) + 1) = ((k + 1 : Nat) : Int) := by rw [wrap64 (by omega) (by omega)]; omega
        rw [wk]
        refine ⟨⟨k + 1, rfl, by omega, trivial, ?_⟩, by omega⟩
        intro q hq; exact hemp2 q (by omega)
    · intro q hq
      by_cases hq2 : q < k * 64
      · exact hemp q hq2
      · apply List.eq_nil_iff_forall_not_mem.2
        intro b hb
        have s1 := hp.slot q (by omega) b hb
        have := slot_digit hn0 (hp.tim q (by omega) b hb).1 (k := k) (by omega) hk
        omega
  · have hk' : k = 4 := by omega
    subst hk'
    have : decide (((4 : Nat) : Int) < 4) = false := rfl
    simp only [this, cond_false, nn_some', add_bk, M.hW.cell, wl_258, xL_v]
    have hn := M.len (show 256 < 257 by omega)
    by_cases hz : w.ct 256 = []
    · have : decide ((((w.rows 256).n : Nat) : Int) > 0) = false := by rw [hn, hz]; rfl
      rw [this, cond_false]
      refine hN hc ?_ Ext.refl
      intro j hj
      by_cases e : j = 256
      · subst e; exact hz
      · exact hemp j (by omega)
    · have hpos : 0 < (w.ct 256).length := List.length_pos_iff.2 hz
      have : decide ((((w.rows 256).n : Nat) : Int) > 0) = true := by rw [hn]; simp; omega
      rw [this, cond_true]
      refine idx_of (by omega) (by omega) ?_
      obtain ⟨r, hr, hcell⟩ := Own.ptr (M.own 256 (by omega)) (k := 0) hpos
      rw [hr]
      simp only [nn_some', add_bk, Int.toNat_zero, Nat.zero_mul, hcell, xP_some]
      refine hK hc 256 _ (by omega) (mem_getD hpos) (fin 256 (by omega) (fun i hi => hemp i (by omega)) _ (mem_getD hpos) ?_) Ext.refl
      intro x hx
      obtain ⟨q, hq, e⟩ := mem_getD' hx
      rw [← e]; exact heap_min hheap q hq

end Go.Proofs.Ytfnlldbaplakoaa

set_option linter.unusedVariables false
set_option maxRecDepth 100000
namespace Go.Proofs.Ytfnlldbaplakoaa
open Go Go.Hw
/-! ### 31 (*slipway/wheel.Wheel).move -/
noncomputable def B31 : Code := match Try.f31.body with | some c => c | none => .skip
def N31_l0_b (x0_w : Option Addr) (Φ : Hp → Prop)  (h : Hp) (K_e3 : Hp → Prop) : Prop :=
  nn x0_w fun a0 =>
  xL (cell h (a0.add 258)) fun s0 =>
  bif (decide (((s0.n : Nat) : Int) > 0)) then
    nn x0_w fun a1 =>
    xL (cell h (a1.add 258)) fun s1 =>
    idx 0 s1.n <|
    nn s1.p fun a2 =>
    xP (cell h (a2.add ((0 : Int).toNat * 1))) fun p0 =>
    nn p0 fun a3 =>
    xI .i64 (cell h a3) fun n0 =>
    C35 x0_w n0 h fun n1 h0 =>
    bif (n1 != (-1)) then
      nn x0_w fun a4 =>
      xL (cell h0 (a4.add 258)) fun s2 =>
      idx 0 s2.n <|
      nn s2.p fun a5 =>
      xP (cell h0 (a5.add ((0 : Int).toNat * 1))) fun p1 =>
      nn x0_w fun a6 =>
      C38 (some (a6.add 258)) p1 h0 fun h1 =>
      C28 x0_w p1 h1 fun h2 =>
      Φ h2
    else
      K_e3 h0
  else
    K_e3 h
def N31_l0_B (x0_w : Option Addr) (K_e3 : Hp → Prop) (s : Sg.T []) (h : Hp) (Φ : Sg.T [] → Hp → Prop) : Prop :=
  N31_l0_b x0_w (fun h => Φ () h)  h K_e3
def N31_l0 (x0_w : Option Addr)  (h : Hp) (K_e3 : Hp → Prop) : Prop :=
  loopP (N31_l0_B x0_w K_e3) () h
noncomputable def N31_l0_t : Xf := loopT [(0, .c (.ptr))] [] (codeAt B31 [1, 1, 1, 0, 1, 1, 1, 0, 0, 0]) fun F Q => N31_l0_B F (fun h' => Q (.exit 3) (Sg.env [] ()) h')
theorem N31_l0_ok : Sound Try.prog Try.f31.ntmps N31_l0_t (codeAt B31 [1, 1, 1, 0, 1, 1, 1, 0, 0]) := by
  refine loop_sound (fun e => match e with | .exit 3 => [] | _ => []) (by kernel_rfl) ?_
  intro F Q s h Φ hb
  refine den_sound hE hm _ .leaf _ _ _ (annOk_leaf) ?_
  refine cast ?_ hb
  kernel_rfl
def N31_l1_b (x0_w : Option Addr) (x32 : Sl) (x33 : Int) (Φ : Int → Hp → Prop) (x34 : Int) (h : Hp) (K_e1 : Hp → Prop) : Prop :=
  bif (decide (x34 < x33)) then
    idx x34 x32.n <|
    nn x32.p fun a0 =>
    xP (cell h (a0.add (x34.toNat * 1))) fun p0 =>
    C28 x0_w p0 h fun h0 =>
    Φ (IntKind.wrap .i64 (x34 + 1)) h0
  else
    K_e1 h
def N31_l1_B (x0_w : Option Addr) (x32 : Sl) (x33 : Int) (K_e1 : Hp → Prop) (s : Sg.T [(34, .c (.int .i64))]) (h : Hp) (Φ : Sg.T [(34, .c (.int .i64))] → Hp → Prop) : Prop :=
  N31_l1_b x0_w x32 x33 (fun x34 h => Φ x34 h) s h K_e1
def N31_l1 (x0_w : Option Addr) (x32 : Sl) (x33 : Int) (x34 : Int) (h : Hp) (K_e1 : Hp → Prop) : Prop :=
  loopP (N31_l1_B x0_w x32 x33 K_e1) x34 h
noncomputable def N31_l1_t : Xf := loopT [(0, .c (.ptr)), (32, .c (.slice)), (33, .c (.int .i64))] [(34, .c (.int .i64))] (codeAt B31 [1, 1, 1, 0, 1, 1, 1, 1, 1, 1, 1, 1, 0, 0]) fun F Q => N31_l1_B F.1 F.2.1 F.2.2 (fun h' => Q (.exit 1) (Sg.env [] ()) h')
theorem N31_l1_ok : Sound Try.prog Try.f31.ntmps N31_l1_t (codeAt B31 [1, 1, 1, 0, 1, 1, 1, 1, 1, 1, 1, 1, 0]) := by
  refine loop_sound (fun e => match e with | .exit 1 => [] | _ => []) (by kernel_rfl) ?_
  intro F Q s h Φ hb
  refine den_sound hE hm _ .leaf _ _ _ (annOk_leaf) ?_
  refine cast ?_ hb
  kernel_rfl
def N31 (x0 : Option Addr) (x1 : Int) (h : Hp) (K : Hp → Prop) : Prop :=
  C35 x0 x1 h fun n0 h0 =>
  nn x0 fun a0 =>
  st h0 a0 (.int .i64 x1) fun h1 =>
  bif (n0 == 0) then
    K h1
  else
    bif (n0 == (-1)) then
      N31_l0 x0 h1
        (fun h2 =>
          K h2)
    else
      nn x0 fun a1 =>
      idx n0 4 <|
      C37 x1 n0 h1 fun n1 h3 =>
      idx n1 64 <|
      xL (cell h3 (((a1.add 2).add (n0.toNat * 64)).add (n1.toNat * 1))) fun s0 =>
      st h3 (((a1.add 2).add (n0.toNat * 64)).add (n1.toNat * 1)) (.slice none 0 0) fun h4 =>
      N31_l1 x0 s0 ((s0.n : Nat) : Int) 0 h4
        (fun h5 =>
          K h5)
theorem S31 {x0 : Option Addr} {x1 : Int} {h : Hp} {K : Hp → Prop} (hn : N31 x0 x1 h K) : C31 x0 x1 h K := by
  refine calls_of_D Try.func31 (c := B31) rfl (by kernel_rfl) ?_
  refine den_sound hE hm _ (.two .leaf (.two .leaf (.two .leaf (.one (.two .leaf (.two .leaf (.two .leaf (.two (.one (.xf N31_l0_t)) (.two (.ord [0, 1, 2, 3, 5, 6, 7, 4, 8, 9]) (.two .leaf (.two .leaf (.two .leaf (.one (.xf N31_l1_t)))))))))))))) _ _ _ (⟨annOk_leaf, ⟨annOk_leaf, ⟨annOk_leaf, ⟨annOk_leaf, ⟨annOk_leaf, ⟨annOk_leaf, ⟨N31_l0_ok, ⟨trivial, ⟨annOk_leaf, ⟨annOk_leaf, ⟨annOk_leaf, N31_l1_ok⟩⟩⟩⟩⟩⟩⟩⟩⟩⟩⟩) ?_
  refine cast ?_ hn
  kernel_rfl
end Go.Proofs.Ytfnlldbaplakoaa

/-
  The wheel: time goes on.
-/
set_option linter.unusedSimpArgs false
set_option linter.unusedVariables false
namespace Go.Proofs.Ytfnlldbaplakoaa
open Go Go.Hw

theorem slot_keep {now to t : Int} (h0 : 0 ≤ now) (h1 : now ≤ to) (h2 : to ≤ t) (h : slotOf now t ≠ slotOf now to) : slotOf to t = slotOf now t := by
  rcases slot_cases h0 h1 with a | a | a | a | a <;> rcases slot_cases h0 (show now ≤ t by omega) with b | b | b | b | b <;> rcases slot_cases (show 0 ≤ to by omega) h2 with c | c | c | c | c <;> omega
theorem slot_zero {now to t : Int} (h0 : 0 ≤ now) (h1 : now ≤ to) (h2 : to ≤ t) (h : lev now to = 0) : slotOf to t = slotOf now t := by
  rcases slot_cases h0 h1 with a | a | a | a | a <;> rcases slot_cases h0 (show now ≤ t by omega) with b | b | b | b | b <;> rcases slot_cases (show 0 ≤ to by omega) h2 with c | c | c | c | c <;> omega
theorem slot_all {now to t : Int} (h0 : 0 ≤ now) (h1 : now ≤ to) (h2 : to ≤ t) (h : lev now to = -1) : slotOf now t = 256 := by
  rcases slot_cases h0 h1 with a | a | a | a | a <;> rcases slot_cases h0 (show now ≤ t by omega) with b | b | b | b | b <;> omega
theorem slot_far_le {now t u : Int} (h0 : 0 ≤ now) (h1 : now ≤ t) (h2 : t ≤ u) (h : lev now t = -1) : slotOf now u = 256 := by
  rcases slot_cases h0 h1 with a | a | a | a | a <;> rcases slot_cases h0 (show now ≤ u by omega) with b | b | b | b | b <;> omega

theorem nodup_le : ∀ {L M : List Nat}, L.Nodup → (∀ x ∈ L, x ∈ M) → L.length ≤ M.length := by
  intro L
  induction L with
  | nil => intro M _ _; simp
  | cons a L ih =>
    intro M hn hs
    rw [List.nodup_cons] at hn
    have ha := hs a (by simp)
    have := ih (M := M.erase a) hn.2 (by
      intro x hx
      have : x ≠ a := by rintro rfl; exact hn.1 hx
      exact (List.mem_erase_of_ne this).2 (hs x (by simp [hx])))
    rw [List.length_erase_of_mem ha] at this
    have : 0 < M.length := List.length_pos_of_mem ha
    simp; omega

theorem Mem.setW {h : Hp} {W : Nat} {tm : Nat → Tm} {w w' : WS} (M : Mem h W tm w) (hr : w'.rows = w.rows) (hc : w'.ct = w.ct) (hm : w'.mb = w.mb) (he : w'.es = w.es) (hk : w'.clk = w.clk) :
    Mem (upd h W (.cells ⟨wl W w'⟩ 58 (0, 0))) W tm w' := by
  have x : Ext (fun x => x = W) h (upd h W (.cells ⟨wl W w'⟩ 58 (0, 0))) := Ext.upd rfl
  refine ⟨Blk.upd_same, ?_, ?_, ?_, ?_, ?_⟩
  · rw [hm, he, hk]; exact x _ _ M.hm (fun e => map_ne M.hW M.hm e.symm)
  · rw [hr, hc]; intro j hj; exact (M.own j hj).ext x (fun b hb e => M.notRow hj M.hW (by decide) (e ▸ hb))
  · rw [hr]; exact M.rinj
  · rw [hc]; intro j hj p hp; exact x.blk (M.tms j hj p hp) ((M.tms j hj p hp).ne M.hW (by decide))
  · rw [hc]; exact M.nd

/-- a timer is taken out of the heap -/
theorem c38m {W b p : Nat} {tm : Nat → Tm} {w : WS} {h : Hp} {K : Hp → Prop} (M : Mem h W tm w) (hheap : Pq.Heap (ltT tm) (w.ct 256)) (hp : p < (w.ct 256).length) (hpb : (w.ct 256).getD p 0 = b) (hlen : (w.ct 256).length < 1099511627776)
    (hK : ∀ h' s' L', Mem h' W tm { w with rows := fup w.rows 256 s', ct := fup w.ct 256 L' } → L'.Perm ((w.ct 256).erase b) → Pq.Heap (ltT tm) L' →
      Ext (fun x => x = W ∨ (w.rows 256).p = some (bk x) ∨ x ∈ w.ct 256 ∧ x ≠ b) h h' → s'.p = (w.rows 256).p → K h') : C38 (some ⟨W, 258, none⟩) (some (bk b)) h K := by
  refine c38 M.hea hheap hp hpb hlen wl_len ?_
  intro h' s' L' H' hperm hheap' he hsp
  rw [wl_setrow (j := 256) (by omega)] at H'
  have memL : ∀ x, x ∈ w.ct 256 → (∀ j, j < 256 → x ∉ w.ct j) ∧ ∃ l, Blk h x 65 l := by
    intro x hx
    refine ⟨fun k hk hx2 => ?_, ?_⟩
    · have := M.one (by omega) (by omega) hx hx2; omega
    · obtain ⟨pl, h'⟩ := M.tblk (j := 256) (by omega) hx; exact ⟨_, h'⟩
  refine hK h' s' L' (M.ofHea H' he ?_ (by intro x hx; left; rw [← hsp]; exact hx) (fun x hx => (memL x (List.mem_of_mem_erase (hperm.mem_iff.1 hx))).1)) hperm hheap' he hsp
  rintro x (e | e | ⟨e, _⟩)
  · exact .inl e
  · exact .inr (.inl e)
  · exact .inr (.inr (memL x e))

/-- what going on leaves -/
structure Moved (W : Nat) (tm : Nat → Tm) (to : Int) (w w' : WS) : Prop where
  now : w'.now = to
  last : w'.last = w.last
  mb : w'.mb = w.mb
  es : w'.es = w.es
  clk : w'.clk = w.clk
  all : ∀ b, (∃ j, j < 257 ∧ b ∈ w'.ct j) ↔ ∃ j, j < 257 ∧ b ∈ w.ct j

theorem c31 {W : Nat} {to : Int} {tm : Nat → Tm} {w : WS} {bl : List Nat} {h : Hp} {K : Hp → Prop} (M : Mem h W tm w) (hheap : Pq.Heap (ltT tm) (w.ct 256)) (hp : Placed tm w) (hn0 : 0 ≤ w.now) (hto : w.now ≤ to) (hto1 : to ≤ MaxT)
    (hall : ∀ j, j < 257 → ∀ b ∈ w.ct j, to ≤ (tm b).tim) (hbl : ∀ j, j < 257 → ∀ b ∈ w.ct j, b ∈ bl) (hlen : bl.length < 1099511627776)
    (hK : ∀ h' w', Mem h' W tm w' → Moved W tm to w w' → Placed tm w' → Pq.Heap (ltT tm) (w'.ct 256) → Ext (FP W w) h h' → (∀ x, FP W w' x → FP W w x ∨ h x = none) → K h') : C31 (some (bk W)) to h K := by
  apply S31; unfold N31
  have hto2 := hto1
  unfold MaxT at hto2
  refine c35 M.hW wl_0 hn0 (by omega) (by omega) hto2 ?_
  simp only [nn_some']
  refine M.hW.st (by rw [wl_len]; omega) rfl ?_
  rw [wl_setnow]
  have M1 := M.setW (w' := { w with now := to }) rfl rfl rfl rfl rfl
  have x1 : Ext (fun x => x = W) h (upd h W (.cells ⟨wl W { w with now := to }⟩ 58 (0, 0))) := Ext.upd rfl
  revert M1 x1
  generalize upd h W _ = h1
  intro M1 x1
  have fpW : ∀ x o, h x = some o → x = W → FP W w x := fun x o _ e => .inl e
  have fpW' : ∀ x o, h x = some o → x = W → FP W w x := fun x o _ e => .inl e
  have nn1 : ∀ x, h1 x = none → h x = none := by
    intro x hx
    cases hq : h x with
    | none => rfl
    | some o =>
      by_cases e : x = W
      · subst e; have := M1.hW; unfold Blk at this; rw [hx] at this; cases this
      · have := x1 x o hq e; rw [hx] at this; cases this
  have tim' : ∀ j, j < 257 → ∀ b ∈ w.ct j, to ≤ (tm b).tim ∧ (tm b).tim ≤ MaxT := fun j hj b hb => ⟨hall j hj b hb, (hp.tim j hj b hb).2⟩
  have lenb : ∀ (hc : Hp) (wc : WS), Mem hc W tm wc → (∀ j, j < 257 → ∀ b ∈ wc.ct j, b ∈ bl) → ∀ j, j < 257 → (wc.ct j).length < 1099511627776 :=
    fun hc wc Mc hs j hj => Nat.lt_of_le_of_lt (nodup_le (Mc.nodup hj) (hs j hj)) hlen
  by_cases hl0 : lev w.now to = 0
  · rw [hl0]
    simp only [beq_self_eq_true, cond_true]
    refine hK h1 _ M1 ⟨rfl, rfl, rfl, rfl, rfl, fun b => Iff.rfl⟩ ⟨?_, tim'⟩ hheap (x1.mono fpW) (fun x hx => .inl hx)
    intro j hj b hb
    show slotOf to (tm b).tim = j
    rw [slot_zero hn0 hto (hall j hj b hb) hl0]; exact hp.slot j hj b hb
  · have : (lev w.now to == 0) = false := by simpa using hl0
    rw [this, cond_false]
    by_cases hlf : lev w.now to = -1
    · have : (lev w.now to == -1) = true := by simpa using hlf
      rw [this, cond_true]
      have far : ∀ j, j < 257 → ∀ b ∈ w.ct j, j = 256 := by
        intro j hj b hb
        rw [← hp.slot j hj b hb]; exact slot_all hn0 hto (hall j hj b hb) hlf
      unfold N31_l0
      refine loopP_inv (fun (_ : Unit) hc => ∃ wc : WS, Mem hc W tm wc ∧ Pq.Heap (ltT tm) (wc.ct 256) ∧ Moved W tm to w wc ∧ (∀ j, j < 256 → ∀ b ∈ wc.ct j, slotOf to (tm b).tim = j) ∧ Ext (FP W w) h hc ∧ (∀ x, FP W wc x → FP W w x ∨ h x = none))
        (fun _ hc => match cell hc ⟨W, 258, none⟩ with | some (.slice _ n _) => n | _ => 0) ?_ ⟨_, M1, hheap, ⟨rfl, rfl, rfl, rfl, rfl, fun b => Iff.rfl⟩, ?_, x1.mono fpW, fun x hx => .inl hx⟩
      · rintro ⟨⟩ hc ⟨wc, Mc, hhc, mv, hsl, hex, hfp⟩
        have memw : ∀ j, j < 257 → ∀ b ∈ wc.ct j, ∃ k, k < 257 ∧ b ∈ w.ct k := fun j hj b hb => (mv.all b).1 ⟨j, hj, hb⟩
        have timc : ∀ j, j < 257 → ∀ b ∈ wc.ct j, to ≤ (tm b).tim ∧ (tm b).tim ≤ MaxT := by
          intro j hj b hb; obtain ⟨k, hk, hb'⟩ := memw j hj b hb; exact tim' k hk b hb'
        have lc := lenb hc wc Mc (fun j hj b hb => by obtain ⟨k, hk, hb'⟩ := memw j hj b hb; exact hbl k hk b hb')
        have hn := Mc.len (show 256 < 257 by omega)
        have c258 : cell hc ⟨W, 258, none⟩ = some (.slice (wc.rows 256).p (wc.rows 256).n (wc.rows 256).c) := by rw [Mc.hW.cell, wl_258]; rfl
        unfold N31_l0_B N31_l0_b
        simp only [nn_some', add_bk, c258, xL_some]
        have fin : (∀ b ∈ wc.ct 256, slotOf to (tm b).tim = 256) → Placed tm wc := by
          intro hq
          refine ⟨?_, ?_⟩
          · intro j hj b hb
            rw [mv.now]
            by_cases e : j = 256
            · subst e; exact hq b hb
            · exact hsl j (by omega) b hb
          · intro j hj b hb; rw [mv.now]; exact timc j hj b hb
        by_cases hz : wc.ct 256 = []
        · have : decide ((((wc.rows 256).n : Nat) : Int) > 0) = false := by rw [hn, hz]; rfl
          rw [this, cond_false]
          exact hK hc wc Mc mv (fin (by rw [hz]; intro b hb; cases hb)) hhc hex hfp
        · have hpos : 0 < (wc.ct 256).length := List.length_pos_iff.2 hz
          have : decide ((((wc.rows 256).n : Nat) : Int) > 0) = true := by rw [hn]; simp; omega
          rw [this, cond_true]
          refine idx_of (by omega) (by omega) ?_
          obtain ⟨r, hr, hcell⟩ := Own.ptr (Mc.own 256 (by omega)) (k := 0) hpos
          generalize hb0 : (wc.ct 256).getD 0 0 = b at hcell
          have hbm : b ∈ wc.ct 256 := hb0 ▸ mem_getD hpos
          obtain ⟨pl, hb⟩ := Mc.tblk (by omega) hbm
          have tb := timc 256 (by omega) b hbm
          rw [hr]
          have cb : cell hc (bk b) = some (.int .i64 (tm b).tim) := by rw [hb.cell]; rfl
          simp only [nn_some', add_bk, Int.toNat_zero, Nat.zero_mul, hcell, xP_some, cb, xI_some]
          have tb2 := tb.2
          unfold MaxT at tb2
          have z0 : 0 ≤ wc.now := by rw [mv.now]; omega
          have z1 : wc.now ≤ 1125899906842624 := by rw [mv.now]; omega
          have z2 : 0 ≤ (tm b).tim := by have := tb.1; omega
          refine c35 Mc.hW wl_0 z0 z1 z2 tb2 ?_
          rw [mv.now]
          by_cases hq : lev to (tm b).tim = -1
          · have : (lev to (tm b).tim != -1) = false := by simpa using hq
            rw [this, cond_false]
            refine hK hc wc Mc mv (fin ?_) hhc hex hfp
            intro x hx
            obtain ⟨q, hq', e⟩ := mem_getD' hx
            have hm := heap_min hhc q hq'
            rw [hb0, e, ltT_false] at hm
            have := timc 256 (by omega) x hx
            exact slot_far_le (by omega) tb.1 (by omega) hq
          · have : (lev to (tm b).tim != -1) = true := by simpa using hq
            rw [this, cond_true]
            simp only [c258, xL_some]
            refine idx_of (by omega) (by omega) ?_
            simp only [hr, nn_some', add_bk, Int.toNat_zero, Nat.zero_mul, hcell, xP_some]
            refine c38m Mc hhc hpos hb0 (lc 256 (by omega)) ?_
            intro h2 s2 L2 M2 perm2 heap2 x2 hs2
            have hlv : slotOf to (tm b).tim ≠ 256 := fun e => hq (slotOf_far.1 e)
            have hb2 : Blk h2 b 65 (tc (tm b) (lvl 256) pl) := by
              refine x2.blk hb ?_
              rintro (e | e | ⟨_, e⟩)
              · exact hb.ne Mc.hW (by decide) e
              · exact Mc.notRow (by omega) hb (by decide) e
              · exact e rfl
            have nb2 : ∀ j, j < 257 → b ∉ fup wc.ct 256 L2 j := by
              intro j hj hx
              simp only [fup] at hx
              by_cases e : j = 256
              · rw [if_pos e] at hx
                exact (List.Nodup.not_mem_erase (Mc.nodup (by omega))) (perm2.mem_iff.1 hx)
              · rw [if_neg e] at hx
                exact e (Mc.one hj (by omega) hx hbm)
            have memL2 : ∀ x, x ∈ L2 ↔ x ∈ wc.ct 256 ∧ x ≠ b := by
              intro x
              rw [perm2.mem_iff, List.Nodup.mem_erase_iff (Mc.nodup (by omega))]; exact And.comm
            have lenL2 : L2.length + 1 = (wc.ct 256).length := by
              have := perm2.length_eq
              rw [List.length_erase_of_mem hbm] at this; omega
            have sub2 : ∀ j, j < 257 → ∀ x ∈ fup wc.ct 256 L2 j, x ∈ wc.ct j := by
              intro j hj x hx
              simp only [fup] at hx
              by_cases e : j = 256
              · rw [if_pos e] at hx; subst e; exact ((memL2 x).1 hx).1
              · rw [if_neg e] at hx; exact hx
            have lc2 : ∀ j, j < 257 → (fup wc.ct 256 L2 j).length < 1099511627776 := by
              intro j hj
              simp only [fup]
              by_cases e : j = 256
              · rw [if_pos e]; have := lc 256 (by omega); omega
              · rw [if_neg e]; exact lc j hj
            have fp2 : ∀ x, FP W { wc with rows := fup wc.rows 256 s2, ct := fup wc.ct 256 L2 } x → FP W wc x := by
              rintro x (e | e | ⟨j, hj, e⟩ | ⟨j, hj, e⟩)
              · exact .inl e
              · exact .inr (.inl e)
              · simp only [fup] at e
                by_cases e' : j = 256
                · rw [if_pos e'] at e; exact .inr (.inr (.inl ⟨256, by omega, hs2 ▸ e⟩))
                · rw [if_neg e'] at e; exact .inr (.inr (.inl ⟨j, hj, e⟩))
              · exact .inr (.inr (.inr ⟨j, hj, sub2 j hj x e⟩))
            refine c28 M2 (by simpa [fup] using heap2) hb2 nb2 z0 (by show wc.now ≤ _; rw [mv.now]; exact hto1) z2 tb.2 lc2 ?_
            intro h3 w3 M3 bs ot pm3 heap3 x3 fp3
            have now3 : w3.now = to := bs.now.trans mv.now
            have hslot : slotOf ({ wc with rows := fup wc.rows 256 s2, ct := fup wc.ct 256 L2 } : WS).now (tm b).tim = slotOf to (tm b).tim := by show slotOf wc.now _ = _; rw [mv.now]
            rw [hslot] at ot pm3
            have hlt := slotOf_lt to (tm b).tim
            have ct256 : w3.ct 256 = L2 := by rw [ot 256 (fun e => hlv e.symm)]; simp [fup]
            have mem3 : ∀ j, j < 257 → ∀ x, x ∈ w3.ct j ↔ x ∈ fup wc.ct 256 L2 j ∨ x = b ∧ j = slotOf to (tm b).tim := by
              intro j hj x
              by_cases e : j = slotOf to (tm b).tim
              · subst e
                rw [pm3.mem_iff]; simp
              · rw [ot j e]; simp [e]
            have FPb : FP W wc b := .inr (.inr (.inr ⟨256, by omega, hbm⟩))
            have toW : ∀ x o, hc x = some o → FP W wc x → ∀ o', h x = some o' → FP W w x := by
              intro x o _ hx o' ho'
              rcases hfp x hx with e | e
              · exact e
              · rw [ho'] at e; cases e
            have ex2 : Ext (FP W wc) hc h3 := by
              refine (x2.mono ?_).then x3 ?_
              · rintro x o _ (e | e | ⟨e, _⟩)
                · exact .inl e
                · exact .inr (.inr (.inl ⟨256, by omega, e⟩))
                · exact .inr (.inr (.inr ⟨256, by omega, e⟩))
              · rintro x o _ (e | e)
                · exact fp2 x e
                · rw [e]; exact FPb
            have hex3 : Ext (FP W w) h h3 := by
              intro x o ho hn
              have h' := hex x o ho hn
              refine ex2 x o h' (fun hx => hn (toW x o h' hx o ho))
            have nn2 : ∀ x, h2 x = none → h x = none ∨ FP W w x := by
              intro x hx
              by_cases hfx : FP W w x
              · exact .inr hfx
              · left
                cases hq : h x with
                | none => rfl
                | some o =>
                  have hx1 := hex x o hq hfx
                  have : h2 x = some o := by
                    refine x2 x o hx1 ?_
                    intro hs
                    have hfpx : FP W wc x := by
                      rcases hs with e | e | ⟨e, _⟩
                      · exact .inl e
                      · exact .inr (.inr (.inl ⟨256, by omega, e⟩))
                      · exact .inr (.inr (.inr ⟨256, by omega, e⟩))
                    exact hfx (toW x o hx1 hfpx o hq)
                  rw [hx] at this; cases this
            refine ⟨⟨w3, M3, heap3, ⟨now3, bs.last.trans mv.last, bs.mb.trans mv.mb, bs.es.trans mv.es, bs.clk.trans mv.clk, ?_⟩, ?_, hex3, ?_⟩, ?_⟩
            · intro x
              rw [← mv.all x]
              constructor
              · rintro ⟨j, hj, hx⟩
                rcases (mem3 j hj x).1 hx with e | ⟨e, _⟩
                · exact ⟨j, hj, sub2 j hj x e⟩
                · exact ⟨256, by omega, e ▸ hbm⟩
              · rintro ⟨j, hj, hx⟩
                by_cases e : x = b
                · exact ⟨_, hlt, (mem3 _ hlt x).2 (.inr ⟨e, rfl⟩)⟩
                · refine ⟨j, hj, (mem3 j hj x).2 (.inl ?_)⟩
                  simp only [fup]
                  by_cases e' : j = 256
                  · rw [if_pos e']; subst e'; exact (memL2 x).2 ⟨hx, e⟩
                  · rw [if_neg e']; exact hx
            · intro j hj x hx
              rcases (mem3 j (by omega) x).1 hx with e | ⟨e1, e2⟩
              · simp only [fup] at e
                rw [if_neg (by omega)] at e
                exact hsl j hj x e
              · subst e1; exact e2.symm
            · intro x hx
              rcases fp3 x hx with e | e | e
              · exact hfp x (fp2 x e)
              · subst e; exact hfp x FPb
              · exact (nn2 x e).symm
            · have n3 := M3.len (show 256 < 257 by omega)
              have c3 : cell h3 ⟨W, 258, none⟩ = some (.slice (w3.rows 256).p (w3.rows 256).n (w3.rows 256).c) := by rw [M3.hW.cell, wl_258]; rfl
              simp only [c3, c258]
              rw [n3, ct256, hn]; omega
      · intro j hj b hb
        have := far j (by omega) b hb
        omega
    · have : (lev w.now to == -1) = false := by simpa using hlf
      rw [this, cond_false]
      have hlb := lev_bd w.now to
      have hd := dg_bd to (lev w.now to)
      obtain ⟨j, hjdef⟩ : ∃ j, slotOf w.now to = j := ⟨_, rfl⟩
      have hjeq : j = (lev w.now to).toNat * 64 + (dg to (lev w.now to)).toNat := by rw [← hjdef]; unfold slotOf; rw [if_neg hlf]
      refine idx_of (by omega) (by omega) ?_
      refine c37 (by omega) (by omega) (by omega) (by omega) ?_
      refine idx_of (by omega) (by omega) ?_
      have hj : j < 256 := by omega
      have hoff : 2 + (lev w.now to).toNat * 64 + (dg to (lev w.now to)).toNat = 2 + j := by omega
      have hrow0 : (wl W { w with now := to })[2 + j]? = some (w.rows j).v := wl_row (by omega)
      simp only [add_bk, add_mk, Nat.mul_one, hoff, M1.hW.cell, hrow0, xL_v]
      refine M1.hW.st (by rw [wl_len]; omega) rfl ?_
      have hset : (wl W { w with now := to }).set (2 + j) (.slice none 0 0) = wl W { w with now := to, rows := fup w.rows j ⟨none, 0, 0⟩, ct := fup w.ct j [] } := wl_setrow (s := ⟨none, 0, 0⟩) (by omega)
      rw [hset]
      have x2 : Ext (fun x => x = W) h1 (upd h1 W (.cells ⟨wl W { w with now := to, rows := fup w.rows j ⟨none, 0, 0⟩, ct := fup w.ct j [] }⟩ 58 (0, 0))) := Ext.upd rfl
      have M2 : Mem (upd h1 W (.cells ⟨wl W { w with now := to, rows := fup w.rows j ⟨none, 0, 0⟩, ct := fup w.ct j [] }⟩ 58 (0, 0))) W tm { w with now := to, rows := fup w.rows j ⟨none, 0, 0⟩, ct := fup w.ct j [] } := by
        refine M1.row (j := j) (by omega) (s' := ⟨none, 0, 0⟩) (L' := []) rfl rfl Blk.upd_same ?_ Own.nil ?_ List.nodup_nil ?_ x2 ?_ ?_ ?_
        · exact x2 _ _ M1.hm (fun e => map_ne M1.hW M1.hm e.symm)
        · intro p hp'; cases hp'
        · intro x hx; cases hx
        · intro k hk _ x hx; obtain ⟨pl, hbx⟩ := M1.tblk hk hx; exact hbx.ne M1.hW (by decide)
        · intro k hk _ x hx; obtain ⟨l, hbx⟩ := M1.rblk hk hx; exact hbx.ne M1.hW (by decide)
        · intro x hx; cases hx
      revert M2 x2
      generalize upd h1 W _ = h2
      intro x2 M2
      have hjL : j < 257 := by omega
      have own0 : Own h2 62 1 (w.rows j) ((w.ct j).map ptr) := (M1.own j hjL).ext x2 (fun x hx e => M1.notRow hjL M1.hW (by decide) (e ▸ hx))
      have hn := M.len hjL
      have inL : ∀ q, q < (w.ct j).length → (w.ct j).getD q 0 ∈ w.ct j := fun q hq => mem_getD hq
      have memfup : ∀ k x, x ∈ fup w.ct j [] k ↔ k ≠ j ∧ x ∈ w.ct k := by
        intro k x
        simp only [fup]
        by_cases e : k = j
        · simp [e]
        · simp [e]
      have notFP : ∀ (hc : Hp) (wc : WS), Mem hc W tm wc → ∀ x l, Blk hc x 65 l → (∀ k, k < 257 → x ∉ wc.ct k) → ¬ FP W wc x := by
        intro hc wc Mc x l hx hn
        rintro (e | e | ⟨k, hk, e⟩ | ⟨k, hk, e⟩)
        · exact hx.ne Mc.hW (by decide) e
        · exact map_ne hx Mc.hm e
        · exact Mc.notRow hk hx (by decide) e
        · exact hn k hk e
      unfold N31_l1
      refine loopP_inv (fun (x : Int) hc => ∃ (i : Nat) (wc : WS), x = i ∧ i ≤ (w.ct j).length ∧ Mem hc W tm wc ∧ Pq.Heap (ltT tm) (wc.ct 256) ∧ Beside { w with now := to } wc ∧
          (∀ k, k < 257 → ∀ x, x ∈ wc.ct k ↔ x ∈ fup w.ct j [] k ∨ x ∈ (w.ct j).take i ∧ k = slotOf to (tm x).tim) ∧ Own hc 62 1 (w.rows j) ((w.ct j).map ptr) ∧
          (∀ q, i ≤ q → q < (w.ct j).length → ∃ lv pl, Blk hc ((w.ct j).getD q 0) 65 (tc (tm ((w.ct j).getD q 0)) lv pl)) ∧ (∀ x, (w.rows j).p = some (bk x) → ¬ FP W wc x) ∧ Ext (FP W w) h hc ∧ (∀ x, FP W wc x → FP W w x ∨ h x = none))
        (fun x _ => (w.ct j).length - x.toNat) ?_ ⟨0, _, rfl, Nat.zero_le _, M2, ?_, ⟨rfl, rfl, rfl, rfl, rfl⟩, ?_, own0, ?_, ?_, (x1.mono fpW).then x2 fpW', ?_⟩
      · rintro x hc ⟨i, wc, rfl, hi, Mc, hhc, bs, hmem, hown, hrest, hrow, hex, hfp⟩
        have now_c : wc.now = to := bs.now
        have subw : ∀ k, k < 257 → ∀ x ∈ wc.ct k, ∃ k', k' < 257 ∧ x ∈ w.ct k' := by
          intro k hk x hx
          rcases (hmem k hk x).1 hx with e | ⟨e, _⟩
          · exact ⟨k, hk, ((memfup k x).1 e).2⟩
          · exact ⟨j, hjL, List.mem_of_mem_take e⟩
        have lc := lenb hc wc Mc (fun k hk b hb => by obtain ⟨k', hk', hb'⟩ := subw k hk b hb; exact hbl k' hk' b hb')
        unfold N31_l1_B N31_l1_b
        by_cases hi2 : i < (w.ct j).length
        · have : decide ((i : Int) < (((w.rows j).n : Nat) : Int)) = true := by rw [hn]; simp; omega
          simp only [this, cond_true]
          refine idx_of (by omega) (by omega) ?_
          obtain ⟨r, hr, hcell⟩ := Own.ptr hown (k := i) hi2
          rw [hr]
          simp only [nn_some', add_bk, Int.toNat_natCast, Nat.mul_one, hcell, xP_some]
          obtain ⟨lv, pl, hb⟩ := hrest i (Nat.le_refl _) hi2
          have hbL := inL i hi2
          obtain ⟨l62, hr62⟩ := M.rblk hjL hr
          have hr62c : ∃ l, Blk hc r 62 l := by
            have := hown.2.2
            rw [hr] at this
            obtain ⟨_, cs, hb', _⟩ := this
            exact ⟨cs, hb'⟩
          have notin : ∀ q, i ≤ q → q < (w.ct j).length → ∀ k, k < 257 → (w.ct j).getD q 0 ∉ wc.ct k := by
            intro q hq1 hq2 k hk hx
            rcases (hmem k hk _).1 hx with e | ⟨e, _⟩
            · obtain ⟨e1, e2⟩ := (memfup k _).1 e
              exact e1 (M.one hk hjL e2 (inL q hq2))
            · obtain ⟨q', hq', e'⟩ := mem_getD' e
              have hq'' : q' < i := by simp at hq'; omega
              rw [List.getD_eq_getElem?_getD, List.getElem?_take, if_pos hq'', ← List.getD_eq_getElem?_getD] at e'
              have := (M.nd j j q' q hjL hjL (by omega) hq2 e').2
              omega
          have tb := tim' j hjL _ hbL
          generalize hbq : (w.ct j).getD i 0 = b at *
          refine c28 Mc hhc hb (by have := notin i (Nat.le_refl _) hi2; rw [hbq] at this; exact this) (by rw [now_c]; omega) (by rw [now_c]; exact hto1) (by omega) tb.2 lc ?_
          intro h3 w3 M3 bs3 ot pm3 heap3 x3 fp3
          rw [now_c] at ot pm3
          have hLl : (w.ct j).length < 1099511627776 := Nat.lt_of_le_of_lt (nodup_le (M.nodup hjL) (hbl j hjL)) hlen
          have wi : IntKind.wrap .i64 ((i : Int) + 1) = ((i + 1 : Nat) : Int) := by rw [wrap64 (by omega) (by omega)]; omega
          rw [wi]
          have hlt := slotOf_lt to (tm b).tim
          have htk : ∀ x, x ∈ (w.ct j).take (i + 1) ↔ x ∈ (w.ct j).take i ∨ x = b := by
            intro x
            rw [List.take_succ_eq_append_getElem hi2]
            have : (w.ct j)[i] = b := by rw [← hbq, List.getD_eq_getElem?_getD, List.getElem?_eq_getElem hi2]; rfl
            rw [this]; simp
          have FPb : FP W w b := .inr (.inr (.inr ⟨j, hjL, hbL⟩))
          have hexc : ∀ x o, h x = some o → ¬ FP W w x → h3 x = some o := by
            intro x o ho hn'
            refine x3 x o (hex x o ho hn') ?_
            rintro (e | e)
            · rcases hfp x e with e' | e'
              · exact hn' e'
              · rw [ho] at e'; cases e'
            · exact hn' (e ▸ FPb)
          refine ⟨⟨i + 1, w3, rfl, by omega, M3, heap3, ⟨bs3.now.trans bs.now, bs3.last.trans bs.last, bs3.mb.trans bs.mb, bs3.es.trans bs.es, bs3.clk.trans bs.clk⟩, ?_, ?_, ?_, ?_, hexc, ?_⟩, by omega⟩
          · intro k hk x
            rw [htk x]
            by_cases e : k = slotOf to (tm b).tim
            · subst e
              rw [pm3.mem_iff, List.mem_append, hmem _ hlt x]
              simp only [List.mem_singleton]
              constructor
              · rintro ((e | ⟨e1, e2⟩) | e)
                · exact .inl e
                · exact .inr ⟨.inl e1, e2⟩
                · exact .inr ⟨.inr e, by rw [e]⟩
              · rintro (e | ⟨e | e, e2⟩)
                · exact .inl (.inl e)
                · exact .inl (.inr ⟨e, e2⟩)
                · exact .inr e
            · rw [ot k e, hmem k hk x]
              constructor
              · rintro (e | ⟨e1, e2⟩)
                · exact .inl e
                · exact .inr ⟨.inl e1, e2⟩
              · rintro (e' | ⟨e' | e', e2⟩)
                · exact .inl e'
                · exact .inr ⟨e', e2⟩
                · subst e'; exact (e e2).elim
          · refine hown.ext x3 ?_
            intro x hx
            rintro (e | e)
            · exact hrow x hx e
            · subst e
              rw [hr] at hx
              have : r = x := congrArg Addr.block (Option.some.inj hx)
              subst this
              obtain ⟨l, hl⟩ := hr62c
              exact hl.ne hb (by decide) rfl
          · intro q hq1 hq2
            obtain ⟨lv', pl', hbq'⟩ := hrest q (by omega) hq2
            refine ⟨lv', pl', x3.blk hbq' ?_⟩
            rintro (e | e)
            · exact notFP hc wc Mc _ _ hbq' (notin q (by omega) hq2) e
            · have := (M.nd j j q i hjL hjL hq2 hi2 (e.trans hbq.symm)).2
              omega
          · intro x hx hf
            have : r = x := congrArg Addr.block (Option.some.inj hx)
            subst this
            obtain ⟨l, hl⟩ := hr62c
            rcases fp3 r hf with e | e | e
            · exact hrow r hr e
            · subst e; exact hl.ne hb (by decide) rfl
            · unfold Blk at hl; rw [e] at hl; cases hl
          · intro x hx
            rcases fp3 x hx with e | e | e
            · exact hfp x e
            · subst e; exact .inl FPb
            · by_cases hfx : FP W w x
              · exact .inl hfx
              · right
                cases hq : h x with
                | none => rfl
                | some o => have := hex x o hq hfx; rw [e] at this; cases this
        · have : decide ((i : Int) < (((w.rows j).n : Nat) : Int)) = false := by rw [hn]; simp; omega
          simp only [this, cond_false]
          have hie : i = (w.ct j).length := by omega
          subst hie
          rw [List.take_length] at hmem
          refine hK hc wc Mc ⟨now_c, bs.last, bs.mb, bs.es, bs.clk, ?_⟩ ⟨?_, ?_⟩ hhc hex hfp
          · intro x
            constructor
            · rintro ⟨k, hk, hx⟩; exact subw k hk x hx
            · rintro ⟨k, hk, hx⟩
              by_cases e : k = j
              · subst e; exact ⟨_, slotOf_lt to (tm x).tim, (hmem _ (slotOf_lt _ _) x).2 (.inr ⟨hx, rfl⟩)⟩
              · exact ⟨k, hk, (hmem k hk x).2 (.inl ((memfup k x).2 ⟨e, hx⟩))⟩
          · intro k hk x hx
            rw [now_c]
            rcases (hmem k hk x).1 hx with e | ⟨_, e⟩
            · obtain ⟨e1, e2⟩ := (memfup k x).1 e
              have hs := hp.slot k hk x e2
              rw [slot_keep hn0 hto (hall k hk x e2) (by rw [hs, hjdef]; exact e1)]
              exact hs
            · exact e.symm
          · intro k hk x hx
            rw [now_c]
            obtain ⟨k', hk', hx'⟩ := subw k hk x hx
            exact tim' k' hk' x hx'
      · have : ¬ 256 = j := by omega
        simpa [fup, this] using hheap
      · intro k hk x
        simp [fup]
      · intro q _ hq
        refine ⟨lvl j, q, x2.blk (M1.tms j hjL q hq) ((M1.tms j hjL q hq).ne M1.hW (by decide))⟩
      · intro x hx
        obtain ⟨l, hl⟩ := M1.rblk hjL hx
        rintro (e | e | ⟨k, hk, e⟩ | ⟨k, hk, e⟩)
        · exact hl.ne M1.hW (by decide) e
        · exact map_ne hl M1.hm e
        · simp only [fup] at e
          by_cases e' : k = j
          · rw [if_pos e'] at e; cases e
          · rw [if_neg e'] at e; exact e' (M.rinj _ _ _ hk hjL e hx)
        · obtain ⟨pl, hb⟩ := M1.tblk hk ((memfup k x).1 e).2
          exact hl.ne hb (by decide) rfl
      · rintro x (e | e | ⟨k, hk, e⟩ | ⟨k, hk, e⟩)
        · exact .inl (.inl e)
        · exact .inl (.inr (.inl e))
        · simp only [fup] at e
          by_cases e' : k = j
          · rw [if_pos e'] at e; cases e
          · rw [if_neg e'] at e; exact .inl (.inr (.inr (.inl ⟨k, hk, e⟩)))
        · exact .inl (.inr (.inr (.inr ⟨k, hk, ((memfup k x).1 e).2⟩)))

end Go.Proofs.Ytfnlldbaplakoaa

set_option linter.unusedVariables false
set_option maxRecDepth 100000
namespace Go.Proofs.Ytfnlldbaplakoaa
open Go Go.Hw
/-! ### 8 slipway/wheel.New -/
noncomputable def B8 : Code := match Try.f8.body with | some c => c | none => .skip
def N8  (h : Hp) (K : Option Addr → Hp → Prop) : Prop :=
  nw h (.map #[] 0) fun b0 h0 =>
  nw h0 (.cells ⟨[.int .i64 0, .int .i64 0, .slice none 0 0, .slice none 0 0, .slice none 0 0, .slice none 0 0, .slice none 0 0, .slice none 0 0, .slice none 0 0, .slice none 0 0, .slice none 0 0, .slice none 0 0, .slice none 0 0, .slice none 0 0, .slice none 0 0, .slice none 0 0, .slice none 0 0, .slice none 0 0, .slice none 0 0, .slice none 0 0, .slice none 0 0, .slice none 0 0, .slice none 0 0, .slice none 0 0, .slice none 0 0, .slice none 0 0, .slice none 0 0, .slice none 0 0, .slice none 0 0, .slice none 0 0, .slice none 0 0, .slice none 0 0, .slice none 0 0, .slice none 0 0, .slice none 0 0, .slice none 0 0, .slice none 0 0, .slice none 0 0, .slice none 0 0, .slice none 0 0, .slice none 0 0, .slice none 0 0, .slice none 0 0, .slice none 0 0, .slice none 0 0, .slice none 0 0, .slice none 0 0, .slice none 0 0, .slice none 0 0, .slice none 0 0, .slice none 0 0, .slice none 0 0, .slice none 0 0, .slice none 0 0, .slice none 0 0, .slice none 0 0, .slice none 0 0, .slice none 0 0, .slice none 0 0, .slice none 0 0, .slice none 0 0, .slice none 0 0, .slice none 0 0, .slice none 0 0, .slice none 0 0, .slice none 0 0, .slice none 0 0, .slice none 0 0, .slice none 0 0, .slice none 0 0, .slice none 0 0, .slice none 0 0, .slice none 0 0, .slice none 0 0, .slice none 0 0, .slice none 0 0, .slice none 0 0, .slice none 0 0, .slice none 0 0, .slice none 0 0, .slice none 0 0, .slice none 0 0, .slice none 0 0, .slice none 0 0, .slice none 0 0, .slice none 0 0, .slice none 0 0, .slice none 0 0, .slice none 0 0, .slice none 0 0, .slice none 0 0, .slice none 0 0, .slice none 0 0, .slice none 0 0, .slice none 0 0, .slice none 0 0, .slice none 0 0, .slice none 0 0, .slice none 0 0, .slice none 0 0, .slice none 0 0, .slice none 0 0, .slice none 0 0, .slice none 0 0, .slice none 0 0, .slice none 0 0, .slice none 0 0, .slice none 0 0, .slice none 0 0, .slice none 0 0, .slice none 0 0, .slice none 0 0, .slice none 0 0, .slice none 0 0, .slice none 0 0, .slice none 0 0, .slice none 0 0, .slice none 0 0, .slice none 0 0, .slice none 0 0, .slice none 0 0, .slice none 0 0, .slice none 0 0, .slice none 0 0, .slice none 0 0, .slice none 0 0, .slice none 0 0, .slice none 0 0, .slice none 0 0, .slice none 0 0, .slice none 0 0, .slice none 0 0, .slice none 0 0, .slice none 0 0, .slice none 0 0, .slice none 0 0, .slice none 0 0, .slice none 0 0, .slice none 0 0, .slice none 0 0, .slice none 0 0, .slice none 0 0, .slice none 0 0, .slice none 0 0, .slice none 0 0, .slice none 0 0, .slice none 0 0, .slice none 0 0, .slice none 0 0, .slice none 0 0, .slice none 0 0, .slice none 0 0, .slice none 0 0, .slice none 0 0, .slice none 0 0, .slice none 0 0, .slice none 0 0, .slice none 0 0, .slice none 0 0, .slice none 0 0, .slice none 0 0, .slice none 0 0, .slice none 0 0, .slice none 0 0, .slice none 0 0, .slice none 0 0, .slice none 0 0, .slice none 0 0, .slice none 0 0, .slice none 0 0, .slice none 0 0, .slice none 0 0, .slice none 0 0, .slice none 0 0, .slice none 0 0, .slice none 0 0, .slice none 0 0, .slice none 0 0, .slice none 0 0, .slice none 0 0, .slice none 0 0, .slice none 0 0, .slice none 0 0, .slice none 0 0, .slice none 0 0, .slice none 0 0, .slice none 0 0, .slice none 0 0, .slice none 0 0, .slice none 0 0, .slice none 0 0, .slice none 0 0, .slice none 0 0, .slice none 0 0, .slice none 0 0, .slice none 0 0, .slice none 0 0, .slice none 0 0, .slice none 0 0, .slice none 0 0, .slice none 0 0, .slice none 0 0, .slice none 0 0, .slice none 0 0, .slice none 0 0, .slice none 0 0, .slice none 0 0, .slice none 0 0, .slice none 0 0, .slice none 0 0, .slice none 0 0, .slice none 0 0, .slice none 0 0, .slice none 0 0, .slice none 0 0, .slice none 0 0, .slice none 0 0, .slice none 0 0, .slice none 0 0, .slice none 0 0, .slice none 0 0, .slice none 0 0, .slice none 0 0, .slice none 0 0, .slice none 0 0, .slice none 0 0, .slice none 0 0, .slice none 0 0, .slice none 0 0, .slice none 0 0, .slice none 0 0, .slice none 0 0, .slice none 0 0, .slice none 0 0, .slice none 0 0, .slice none 0 0, .slice none 0 0, .slice none 0 0, .slice none 0 0, .slice none 0 0, .slice none 0 0, .slice none 0 0, .slice none 0 0, .slice none 0 0, .slice none 0 0, .slice none 0 0, .slice none 0 0, .slice none 0 0, .slice none 0 0, .slice none 0 0, .slice none 0 0, .slice none 0 0, .slice none 0 0, .slice none 0 0, .slice none 0 0, .slice none 0 0, .slice none 0 0, .slice none 0 0, .slice none 0 0, .nilFunc, .map (some b0)]⟩ 58) fun b1 h1 =>
  st h1 ((bk b1).add 259) (.func (.func 19) ⟨[.pointer (some (bk b1))]⟩ ⟨[]⟩) fun h2 =>
  K (some (bk b1)) h2
theorem S8 {h : Hp} {K : Option Addr → Hp → Prop} (hn : N8 h K) : C8 h K := by
  refine calls_of_D Try.func8 (c := B8) rfl (by kernel_rfl) ?_
  refine den_sound hE hm _ .leaf _ _ _ (annOk_leaf) ?_
  refine cast ?_ hn
  kernel_rfl
end Go.Proofs.Ytfnlldbaplakoaa

set_option linter.unusedVariables false
set_option maxRecDepth 100000
namespace Go.Proofs.Ytfnlldbaplakoaa
open Go Go.Hw
/-! ### 12 (*slipway/wheel.Wheel).Arm -/
noncomputable def B12 : Code := match Try.f12.body with | some c => c | none => .skip
def N12 (x0 : Option Addr) (x1 : Int) (x2 : Int) (h : Hp) (K : Int → Int → Hp → Prop) : Prop :=
  nn x0 fun a0 =>
  xM (cell h (a0.add 260)) fun m0 =>
  xMap h m0 fun es0 _ =>
  bif (decide ((es0.length : Int) ≥ 1024)) then
    K 0 70 h
  else
    nn x0 fun a1 =>
    xI .i64 (cell h (a1.add 1)) fun n0 =>
    nn x0 fun a2 =>
    st h (a2.add 1) (.int .i64 (IntKind.wrap .i64 (n0 + 1))) fun h0 =>
    nn x0 fun a3 =>
    xI .i64 (cell h0 (a3.add 1)) fun n1 =>
    C27 x0 x1 h0 fun n2 h1 =>
    both (xI .i64 (cell h1 (a3.add 1)) fun n3 => Only (.int .i64 n1) h1 (.int .i64 n3) h1) <|
    nw h1 (.cells ⟨[.int .i64 n2, .int .i64 n1, .int .i64 x2, .int .i64 0, .int .i64 0]⟩ 65) fun b0 h2 =>
    nn x0 fun a4 =>
    xM (cell h2 (a4.add 260)) fun m1 =>
    nn x0 fun a5 =>
    xI .i64 (cell h2 (a5.add 1)) fun n4 =>
    muK Try.prog 50 (.map m1) (.int .i64 n4) (.pointer (some (bk b0))) h2 fun h3 =>
    C28 x0 (some (bk b0)) h3 fun h4 =>
    nn x0 fun a6 =>
    xI .i64 (cell h4 (a6.add 1)) fun n5 =>
    K n5 0 h4
theorem S12 {x0 : Option Addr} {x1 : Int} {x2 : Int} {h : Hp} {K : Int → Int → Hp → Prop} (hn : N12 x0 x1 x2 h K) : C12 x0 x1 x2 h K := by
  refine calls_of_D Try.func12 (c := B12) rfl (by kernel_rfl) ?_
  refine den_sound hE hm _ (.two .leaf (.two .leaf (.two .leaf (.two (.ord [0, 1, 3, 4, 5, 6, 7, 2, 8, 9, 10, 11]) (.two (.ord [0, 1, 2, 3, 4, 5, 6, 7, 8, 9]) .leaf))))) _ _ _ (⟨annOk_leaf, ⟨annOk_leaf, ⟨annOk_leaf, ⟨trivial, ⟨trivial, annOk_leaf⟩⟩⟩⟩⟩) ?_
  refine cast ?_ hn
  kernel_rfl
end Go.Proofs.Ytfnlldbaplakoaa

set_option linter.unusedVariables false
set_option maxRecDepth 100000
namespace Go.Proofs.Ytfnlldbaplakoaa
open Go Go.Hw
/-! ### 13 (*slipway/wheel.Wheel).Cancel -/
noncomputable def B13 : Code := match Try.f13.body with | some c => c | none => .skip
def N13 (x0 : Option Addr) (x1 : Int) (h : Hp) (K : Bool → Hp → Prop) : Prop :=
  nn x0 fun a0 =>
  xM (cell h (a0.add 260)) fun m0 =>
  xMap h m0 fun es0 _ =>
  keyAt (.int .i64) (.int .i64 x1) es0 fun r0 =>
  xP (some (rval r0 (.pointer none))) fun p0 =>
  bif r0.isSome then
    C29 x0 p0 h fun h0 =>
    K r0.isSome h0
  else
    K r0.isSome h
theorem S13 {x0 : Option Addr} {x1 : Int} {h : Hp} {K : Bool → Hp → Prop} (hn : N13 x0 x1 h K) : C13 x0 x1 h K := by
  refine calls_of_D Try.func13 (c := B13) rfl (by kernel_rfl) ?_
  refine den_sound hE hm _ .leaf _ _ _ (annOk_leaf) ?_
  refine cast ?_ hn
  kernel_rfl
end Go.Proofs.Ytfnlldbaplakoaa

set_option linter.unusedVariables false
set_option maxRecDepth 100000
namespace Go.Proofs.Ytfnlldbaplakoaa
open Go Go.Hw
/-! ### 14 (*slipway/wheel.Wheel).Advance -/
noncomputable def B14 : Code := match Try.f14.body with | some c => c | none => .skip
def N14_l0_b (x0_w : Option Addr) (x5_to : Int) (Φ : Sl → Option Addr → Hp → Prop) (x6_l : Sl) (x7_t : Option Addr) (h : Hp) (K_e0 : Sl → Hp → Prop) : Prop :=
  peq h x7_t none fun b0 =>
  bif (!b0) then
    nn x7_t fun a0 =>
    xI .i64 (cell h a0) fun n0 =>
    bif (decide (n0 ≤ x5_to)) then
      nn x7_t fun a1 =>
      xI .i64 (cell h a1) fun n1 =>
      C31 x0_w n1 h fun h0 =>
      C29 x0_w x7_t h0 fun h1 =>
      nn x7_t fun a2 =>
      xI .i64 (cell h1 a2) fun n2 =>
      xI .i64 (cell h1 (a2.add 1)) fun n3 =>
      xI .i64 (cell h1 (a2.add 2)) fun n4 =>
      nw h1 (.cells ⟨[.int .i64 n2, .int .i64 n3, .int .i64 n4]⟩ 44) fun b1 h2 =>
      apK Try.prog 44 x6_l (.slice (some (bk b1)) 1 1) h2 fun s0 h3 =>
      C30 x0_w h3 fun p0 h4 =>
      Φ s0 p0 h4
    else
      K_e0 x6_l h
  else
    K_e0 x6_l h
def N14_l0_B (x0_w : Option Addr) (x5_to : Int) (K_e0 : Sl → Hp → Prop) (s : Sg.T [(6, .c (.slice)), (7, .c (.ptr))]) (h : Hp) (Φ : Sg.T [(6, .c (.slice)), (7, .c (.ptr))] → Hp → Prop) : Prop :=
  N14_l0_b x0_w x5_to (fun x6_l x7_t h => Φ (x6_l, x7_t) h) s.1 s.2 h K_e0
def N14_l0 (x0_w : Option Addr) (x5_to : Int) (x6_l : Sl) (x7_t : Option Addr) (h : Hp) (K_e0 : Sl → Hp → Prop) : Prop :=
  loopP (N14_l0_B x0_w x5_to K_e0) (x6_l, x7_t) h
noncomputable def N14_l0_t : Xf := loopT [(0, .c (.ptr)), (5, .c (.int .i64))] [(6, .c (.slice)), (7, .c (.ptr))] (codeAt B14 [1, 1, 1, 0, 1, 0, 0]) fun F Q => N14_l0_B F.1 F.2 (fun o0 h' => Q (.exit 0) (Sg.env [(6, .c (.slice))] o0) h')
theorem N14_l0_ok : Sound Try.prog Try.f14.ntmps N14_l0_t (codeAt B14 [1, 1, 1, 0, 1, 0]) := by
  refine loop_sound (fun e => match e with | .exit 0 => [6] | _ => []) (by kernel_rfl) ?_
  intro F Q s h Φ hb
  refine den_sound hE hm _ .leaf _ _ _ (annOk_leaf) ?_
  refine cast ?_ hb
  kernel_rfl
def N14 (x0 : Option Addr) (x1 : Int) (h : Hp) (K : Sl → Hp → Prop) : Prop :=
  C27 x0 x1 h fun n0 h0 =>
  C30 x0 h0 fun p0 h1 =>
  N14_l0 x0 n0 ⟨none, 0, 0⟩ p0 h1
    (fun s0 h2 =>
      C31 x0 n0 h2 fun h3 =>
      K s0 h3)
theorem S14 {x0 : Option Addr} {x1 : Int} {h : Hp} {K : Sl → Hp → Prop} (hn : N14 x0 x1 h K) : C14 x0 x1 h K := by
  refine calls_of_D Try.func14 (c := B14) rfl (by kernel_rfl) ?_
  refine den_sound hE hm _ (.two .leaf (.two .leaf (.two .leaf (.two (.two .leaf (.one (.xf N14_l0_t))) .leaf)))) _ _ _ (⟨annOk_leaf, ⟨annOk_leaf, ⟨annOk_leaf, ⟨⟨annOk_leaf, N14_l0_ok⟩, annOk_leaf⟩⟩⟩⟩) ?_
  refine cast ?_ hn
  kernel_rfl
end Go.Proofs.Ytfnlldbaplakoaa

set_option linter.unusedVariables false
set_option maxRecDepth 100000
namespace Go.Proofs.Ytfnlldbaplakoaa
open Go Go.Hw
/-! ### 15 (*slipway/wheel.Wheel).Next -/
noncomputable def B15 : Code := match Try.f15.body with | some c => c | none => .skip
def N15 (x0 : Option Addr) (h : Hp) (K : Int → Bool → Hp → Prop) : Prop :=
  C30 x0 h fun p0 h0 =>
  peq h0 p0 none fun b0 =>
  bif b0 then
    K 0 false h0
  else
    nn p0 fun a0 =>
    xI .i64 (cell h0 a0) fun n0 =>
    K n0 true h0
theorem S15 {x0 : Option Addr} {h : Hp} {K : Int → Bool → Hp → Prop} (hn : N15 x0 h K) : C15 x0 h K := by
  refine calls_of_D Try.func15 (c := B15) rfl (by kernel_rfl) ?_
  refine den_sound hE hm _ .leaf _ _ _ (annOk_leaf) ?_
  refine cast ?_ hn
  kernel_rfl
end Go.Proofs.Ytfnlldbaplakoaa

/-
  The wheel's functions, as they answer.
-/
set_option linter.unusedSimpArgs false
set_option linter.unusedVariables false
set_option maxRecDepth 100000
namespace Go.Proofs.Ytfnlldbaplakoaa
open Go Go.Hw

/-- a wheel, without its memory -/
structure St where
  now : Int
  last : Int
  ts : List Tm

structure Wh (h : Hp) (W : Nat) (tm : Nat → Tm) (w : WS) (bl : List Nat) : Prop where
  M : Mem h W tm w
  heap : Pq.Heap (ltT tm) (w.ct 256)
  pl : Placed tm w
  n0 : 0 ≤ w.now
  n1 : w.now ≤ MaxT
  all : ∀ b, b ∈ bl ↔ ∃ j, j < 257 ∧ b ∈ w.ct j
  es : EsOk tm w.es.toList bl
  ids : bl.Pairwise (fun a b => (tm a).id < (tm b).id)
  idl : ∀ b ∈ bl, 1 ≤ (tm b).id ∧ (tm b).id ≤ w.last
  len : bl.length ≤ 1024
  l0 : 0 ≤ w.last

def Whl (h : Hp) (W : Nat) (a : St) (F : Nat → Prop) : Prop := ∃ tm w bl, Wh h W tm w bl ∧ a.now = w.now ∧ a.last = w.last ∧ a.ts = bl.map tm ∧ F = FP W w

theorem Wh.lens {h : Hp} {W : Nat} {tm : Nat → Tm} {w : WS} {bl : List Nat} (H : Wh h W tm w bl) : ∀ j, j < 257 → (w.ct j).length < 1099511627776 := by
  intro j hj
  have := nodup_le (H.M.nodup hj) (M := bl) (fun x hx => (H.all x).2 ⟨j, hj, hx⟩)
  have := H.len
  omega
theorem Whl.ext {S : Nat → Prop} {h h' : Hp} {W : Nat} {a : St} {F : Nat → Prop} (H : Whl h W a F) (he : Ext S h h') (hs : ∀ x, F x → ¬ S x) : Whl h' W a F := by
  obtain ⟨tm, w, bl, H, e1, e2, e3, rfl⟩ := H
  exact ⟨tm, w, bl, ⟨H.M.ext he hs, H.heap, H.pl, H.n0, H.n1, H.all, H.es, H.ids, H.idl, H.len, H.l0⟩, e1, e2, e3, rfl⟩
theorem Whl.there {h : Hp} {W : Nat} {a : St} {F : Nat → Prop} (H : Whl h W a F) : ∀ x, F x → h x ≠ none := by
  obtain ⟨tm, w, bl, H, e1, e2, e3, rfl⟩ := H
  intro x hx; exact H.M.there hx

/-- the first one: the least time, the least number -/
def pick (m x : Tm) : Tm := if x.tim < m.tim then x else m
def first : List Tm → Option Tm
  | [] => none
  | a :: l => some (l.foldl pick a)
theorem foldl_pick : ∀ {l : List Tm} {a : Tm}, (a :: l).Pairwise (fun a b => a.id < b.id) →
    l.foldl pick a ∈ a :: l ∧ ∀ x ∈ a :: l, (l.foldl pick a).tim < x.tim ∨ (l.foldl pick a).tim = x.tim ∧ (l.foldl pick a).id ≤ x.id := by
  intro l
  induction l with
  | nil => intro a _; exact ⟨by simp, by intro x hx; simp at hx; subst hx; exact .inr ⟨rfl, Int.le_refl _⟩⟩
  | cons b l ih =>
    intro a hp
    rw [List.foldl_cons]
    rw [List.pairwise_cons] at hp
    obtain ⟨h1, h2⟩ := hp
    rw [List.pairwise_cons] at h2
    unfold pick
    by_cases e : b.tim < a.tim
    · rw [if_pos e]
      obtain ⟨a1, a2⟩ := ih (a := b) (by rw [List.pairwise_cons]; exact h2)
      unfold pick at a1 a2
      refine ⟨List.mem_cons_of_mem _ a1, ?_⟩
      intro x hx
      rcases List.mem_cons.1 hx with e' | e'
      · subst e'; have := a2 b (by simp); left; omega
      · exact a2 x e'
    · rw [if_neg e]
      obtain ⟨a1, a2⟩ := ih (a := a) (by rw [List.pairwise_cons]; exact ⟨fun x hx => h1 x (by simp [hx]), h2.2⟩)
      unfold pick at a1 a2
      refine ⟨?_, ?_⟩
      · rcases List.mem_cons.1 a1 with e' | e'
        · rw [e']; simp
        · exact List.mem_cons_of_mem _ (List.mem_cons_of_mem _ e')
      · intro x hx
        rcases List.mem_cons.1 hx with e' | e'
        · exact a2 x (by rw [e']; simp)
        · rcases List.mem_cons.1 e' with e'' | e''
          · subst e''
            have := a2 a (by simp)
            have := h1 x (by simp)
            omega
          · exact a2 x (by simp [e''])
theorem first_eq {tm : Nat → Tm} {bl : List Nat} (hid : bl.Pairwise (fun a b => (tm a).id < (tm b).id)) {b : Nat} (hb : b ∈ bl) (hm : ∀ x ∈ bl, ltT tm x b = false) : first (bl.map tm) = some (tm b) := by
  have hp : (bl.map tm).Pairwise (fun a b => a.id < b.id) := by rw [List.pairwise_map]; exact hid
  cases bl with
  | nil => cases hb
  | cons c l =>
    simp only [List.map_cons, first] at hp ⊢
    obtain ⟨a1, a2⟩ := foldl_pick hp
    congr 1
    generalize List.foldl pick (tm c) (l.map tm) = m at a1 a2
    have hm1 : m ∈ (c :: l).map tm := by simpa using a1
    obtain ⟨x, hx, rfl⟩ := List.mem_map.1 hm1
    have h1 := hm x hx
    rw [ltT_false] at h1
    have h2 := a2 (tm b) (by have := List.mem_map_of_mem (f := tm) hb; simpa using this)
    have h3 : (tm x).id = (tm b).id := by omega
    have : x = b := by
      obtain ⟨i, hi, e1⟩ := List.getElem_of_mem hx
      obtain ⟨k, hk, e2⟩ := List.getElem_of_mem hb
      rw [List.pairwise_iff_getElem] at hid
      rcases Nat.lt_trichotomy i k with q | q | q
      · have := hid i k hi hk q; rw [e1, e2] at this; omega
      · subst q; rw [← e1, e2]
      · have := hid k i hk hi q; rw [e1, e2] at this; omega
    rw [this]

theorem erase_map {tm : Nat → Tm} : ∀ {bl : List Nat} {b : Nat}, bl.Pairwise (fun a b => (tm a).id < (tm b).id) → b ∈ bl → (bl.erase b).map tm = (bl.map tm).filter (fun x => x.id != (tm b).id) := by
  intro bl
  induction bl with
  | nil => intro b _ h; cases h
  | cons c l ih =>
    intro b hp hb
    rw [List.pairwise_cons] at hp
    by_cases e : b = c
    · subst e
      simp only [List.erase_cons_head, List.map_cons, List.filter_cons, bne_self_eq_false, Bool.false_eq_true, if_false]
      symm
      rw [List.filter_eq_self]
      intro x hx
      obtain ⟨y, hy, rfl⟩ := List.mem_map.1 hx
      have := hp.1 y hy
      simp; omega
    · have hm : b ∈ l := by simpa [e] using hb
      have h1 := hp.1 b hm
      have h2 : ((tm c).id != (tm b).id) = true := by simp; omega
      have h3 : (c == b) = false := by simpa using fun e' : c = b => e e'.symm
      simp [List.erase_cons, h3, h2, ih hp.2 hm]

/-! ### what is asked -/
theorem c17' {W : Nat} {a : St} {F : Nat → Prop} {h : Hp} {K : Int → Hp → Prop} (H : Whl h W a F) (hK : K a.now h) : C17 (some (bk W)) h K := by
  obtain ⟨tm, w, bl, H, e1, e2, e3, rfl⟩ := H
  apply S17; unfold N17
  have cb : cell h (bk W) = some (.int .i64 w.now) := by rw [H.M.hW.cell, wl_0]
  simp only [nn_some', cb, xI_some]
  rw [← e1]; exact hK
theorem c16' {W : Nat} {a : St} {F : Nat → Prop} {h : Hp} {K : Int → Hp → Prop} (H : Whl h W a F) (hK : K (a.ts.length : Int) h) : C16 (some (bk W)) h K := by
  obtain ⟨tm, w, bl, H, e1, e2, e3, rfl⟩ := H
  apply S16; unfold N16
  simp only [nn_some', add_bk, H.M.hW.cell, wl_260, xM_some]
  refine xMap_of H.M.hm ?_
  rw [H.es.len]; rw [e3, List.length_map] at hK; exact hK
theorem c30' {W : Nat} {tm : Nat → Tm} {w : WS} {bl : List Nat} {h : Hp} {K : Option Addr → Hp → Prop} (H : Wh h W tm w bl) (hN : ∀ h', bl = [] → Ext none' h h' → K none h')
    (hK : ∀ h' b, b ∈ bl → first (bl.map tm) = some (tm b) → Ext none' h h' → K (some (bk b)) h') : C30 (some (bk W)) h K := by
  refine c30 H.M H.heap H.pl H.n0 H.n1 H.lens ?_ ?_
  · intro h' he hx
    refine hN h' ?_ hx
    apply List.eq_nil_iff_forall_not_mem.2
    intro b hb
    obtain ⟨j, hj, hb'⟩ := (H.all b).1 hb
    rw [he j hj] at hb'; cases hb'
  · intro h' j b hj hb hmin hx
    have hbl := (H.all b).2 ⟨j, hj, hb⟩
    refine hK h' b hbl (first_eq H.ids hbl ?_) hx
    intro x hx
    obtain ⟨k, hk, hx'⟩ := (H.all x).1 hx
    exact hmin k hk x hx'
theorem c15' {W : Nat} {a : St} {F : Nat → Prop} {h : Hp} {K : Int → Bool → Hp → Prop} (H : Whl h W a F)
    (hK : ∀ h', Ext none' h h' → match first a.ts with | some t => K t.tim true h' | none => K 0 false h') : C15 (some (bk W)) h K := by
  obtain ⟨tm, w, bl, H, e1, e2, e3, rfl⟩ := H
  apply S15; unfold N15
  refine c30' H ?_ ?_
  · intro h' he hx
    have := hK h' hx
    rw [e3, he] at this
    simp only [peq_none, Option.isNone_none, cond_true]
    exact this
  · intro h' b hb hf hx
    have := hK h' hx
    rw [e3, hf] at this
    simp only [peq_none, Option.isNone_some, cond_false, nn_some']
    obtain ⟨j, hj, hb'⟩ := (H.all b).1 hb
    obtain ⟨pl, hbb⟩ := H.M.tblk hj hb'
    have cb : cell h' (bk b) = some (.int .i64 (tm b).tim) := by rw [(hx.blk hbb id).cell]; rfl
    rw [cb, xI_some]; exact this

/-! ### taken -/
theorem digit_of {now t : Int} {j : Nat} (hj : j < 256) (h : slotOf now t = j) : dg t (lvl j) = ((j % 64 : Nat) : Int) := by
  have hd := dg_bd t (lev now t)
  have hl := lev_bd now t
  unfold slotOf at h
  by_cases e : lev now t = -1
  · rw [if_pos e] at h; omega
  · rw [if_neg e] at h
    have : lvl j = lev now t := by unfold lvl; rw [if_neg (by omega)]; omega
    rw [this]; omega
theorem c29' {W b : Nat} {tm : Nat → Tm} {w : WS} {bl : List Nat} {h : Hp} {K : Hp → Prop} (H : Wh h W tm w bl) (hb : b ∈ bl)
    (hK : ∀ h' w', Wh h' W tm w' (bl.erase b) → w'.now = w.now → w'.last = w.last → Ext (FP W w) h h' → (∀ x, FP W w' x → FP W w x) → (∃ lv pl, Blk h' b 65 (tc (tm b) lv pl)) → K h') : C29 (some (bk W)) (some (bk b)) h K := by
  obtain ⟨j, hj, hbj⟩ := (H.all b).1 hb
  obtain ⟨p, hp, hpb⟩ := mem_getD' hbj
  have hs := H.pl.slot j hj b hbj
  have ht := H.pl.tim j hj b hbj
  have n0 := H.n0
  refine c29 H.M H.heap H.es hb H.ids hj hp hpb (fun hj2 => digit_of hj2 hs) (by omega) ht.2 H.lens ?_
  intro h' w' M' tk ot pm heap' ex fp hb'
  have mem' : ∀ k, k < 257 → ∀ x, x ∈ w'.ct k ↔ x ∈ w.ct k ∧ x ≠ b := by
    intro k hk x
    by_cases e : k = j
    · subst e; rw [pm.mem_iff, List.Nodup.mem_erase_iff (H.M.nodup hk)]; exact And.comm
    · rw [ot k e]
      constructor
      · intro hx; exact ⟨hx, fun e' => e (H.M.one hk hj (e' ▸ hx) hbj)⟩
      · exact fun hx => hx.1
  have nd : bl.Nodup := H.ids.imp (fun h e => by rw [e] at h; omega)
  refine hK h' w' ⟨M', heap', ⟨?_, ?_⟩, tk.now ▸ n0, tk.now ▸ H.n1, ?_, tk.es, H.ids.sublist List.erase_sublist, ?_, ?_, tk.last ▸ H.l0⟩ tk.now tk.last ex fp hb'
  · intro k hk x hx; rw [tk.now]; exact H.pl.slot k hk x ((mem' k hk x).1 hx).1
  · intro k hk x hx; rw [tk.now]; exact H.pl.tim k hk x ((mem' k hk x).1 hx).1
  · intro x
    rw [List.Nodup.mem_erase_iff nd, H.all x]
    constructor
    · rintro ⟨h1, k, hk, h2⟩; exact ⟨k, hk, (mem' k hk x).2 ⟨h2, h1⟩⟩
    · rintro ⟨k, hk, h2⟩; have := (mem' k hk x).1 h2; exact ⟨this.2, k, hk, this.1⟩
  · intro x hx; rw [tk.last]; exact H.idl x (List.mem_of_mem_erase hx)
  · have := List.length_erase_le (a := b) (l := bl); have := H.len; omega

def cancel (a : St) (id : Int) : St := { a with ts := a.ts.filter (fun x => x.id != id) }
theorem c13' {W : Nat} {id : Int} {a : St} {F : Nat → Prop} {h : Hp} {K : Bool → Hp → Prop} (H : Whl h W a F)
    (hK : ∀ h' F', Whl h' W (cancel a id) F' → Ext F h h' → (∀ x, F' x → F x) → K (a.ts.any (fun x => id == x.id)) h') : C13 (some (bk W)) id h K := by
  obtain ⟨tm, w, bl, H, e1, e2, e3, rfl⟩ := H
  apply S13; unfold N13
  simp only [nn_some', add_bk, H.M.hW.cell, wl_260, xM_some]
  refine xMap_of H.M.hm ?_
  unfold keyAt
  rw [find_es H.es]
  simp only []
  rw [e3] at hK
  by_cases hq : ∃ b ∈ bl, id = (tm b).id
  · obtain ⟨b, hb, rfl⟩ := hq
    obtain ⟨i, hi1, hi2, _, _⟩ := idx_of_mem H.ids hb
    rw [hi1]
    simp only [Option.map_some, rval, hi2, xP_some, Option.isSome_some, cond_true]
    refine c29' H hb ?_
    intro h' w' H' e4 e5 ex fp _
    have hany : (bl.map tm).any (fun x => (tm b).id == x.id) = true := by rw [List.any_eq_true]; exact ⟨tm b, List.mem_map_of_mem hb, by simp⟩
    have := hK h' (FP W w') ⟨tm, w', _, H', e1.trans e4.symm, e2.trans e5.symm, ?_, rfl⟩ ex fp
    · rw [hany] at this; exact this
    · show List.filter _ a.ts = _
      rw [e3]; exact (erase_map H.ids hb).symm
  · have hn : bl.findIdx? (fun b => id == (tm b).id) = none := by
      rw [List.findIdx?_eq_none_iff]
      intro x hx
      simpa using fun e : id = (tm x).id => hq ⟨x, hx, e⟩
    rw [hn]
    simp only [Option.map_none, rval, xP_some, Option.isSome_none, cond_false]
    have hany : (bl.map tm).any (fun x => id == x.id) = false := by
      rw [List.any_eq_false]
      intro x hx
      obtain ⟨y, hy, rfl⟩ := List.mem_map.1 hx
      simpa using fun e : id = (tm y).id => hq ⟨y, hy, e⟩
    have := hK h (FP W w) ⟨tm, w, bl, H, e1, e2, ?_, rfl⟩ Ext.refl (fun x hx => hx)
    · rw [hany] at this; exact this
    · show List.filter _ a.ts = _
      rw [e3, List.filter_eq_self]
      intro x hx
      obtain ⟨y, hy, rfl⟩ := List.mem_map.1 hx
      simpa using fun e : (tm y).id = id => hq ⟨y, hy, e.symm⟩

end Go.Proofs.Ytfnlldbaplakoaa

/-
  The wheel's functions: New, Arm, Advance.
-/
set_option linter.unusedSimpArgs false
set_option linter.unusedVariables false
set_option maxRecDepth 100000
namespace Go.Proofs.Ytfnlldbaplakoaa
open Go Go.Hw

/-! ### timers told otherwise -/
theorem Mem.tmc {h : Hp} {W : Nat} {tm tm' : Nat → Tm} {w : WS} (M : Mem h W tm w) (he : ∀ j, j < 257 → ∀ x ∈ w.ct j, tm' x = tm x) : Mem h W tm' w :=
  ⟨M.hW, M.hm, M.own, M.rinj, fun j hj p hp => by rw [he j hj _ (mem_getD hp)]; exact M.tms j hj p hp, M.nd⟩
theorem Heap_tmc {tm tm' : Nat → Tm} {L : List Nat} (hh : Pq.Heap (ltT tm) L) (he : ∀ x ∈ L, tm' x = tm x) : Pq.Heap (ltT tm') L := by
  intro j h0 hj
  have := hh j h0 hj
  unfold ltT at this ⊢
  rw [he _ (mem_getD hj), he _ (mem_getD (show (j - 1) / 2 < L.length by omega))]; exact this
theorem EsOk.tmc {tm tm' : Nat → Tm} {es : List MapEntry} {bl : List Nat} (h : EsOk tm es bl) (he : ∀ x ∈ bl, tm' x = tm x) : EsOk tm' es bl := by
  unfold EsOk at h ⊢
  rw [h]
  apply List.map_congr_left
  intro x hx
  rw [he x hx]

def armed (a : St) (t tag : Int) : St := { a with last := a.last + 1, ts := a.ts ++ [⟨clampT a.now t, a.last + 1, tag⟩] }
theorem clamp_bd {now t : Int} (h : now ≤ MaxT) : now ≤ clampT now t ∧ clampT now t ≤ MaxT := by
  unfold clampT; split
  · omega
  · split <;> omega
theorem c12' {W : Nat} {t tag : Int} {a : St} {F : Nat → Prop} {h : Hp} {K : Int → Int → Hp → Prop} (H : Whl h W a F) (hlast : a.last < 4611686018427387904)
    (h70 : 1024 ≤ a.ts.length → K 0 70 h)
    (hK : a.ts.length < 1024 → ∀ h' F', Whl h' W (armed a t tag) F' → Ext F h h' → (∀ x, F' x → F x ∨ h x = none) → K (a.last + 1) 0 h') : C12 (some (bk W)) t tag h K := by
  obtain ⟨tm, w, bl, H, e1, e2, e3, rfl⟩ := H
  apply S12; unfold N12
  have len0 : a.ts.length = bl.length := by rw [e3, List.length_map]
  have esl := H.es.len
  simp only [nn_some', add_bk, H.M.hW.cell, wl_260, wl_1, xM_some, xI_some]
  refine xMap_of H.M.hm ?_
  by_cases hf : 1024 ≤ a.ts.length
  · have : decide ((w.es.toList.length : Int) ≥ 1024) = true := by simp at esl ⊢; omega
    rw [this, cond_true]; exact h70 hf
  · have : decide ((w.es.toList.length : Int) ≥ 1024) = false := by simp at esl ⊢; omega
    rw [this, cond_false]
    have hK := hK (by omega)
    have l0 := H.l0
    have n0 := H.n0
    have n1 := H.n1
    have wl1 : IntKind.wrap .i64 (w.last + 1) = w.last + 1 := wrap64 (by omega) (by omega)
    rw [wl1]
    refine H.M.hW.st (by rw [wl_len]; omega) rfl ?_
    rw [wl_setlast]
    have M1 := H.M.setW (w' := { w with last := w.last + 1 }) rfl rfl rfl rfl rfl
    have x1 : Ext (fun x => x = W) h (upd h W (.cells ⟨wl W { w with last := w.last + 1 }⟩ 58 (0, 0))) := Ext.upd rfl
    revert M1 x1
    generalize upd h W _ = h1
    intro M1 x1
    simp only [M1.hW.cell, wl_1, xI_some]
    refine c27 M1.hW wl_0 n1 ?_
    have hcl := clamp_bd (t := t) n1
    show _ ∧ _
    simp only [M1.hW.cell, wl_1, xI_some, only_self, true_and]
    intro b0 e0
    have x2 : Ext none' h1 (upd h1 b0 (.cells ⟨[.int .i64 (clampT w.now t), .int .i64 (w.last + 1), .int .i64 tag, .int .i64 0, .int .i64 0]⟩ 65 (0, 0))) := Ext.new e0
    have hb2 : Blk (upd h1 b0 (.cells ⟨[.int .i64 (clampT w.now t), .int .i64 (w.last + 1), .int .i64 tag, .int .i64 0, .int .i64 0]⟩ 65 (0, 0))) b0 65 (tc ⟨clampT w.now t, w.last + 1, tag⟩ 0 0) := Blk.upd_same
    revert x2 hb2
    generalize upd h1 b0 _ = h2
    intro x2 hb2
    have M2 := M1.ext0 x2
    have hfr : h b0 = none := by
      cases hq : h b0 with
      | none => rfl
      | some o =>
        by_cases e : b0 = W
        · subst e; exact (M1.hW.ne_none e0 rfl).elim
        · have := x1 _ o hq e; rw [e0] at this; cases this
    have hnb : ∀ j, j < 257 → b0 ∉ w.ct j := fun j hj hx => H.M.there (.inr (.inr (.inr ⟨j, hj, hx⟩))) hfr
    have hnbl : b0 ∉ bl := fun hx => by obtain ⟨j, hj, h'⟩ := (H.all b0).1 hx; exact hnb j hj h'
    simp only [M2.hW.cell, wl_1, wl_260, xI_some, xM_some]
    refine mu50 M2.hm ?_
    unfold keyAt
    have hnf : bl.findIdx? (fun b => w.last + 1 == (tm b).id) = none := by
      rw [List.findIdx?_eq_none_iff]
      intro x hx
      have := H.idl x hx
      simp; omega
    rw [find_es H.es, hnf]
    simp only [Option.map_none, mset]
    have M3 := M2.map (w.es.push ⟨.int .i64 (w.last + 1), ptr b0, w.clk⟩) (w.clk + 1)
    have x3 : Ext (fun x => x = w.mb) h2 (upd h2 w.mb (.map (w.es.push ⟨.int .i64 (w.last + 1), ptr b0, w.clk⟩) (w.clk + 1))) := Ext.upd rfl
    have hb3 : Blk (upd h2 w.mb (.map (w.es.push ⟨.int .i64 (w.last + 1), ptr b0, w.clk⟩) (w.clk + 1))) b0 65 (tc ⟨clampT w.now t, w.last + 1, tag⟩ 0 0) := x3.blk hb2 (map_ne hb2 M2.hm)
    revert M3 x3 hb3
    generalize upd h2 w.mb _ = h3
    intro M3 x3 hb3
    obtain ⟨tm', htm⟩ : ∃ tm' : Nat → Tm, tm' = fun x => if x = b0 then ⟨clampT w.now t, w.last + 1, tag⟩ else tm x := ⟨_, rfl⟩
    have tb : tm' b0 = ⟨clampT w.now t, w.last + 1, tag⟩ := by rw [htm]; simp
    have to : ∀ x, x ≠ b0 → tm' x = tm x := by intro x hx; rw [htm]; simp [hx]
    have toj : ∀ j, j < 257 → ∀ x ∈ w.ct j, tm' x = tm x := fun j hj x hx => to x (fun e => hnb j hj (e ▸ hx))
    have tobl : ∀ x ∈ bl, tm' x = tm x := fun x hx => to x (fun e => hnbl (e ▸ hx))
    have hb3' : Blk h3 b0 65 (tc (tm' b0) 0 0) := by rw [tb]; exact hb3
    have M3' : Mem h3 W tm' { w with last := w.last + 1, es := w.es.push ⟨.int .i64 (w.last + 1), ptr b0, w.clk⟩, clk := w.clk + 1 } := M3.tmc toj
    refine c28 M3' (Heap_tmc H.heap (toj 256 (by omega))) hb3' hnb n0 n1 (by rw [tb]; show 0 ≤ clampT w.now t; omega) (by rw [tb]; exact hcl.2) H.lens ?_
    intro h4 w4 M4 bs ot pm heap4 x4 fp4
    simp only [M4.hW.cell, wl_1, xI_some]
    have l4 : w4.last = w.last + 1 := bs.last
    rw [l4, ← e2]
    have hsl : slotOf w.now (tm' b0).tim < 257 := slotOf_lt _ _
    change (∀ j, j ≠ slotOf w.now (tm' b0).tim → w4.ct j = w.ct j) at ot
    change (w4.ct (slotOf w.now (tm' b0).tim)).Perm (w.ct (slotOf w.now (tm' b0).tim) ++ [b0]) at pm
    have mem4 : ∀ k, k < 257 → ∀ x, x ∈ w4.ct k ↔ x ∈ w.ct k ∨ x = b0 ∧ k = slotOf w.now (tm' b0).tim := by
      intro k hk x
      by_cases e : k = slotOf w.now (tm' b0).tim
      · subst e; rw [pm.mem_iff]; simp
      · rw [ot k e]; simp [e]
    have now4 : w4.now = w.now := bs.now
    have x03 : Ext (FP W w) h h3 := ((x1.mono (fun x o _ e => .inl e)).then x2 (fun x o _ e => e.elim)).then x3 (fun x o _ e => .inr (.inl e))
    refine hK h4 (FP W w4) ⟨tm', w4, bl ++ [b0], ⟨M4, heap4, ⟨?_, ?_⟩, now4 ▸ n0, now4 ▸ n1, ?_, ?_, ?_, ?_, ?_, by rw [l4]; omega⟩, e1.trans now4.symm, ?_, ?_, rfl⟩ ?_ ?_
    · intro k hk x hx
      rw [now4]
      rcases (mem4 k hk x).1 hx with e | ⟨e, e'⟩
      · rw [toj k hk x e]; exact H.pl.slot k hk x e
      · rw [e]; exact e'.symm
    · intro k hk x hx
      rw [now4]
      rcases (mem4 k hk x).1 hx with e | ⟨e, e'⟩
      · rw [toj k hk x e]; exact H.pl.tim k hk x e
      · rw [e, tb]; exact hcl
    · intro x
      rw [List.mem_append, H.all x, List.mem_singleton]
      constructor
      · rintro (⟨k, hk, e⟩ | e)
        · exact ⟨k, hk, (mem4 k hk x).2 (.inl e)⟩
        · exact ⟨_, hsl, (mem4 _ hsl x).2 (.inr ⟨e, rfl⟩)⟩
      · rintro ⟨k, hk, e⟩
        rcases (mem4 k hk x).1 e with e | ⟨e, _⟩
        · exact .inl ⟨k, hk, e⟩
        · exact .inr e
    · rw [bs.es]
      show EsOk tm' (w.es.push _).toList _
      rw [Array.toList_push]
      have := (H.es.tmc tobl).push (b := b0) (c := w.clk)
      rw [tb] at this; exact this
    · rw [List.pairwise_append]
      refine ⟨H.ids.imp_of_mem (fun {x y} hx hy h => by rw [tobl x hx, tobl y hy]; exact h), by simp, ?_⟩
      intro x hx y hy
      rw [List.mem_singleton] at hy
      subst hy
      rw [tobl x hx, tb]
      have := H.idl x hx
      show (tm x).id < w.last + 1
      omega
    · intro x hx
      rw [l4]
      rcases List.mem_append.1 hx with e | e
      · rw [tobl x e]; have := H.idl x e; omega
      · rw [List.mem_singleton] at e; subst e; rw [tb]; show 1 ≤ w.last + 1 ∧ w.last + 1 ≤ w.last + 1; omega
    · rw [List.length_append]; simp; omega
    · rw [l4]; show a.last + 1 = _; rw [e2]
    · show a.ts ++ _ = _
      rw [List.map_append, e3, List.map_congr_left tobl, e1, e2]
      simp [tb]
    · refine Ext.then x03 x4 ?_
      rintro x o ho (e | e)
      · exact e
      · subst e; rw [hfr] at ho; cases ho
    · intro x hx
      rcases fp4 x hx with e | e | e
      · exact .inl e
      · subst e; exact .inr hfr
      · by_cases hfx : FP W w x
        · exact .inl hfx
        · right
          cases hq : h x with
          | none => rfl
          | some o => have := x03 x o hq hfx; rw [e] at this; cases this

/-! ### a new wheel -/
def w0 (m : Nat) : WS := ⟨0, 0, m, #[], 0, fun _ => ⟨none, 0, 0⟩, fun _ => []⟩
theorem c8' {h : Hp} {K : Option Addr → Hp → Prop} (hK : ∀ W h' F', Whl h' W ⟨0, 0, []⟩ F' → Ext none' h h' → (∀ x, F' x → h x = none) → K (some (bk W)) h') : C8 h K := by
  apply S8; unfold N8
  intro m em
  have x1 : Ext none' h (upd h m (.map #[] 0)) := Ext.new em
  have hm1 : upd h m (.map #[] 0) m = some (.map #[] 0) := Hw.upd_same
  revert x1 hm1
  generalize upd h m _ = h1
  intro x1 hm1
  intro W eW
  have hcells : ∀ l : List Value, l = (fl 261 (fun k => if k < 2 then .int .i64 0 else if k < 259 then .slice none 0 0 else if k = 259 then .nilFunc else .map (some m))) →
      st (upd h1 W (.cells ⟨l⟩ 58)) ((bk W).add 259) (.func (.func 19) ⟨[.pointer (some (bk W))]⟩ ⟨[]⟩) fun h2 => K (some (bk W)) h2 := by
    rintro l rfl
    have hb : Blk (upd h1 W (.cells ⟨fl 261 (fun k => if k < 2 then .int .i64 0 else if k < 259 then .slice none 0 0 else if k = 259 then .nilFunc else .map (some m))⟩ 58)) W 58 (fl 261 (fun k => if k < 2 then .int .i64 0 else if k < 259 then .slice none 0 0 else if k = 259 then .nilFunc else .map (some m))) := Blk.upd_same
    have x2 : Ext none' h1 (upd h1 W (.cells ⟨fl 261 (fun k => if k < 2 then .int .i64 0 else if k < 259 then .slice none 0 0 else if k = 259 then .nilFunc else .map (some m))⟩ 58)) := Ext.new eW
    have nW : h W = none := by
      cases hq : h W with
      | none => rfl
      | some o => have := x1 _ o hq id; rw [eW] at this; cases this
    revert hb x2
    generalize upd h1 W _ = h2
    intro hb x2
    rw [add_bk]
    refine hb.st (by rw [fl_len]; omega) rfl ?_
    rw [fl_set]
    have e : fl 261 (fup (fun k => if k < 2 then .int .i64 0 else if k < 259 then .slice none 0 0 else if k = 259 then .nilFunc else .map (some m)) 259 (.func (.func 19) ⟨[.pointer (some (bk W))]⟩ ⟨[]⟩)) = wl W (w0 m) := by
      unfold wl
      apply fl_congr
      intro k hk
      unfold fup wf w0 Sl.v
      by_cases h0 : k = 0
      · simp [h0]
      · by_cases h1 : k = 1
        · simp [h1]
        · by_cases h2 : k < 259
          · have : ¬ k = 259 := by omega
            have : ¬ k < 2 := by omega
            simp [*]
          · have : ¬ k < 2 := by omega
            by_cases h3 : k = 259 <;> simp [*]
    rw [e]
    have nm : m ≠ W := by rintro rfl; rw [hm1] at eW; cases eW
    have x3 : Ext (fun x => x = W) h2 (upd h2 W (.cells ⟨wl W (w0 m)⟩ 58 (0, 0))) := Ext.upd rfl
    refine hK W _ (FP W (w0 m)) ⟨fun _ => ⟨0, 0, 0⟩, w0 m, [], ⟨⟨Blk.upd_same, ?_, ?_, ?_, ?_, ?_⟩, ?_, ⟨?_, ?_⟩, Int.le_refl _, by show (0 : Int) ≤ MaxT; decide, ?_, rfl, List.Pairwise.nil, ?_, by simp, Int.le_refl _⟩, rfl, rfl, rfl, rfl⟩ ?_ ?_
    · exact x3 _ _ (x2 _ _ hm1 id) nm
    · intro j hj; exact Own.nil
    · intro j j' b _ _ hx; cases hx
    · intro j hj p hp; cases hp
    · intro j j' p p' _ _ hp; cases hp
    · intro j h0 hj; cases hj
    · intro j hj b hb; cases hb
    · intro j hj b hb; cases hb
    · intro b; constructor
      · intro hx; cases hx
      · rintro ⟨j, hj, hx⟩; cases hx
    · intro b hb; cases hb
    · refine ((x1.then x2 (fun x o _ e => e)).then x3 ?_)
      rintro x o ho rfl; rw [nW] at ho; cases ho
    · rintro x (e | e | ⟨j, hj, e⟩ | ⟨j, hj, e⟩)
      · subst e; exact nW
      · subst e; exact em
      · cases e
      · cases e
  exact hcells _ (by rfl)

end Go.Proofs.Ytfnlldbaplakoaa

/-
  The wheel's Advance.
-/
set_option linter.unusedSimpArgs false
set_option linter.unusedVariables false
namespace Go.Proofs.Ytfnlldbaplakoaa
open Go Go.Hw

/-! ### rows of what is fired -/
def frc (t : Tm) : List Value := [.int .i64 t.tim, .int .i64 t.id, .int .i64 t.tag]
abbrev frs (l : List Tm) : List Value := l.flatMap frc
theorem frs_len : ∀ l : List Tm, (frs l).length = l.length * 3 := by
  intro l
  induction l with
  | nil => rfl
  | cons a l ih => simp [frs, frc] at ih ⊢; omega
theorem frs_get : ∀ {l : List Tm} {k : Nat} {t : Tm}, l[k]? = some t → (frs l)[k * 3]? = some (.int .i64 t.tim) ∧ (frs l)[k * 3 + 1]? = some (.int .i64 t.id) ∧ (frs l)[k * 3 + 2]? = some (.int .i64 t.tag) := by
  intro l
  induction l with
  | nil => intro k t h; simp at h
  | cons a l ih =>
    intro k t h
    cases k with
    | zero => simp at h; subst h; simp [frs, frc]
    | succ k =>
      have := ih (k := k) (t := t) (by simpa using h)
      have e : ∀ j, (frs (a :: l))[(k + 1) * 3 + j]? = (frs l)[k * 3 + j]? := by
        intro j
        show (frc a ++ frs l)[_]? = _
        rw [List.getElem?_append_right (by simp [frc]; omega)]
        congr 1; simp [frc]; omega
      have e0 := e 0
      simp only [Nat.add_zero] at e0
      rw [e0, e 1, e 2]; exact this
theorem p44a : Try.prog.cellsOf 44 = 3 := by kernel_rfl
theorem p44z : (zc Try.prog 44).length = 3 := by kernel_rfl
theorem p44b : Try.prog.bytesOf 44 = 24 := by kernel_rfl
/-- append of one that is fired -/
theorem app3 {s : Sl} {vs : List Value} {h : Hp} {F : Sl → Hp → Prop} {t : Tm} {b0 : Nat} (ho : Own h 44 3 s vs) (hb : Blk h b0 44 (frc t)) (hlen : s.n ≤ 1099511627776)
    (hF : ∀ s' h', Own h' 44 3 s' (vs ++ frc t) → s'.n = s.n + 1 → Ext (fun b => s.p = some (bk b)) h h' → (∀ b, s'.p = some (bk b) → s.p = some (bk b) ∨ h b = none) → F s' h') :
    apK Try.prog 44 s (.slice (some (bk b0)) 1 1) h F := by
  refine apK_own (n := 1) (ns := frc t) ho p44a p44z (fun _ => rfl) ?_ rfl (by simp [frc, plain]) (by rw [p44b]; omega) hF
  intro G hG
  have : rdN h (bk b0) 0 (1 * 3) = some (frc t) := by
    have := rdN_blk hb 3 0 (by simp [frc])
    simpa [frc] using this
  unfold srcK
  simp only [this]; exact hG

/-! ### time goes on -/
theorem c31' {W : Nat} {to : Int} {tm : Nat → Tm} {w : WS} {bl : List Nat} {h : Hp} {K : Hp → Prop} (H : Wh h W tm w bl) (hto : w.now ≤ to) (hto1 : to ≤ MaxT) (hall : ∀ b ∈ bl, to ≤ (tm b).tim)
    (hK : ∀ h' w', Wh h' W tm w' bl → w'.now = to → w'.last = w.last → Ext (FP W w) h h' → (∀ x, FP W w' x → FP W w x ∨ h x = none) → K h') : C31 (some (bk W)) to h K := by
  have n0 := H.n0
  have hl := H.len
  refine c31 (bl := bl) H.M H.heap H.pl n0 hto hto1 (fun j hj b hb => hall b ((H.all b).2 ⟨j, hj, hb⟩)) (fun j hj b hb => (H.all b).2 ⟨j, hj, hb⟩) (by omega) ?_
  intro h' w' M' mv pl' heap' ex fp
  refine hK h' w' ⟨M', heap', pl', by rw [mv.now]; omega, by rw [mv.now]; exact hto1, fun b => by rw [H.all b, mv.all b], by rw [mv.es]; exact H.es, H.ids, fun b hb => by rw [mv.last]; exact H.idl b hb, H.len, by rw [mv.last]; exact H.l0⟩ mv.now mv.last ex fp

def fire (to : Int) : Nat → List Tm → List Tm × List Tm
  | 0, ts => ([], ts)
  | n + 1, ts => match first ts with
    | some t => if t.tim ≤ to then (t :: (fire to n (ts.filter (fun x => x.id != t.id))).1, (fire to n (ts.filter (fun x => x.id != t.id))).2) else ([], ts)
    | none => ([], ts)
def advTs (a : St) (t : Int) : List Tm × List Tm := fire (clampT a.now t) a.ts.length a.ts
def advanced (a : St) (t : Int) : St := ⟨clampT a.now t, a.last, (advTs a t).2⟩

theorem fire_end {to : Int} {n : Nat} {ts : List Tm} (h : ∀ t, first ts = some t → ¬ t.tim ≤ to) : fire to n ts = ([], ts) := by
  cases n with
  | zero => rfl
  | succ n =>
    simp only [fire]
    split
    · rename_i t ht; rw [if_neg (h t ht)]
    · rfl

theorem first_none {l : List Tm} (h : first l = none) : l = [] := by
  cases l with
  | nil => rfl
  | cons a l => simp [first] at h
theorem first_mem {tm : Nat → Tm} {bl : List Nat} {b : Nat} (hid : bl.Pairwise (fun a b => (tm a).id < (tm b).id)) (h : first (bl.map tm) = some (tm b)) : ∀ x ∈ bl, (tm b).tim ≤ (tm x).tim := by
  have hp : (bl.map tm).Pairwise (fun a b => a.id < b.id) := by rw [List.pairwise_map]; exact hid
  cases bl with
  | nil => intro x hx; cases hx
  | cons c l =>
    simp only [List.map_cons, first] at hp h
    obtain ⟨a1, a2⟩ := foldl_pick hp
    intro x hx
    have := a2 (tm x) (by have := List.mem_map_of_mem (f := tm) hx; simpa using this)
    simp only [Option.some.injEq] at h
    rw [h] at this; omega

theorem c14' {W : Nat} {t : Int} {a : St} {F : Nat → Prop} {h : Hp} {K : Sl → Hp → Prop} (H : Whl h W a F)
    (hK : ∀ h' F' s, Whl h' W (advanced a t) F' → Own h' 44 3 s (frs (advTs a t).1) → (∀ x, s.p = some (bk x) → ¬ F' x ∧ (F x ∨ h x = none)) → Ext F h h' → (∀ x, F' x → F x ∨ h x = none) → K s h') : C14 (some (bk W)) t h K := by
  obtain ⟨tm, w, bl, H, e1, e2, e3, rfl⟩ := H
  apply S14; unfold N14
  refine c27 H.M.hW wl_0 H.n1 ?_
  have hcl := clamp_bd (t := t) H.n1
  have adv : advTs a t = fire (clampT w.now t) (bl.map tm).length (bl.map tm) := by unfold advTs; rw [e1, e3]
  have hK2 : ∀ h' w' s, (∃ bl', Wh h' W tm w' bl' ∧ w'.now = clampT w.now t ∧ w'.last = w.last ∧ bl'.map tm = (fire (clampT w.now t) (bl.map tm).length (bl.map tm)).2) →
      Own h' 44 3 s (frs (fire (clampT w.now t) (bl.map tm).length (bl.map tm)).1) → (∀ x, s.p = some (bk x) → ¬ FP W w' x ∧ (FP W w x ∨ h x = none)) → Ext (FP W w) h h' → (∀ x, FP W w' x → FP W w x ∨ h x = none) → K s h' := by
    rintro h' w' s ⟨bl', H', f1, f2, f3⟩ ho hf ex fp
    refine hK h' (FP W w') s ⟨tm, w', bl', H', ?_, ?_, ?_, rfl⟩ (by rw [adv]; exact ho) hf ex fp
    · show clampT a.now t = _; rw [f1, e1]
    · show a.last = _; rw [f2, e2]
    · show (advTs a t).2 = _; rw [adv, f3]
  clear hK
  clear adv e3 e2 e1 a
  generalize clampT w.now t = to at *
  have lenb := H.len
  -- the loop's state
  have loop : ∀ (s : Sl) (p : Option Addr) (hc : Hp),
      (∃ wc blc out, Wh hc W tm wc blc ∧ wc.now ≤ to ∧ wc.last = w.last ∧ Own hc 44 3 s (frs out) ∧ (∀ x, s.p = some (bk x) → ¬ FP W wc x ∧ (FP W w x ∨ h x = none)) ∧ Ext (FP W w) h hc ∧ (∀ x, FP W wc x → FP W w x ∨ h x = none) ∧
        blc.length ≤ bl.length ∧ s.n + blc.length ≤ 1024 ∧ (out ++ (fire to blc.length (blc.map tm)).1 = (fire to (bl.map tm).length (bl.map tm)).1 ∧ (fire to blc.length (blc.map tm)).2 = (fire to (bl.map tm).length (bl.map tm)).2) ∧
        (p = none ∧ blc = [] ∨ ∃ b, p = some (bk b) ∧ b ∈ blc ∧ first (blc.map tm) = some (tm b))) →
      N14_l0 (some (bk W)) to s p hc (fun s0 h2 => C31 (some (bk W)) to h2 fun h3 => K s0 h3) := by
    intro s p hc h0
    unfold N14_l0
    refine loopP_inv (fun (x : Sl × Option Addr) hc => ∃ wc blc out, Wh hc W tm wc blc ∧ wc.now ≤ to ∧ wc.last = w.last ∧ Own hc 44 3 x.1 (frs out) ∧ (∀ b, x.1.p = some (bk b) → ¬ FP W wc b ∧ (FP W w b ∨ h b = none)) ∧ Ext (FP W w) h hc ∧ (∀ x, FP W wc x → FP W w x ∨ h x = none) ∧
        blc.length ≤ bl.length ∧ x.1.n + blc.length ≤ 1024 ∧ (out ++ (fire to blc.length (blc.map tm)).1 = (fire to (bl.map tm).length (bl.map tm)).1 ∧ (fire to blc.length (blc.map tm)).2 = (fire to (bl.map tm).length (bl.map tm)).2) ∧
        (x.2 = none ∧ blc = [] ∨ ∃ b, x.2 = some (bk b) ∧ b ∈ blc ∧ first (blc.map tm) = some (tm b)))
      (fun x _ => 1024 - x.1.n) ?_ h0
    clear h0 s p hc
    rintro ⟨s, p⟩ hc ⟨wc, blc, out, Hc, hnow, hlast, hown, hfr, hex, hfp, hle, hn, ⟨hf1, hf2⟩, hp⟩
    simp only at hown hfr hn hp
    have stop : (∀ u, first (blc.map tm) = some u → ¬ u.tim ≤ to) → C31 (some (bk W)) to hc fun h3 => K s h3 := by
      intro hs
      have hend : fire to blc.length (blc.map tm) = ([], blc.map tm) := fire_end hs
      rw [hend] at hf1 hf2
      have hall : ∀ b ∈ blc, to ≤ (tm b).tim := by
        intro b hb
        rcases hp with ⟨_, e⟩ | ⟨c, _, hc', hfc⟩
        · rw [e] at hb; cases hb
        · have h1 := hs _ hfc
          have h2 := first_mem Hc.ids hfc b hb
          omega
      refine c31' Hc hnow hcl.2 hall ?_
      intro h3 w3 H3 n3 l3 x3 fp3
      have own3 : Own h3 44 3 s (frs out) := hown.ext x3 (fun b hb => (hfr b hb).1)
      rw [List.append_nil] at hf1
      refine hK2 h3 w3 s ⟨blc, H3, n3, l3.trans hlast, hf2⟩ (by rw [← hf1]; exact own3) ?_ ?_ ?_
      · intro x hx
        refine ⟨?_, (hfr x hx).2⟩
        intro hx3
        rcases fp3 x hx3 with e | e
        · exact (hfr x hx).1 e
        · have h4 := hown.2.2
          rw [hx] at h4
          obtain ⟨_, cs, hb, _⟩ := h4
          unfold Blk at hb
          have hb' : hc x = _ := hb
          rw [e] at hb'; cases hb'
      · intro x o ho hn'
        refine x3 x o (hex x o ho hn') ?_
        intro hx
        rcases hfp x hx with e | e
        · exact hn' e
        · rw [ho] at e; cases e
      · intro x hx
        rcases fp3 x hx with e | e
        · exact hfp x e
        · by_cases hfx : FP W w x
          · exact .inl hfx
          · right
            cases hq : h x with
            | none => rfl
            | some o => have := hex x o hq hfx; rw [e] at this; cases this
    unfold N14_l0_B N14_l0_b
    rcases hp with ⟨rfl, rfl⟩ | ⟨b, rfl, hb, hfb⟩
    · simp only [peq_none, Option.isNone_none, Bool.not_true, cond_false]
      refine stop ?_
      intro u hu; simp [first] at hu
    · obtain ⟨j, hj, hbj⟩ := (Hc.all b).1 hb
      obtain ⟨pl, hbb⟩ := Hc.M.tblk hj hbj
      have cb : cell hc (bk b) = some (.int .i64 (tm b).tim) := by rw [hbb.cell]; rfl
      simp only [peq_none, Option.isNone_some, Bool.not_false, cond_true, nn_some', cb, xI_some]
      by_cases hle2 : (tm b).tim ≤ to
      · have : decide ((tm b).tim ≤ to) = true := by simpa using hle2
        rw [this, cond_true]
        have htb := Hc.pl.tim j hj b hbj
        refine c31' Hc htb.1 htb.2 (first_mem Hc.ids hfb) ?_
        intro h1 w1 H1 n1 l1 x1 fp1
        refine c29' H1 hb ?_
        rintro h2 w2 H2 n2 l2 x2 fp2 ⟨lv, pl2, hb2⟩
        have cb2 : cell h2 (bk b) = some (.int .i64 (tm b).tim) := by rw [hb2.cell]; rfl
        simp only [add_bk, cb2, hb2.cell, tc, List.getElem?_cons_succ, List.getElem?_cons_zero, xI_some]
        intro b0 e0
        have x3 : Ext none' h2 (upd h2 b0 (.cells ⟨frc (tm b)⟩ 44)) := Ext.new e0
        have hb3 : Blk (upd h2 b0 (.cells ⟨frc (tm b)⟩ 44)) b0 44 (frc (tm b)) := Blk.upd_same
        change apK Try.prog 44 s (.slice (some (bk b0)) 1 1) (upd h2 b0 (.cells ⟨frc (tm b)⟩ 44)) _
        revert x3 hb3
        generalize upd h2 b0 _ = h3
        intro x3 hb3
        have rowc : ∀ x, s.p = some (bk x) → hc x ≠ none := by
          intro x hx
          have h4 := hown.2.2
          rw [hx] at h4
          obtain ⟨_, cs, hb', _⟩ := h4
          unfold Blk at hb'
          have hb'' : hc x = _ := hb'
          rw [hb'']; intro e; cases e
        have row1 : ∀ x, s.p = some (bk x) → ¬ FP W w1 x := by
          intro x hx hx1
          rcases fp1 x hx1 with e | e
          · exact (hfr x hx).1 e
          · exact rowc x hx e
        have row2 : ∀ x, s.p = some (bk x) → ¬ FP W w2 x := fun x hx hx2 => row1 x hx (fp2 x hx2)
        have own3 : Own h3 44 3 s (frs out) := ((hown.ext x1 (fun x hx => (hfr x hx).1)).ext x2 (fun x hx => row1 x hx)).ext x3 (fun _ _ => id)
        have W3 : Wh h3 W tm w2 (blc.erase b) := ⟨H2.M.ext0 x3, H2.heap, H2.pl, H2.n0, H2.n1, H2.all, H2.es, H2.ids, H2.idl, H2.len, H2.l0⟩
        refine app3 own3 hb3 (by omega) ?_
        intro s' h4 own4 hn4 x4 hrow4
        have W4 : Wh h4 W tm w2 (blc.erase b) := ⟨W3.M.ext x4 (fun x hx e => row2 x e hx), H2.heap, H2.pl, H2.n0, H2.n1, H2.all, H2.es, H2.ids, H2.idl, H2.len, H2.l0⟩
        have lene : (blc.erase b).length + 1 = blc.length := by
          have := List.length_erase_of_mem hb
          have := List.length_pos_of_mem hb
          omega
        have ex3 : ∀ x o, h x = some o → ¬ FP W w x → h3 x = some o := by
          intro x o ho hn'
          have q1 := hex x o ho hn'
          have nfc : ¬ FP W wc x := by
            intro hx
            rcases hfp x hx with e | e
            · exact hn' e
            · rw [ho] at e; cases e
          have q2 := x1 x o q1 nfc
          have nf1 : ¬ FP W w1 x := by
            intro hx
            rcases fp1 x hx with e | e
            · exact nfc e
            · rw [q1] at e; cases e
          exact x3 x o (x2 x o q2 nf1) id
        have ex4 : ∀ x o, h x = some o → ¬ FP W w x → h4 x = some o := by
          intro x o ho hn'
          refine x4 x o (ex3 x o ho hn') ?_
          intro hx
          rcases (hfr x hx).2 with e | e
          · exact hn' e
          · rw [ho] at e; cases e
        have hfp2 : ∀ x, FP W w2 x → FP W w x ∨ h x = none := by
          intro x hx
          rcases fp1 x (fp2 x hx) with e | e
          · exact hfp x e
          · by_cases hfx : FP W w x
            · exact .inl hfx
            · right
              cases hq : h x with
              | none => rfl
              | some o => have := hex x o hq hfx; rw [e] at this; cases this
        have hfr4 : ∀ x, s'.p = some (bk x) → ¬ FP W w2 x ∧ (FP W w x ∨ h x = none) := by
          intro x hx
          rcases hrow4 x hx with e | e
          · exact ⟨row2 x e, (hfr x e).2⟩
          · refine ⟨fun hx2 => W3.M.there hx2 e, ?_⟩
            by_cases hfx : FP W w x
            · exact .inl hfx
            · right
              cases hq : h x with
              | none => rfl
              | some o => have := ex3 x o hq hfx; rw [e] at this; cases this
        have fl4 : frs out ++ frc (tm b) = frs (out ++ [tm b]) := by simp [frs]
        rw [fl4] at own4
        have step1 : fire to blc.length (blc.map tm) = (tm b :: (fire to (blc.erase b).length ((blc.erase b).map tm)).1, (fire to (blc.erase b).length ((blc.erase b).map tm)).2) := by
          rw [← lene]
          simp only [fire, hfb]
          rw [if_pos hle2, erase_map Hc.ids hb]
        rw [step1] at hf1 hf2
        have hf1' : (out ++ [tm b]) ++ (fire to (blc.erase b).length ((blc.erase b).map tm)).1 = (fire to (bl.map tm).length (bl.map tm)).1 := by rw [← hf1]; simp
        refine c30' W4 ?_ ?_
        · intro h5 he x5
          refine ⟨⟨w2, blc.erase b, out ++ [tm b], ⟨W4.M.ext0 x5, H2.heap, H2.pl, H2.n0, H2.n1, H2.all, H2.es, H2.ids, H2.idl, H2.len, H2.l0⟩, by rw [n2, n1]; exact hle2, l2.trans (l1.trans hlast), own4.ext x5 (fun _ _ => id), hfr4, Ext.trans ex4 (x5.mono (fun _ _ _ => False.elim)), hfp2, by omega, by show s'.n + _ ≤ _; omega, ⟨hf1', hf2⟩, .inl ⟨rfl, he⟩⟩, by show 1024 - s'.n < 1024 - s.n; omega⟩
        · intro h5 c hc' hfc x5
          refine ⟨⟨w2, blc.erase b, out ++ [tm b], ⟨W4.M.ext0 x5, H2.heap, H2.pl, H2.n0, H2.n1, H2.all, H2.es, H2.ids, H2.idl, H2.len, H2.l0⟩, by rw [n2, n1]; exact hle2, l2.trans (l1.trans hlast), own4.ext x5 (fun _ _ => id), hfr4, Ext.trans ex4 (x5.mono (fun _ _ _ => False.elim)), hfp2, by omega, by show s'.n + _ ≤ _; omega, ⟨hf1', hf2⟩, .inr ⟨c, rfl, hc', hfc⟩⟩, by show 1024 - s'.n < 1024 - s.n; omega⟩
      · have : decide ((tm b).tim ≤ to) = false := by simpa using hle2
        rw [this, cond_false]
        refine stop ?_
        intro u hu
        rw [hfb] at hu
        simp only [Option.some.injEq] at hu
        subst hu; exact hle2
  refine c30' H ?_ ?_
  · intro h1 he x1
    refine loop _ _ _ ⟨w, bl, [], ⟨H.M.ext0 x1, H.heap, H.pl, H.n0, H.n1, H.all, H.es, H.ids, H.idl, H.len, H.l0⟩, hcl.1, rfl, Own.nil, (by intro x hx; cases hx), x1.mono (fun _ _ _ => False.elim), fun x hx => .inl hx, Nat.le_refl _, by show 0 + _ ≤ _; omega, by simp, .inl ⟨rfl, he⟩⟩
  · intro h1 b hb hfb x1
    refine loop _ _ _ ⟨w, bl, [], ⟨H.M.ext0 x1, H.heap, H.pl, H.n0, H.n1, H.all, H.es, H.ids, H.idl, H.len, H.l0⟩, hcl.1, rfl, Own.nil, (by intro x hx; cases hx), x1.mono (fun _ _ _ => False.elim), fun x hx => .inl hx, Nat.le_refl _, by show 0 + _ ≤ _; omega, by simp, .inr ⟨b, rfl, hb, hfb⟩⟩

end Go.Proofs.Ytfnlldbaplakoaa

set_option linter.unusedVariables false
set_option maxRecDepth 100000
namespace Go.Proofs.Ytfnlldbaplakoaa
open Go Go.Hw
/-! ### 9 slipway/slipwayref07.New -/
noncomputable def B9 : Code := match Try.f9.body with | some c => c | none => .skip
def N9  (h : Hp) (K : Option Addr → Hp → Prop) : Prop :=
  nw h (.cells ⟨[.int .i64 0, .slice none 0 0, .int .i64 0]⟩ 60) fun b0 h0 =>
  K (some (bk b0)) h0
theorem S9 {h : Hp} {K : Option Addr → Hp → Prop} (hn : N9 h K) : C9 h K := by
  refine calls_of_D Try.func9 (c := B9) rfl (by kernel_rfl) ?_
  refine den_sound hE hm _ .leaf _ _ _ (annOk_leaf) ?_
  refine cast ?_ hn
  kernel_rfl
end Go.Proofs.Ytfnlldbaplakoaa

set_option linter.unusedVariables false
set_option maxRecDepth 100000
namespace Go.Proofs.Ytfnlldbaplakoaa
open Go Go.Hw
/-! ### 18 slipway/slipwayref07.Same -/
noncomputable def B18 : Code := match Try.f18.body with | some c => c | none => .skip
def N18_l0_b (x0_a : Sl) (x1_b : Sl) (Φ : Int → Hp → Prop) (x5_i : Int) (h : Hp) (K_e0 : Hp → Prop) (K_ret : Bool → Hp → Prop) : Prop :=
  bif (decide (x5_i < ((x0_a.n : Nat) : Int))) then
    idx x5_i x0_a.n <|
    nn x0_a.p fun a0 =>
    xI .i64 (cell h (a0.add (x5_i.toNat * 3))) fun n0 =>
    xI .i64 (cell h ((a0.add (x5_i.toNat * 3)).add 1)) fun n1 =>
    xI .i64 (cell h ((a0.add (x5_i.toNat * 3)).add 2)) fun n2 =>
    idx x5_i x1_b.n <|
    nn x1_b.p fun a1 =>
    xI .i64 (cell h (a1.add (x5_i.toNat * 3))) fun n3 =>
    xI .i64 (cell h ((a1.add (x5_i.toNat * 3)).add 1)) fun n4 =>
    xI .i64 (cell h ((a1.add (x5_i.toNat * 3)).add 2)) fun n5 =>
    bif (!((n0 == n3) && ((n1 == n4) && ((n2 == n5) && true)))) then
      K_ret false h
    else
      Φ (IntKind.wrap .i64 (x5_i + 1)) h
  else
    K_e0 h
def N18_l0_B (x0_a : Sl) (x1_b : Sl) (K_e0 : Hp → Prop) (K_ret : Bool → Hp → Prop) (s : Sg.T [(5, .c (.int .i64))]) (h : Hp) (Φ : Sg.T [(5, .c (.int .i64))] → Hp → Prop) : Prop :=
  N18_l0_b x0_a x1_b (fun x5_i h => Φ x5_i h) s h K_e0 K_ret
def N18_l0 (x0_a : Sl) (x1_b : Sl) (x5_i : Int) (h : Hp) (K_e0 : Hp → Prop) (K_ret : Bool → Hp → Prop) : Prop :=
  loopP (N18_l0_B x0_a x1_b K_e0 K_ret) x5_i h
noncomputable def N18_l0_t : Xf := loopT [(0, .c (.slice)), (1, .c (.slice))] [(5, .c (.int .i64))] (codeAt B18 [1, 1, 0, 1, 0, 0]) fun F Q => N18_l0_B F.1 F.2 (fun h' => Q (.exit 0) (Sg.env [] ()) h') (fun o0 h' => Q .ret (Sg.env [(4, .c (.bool))] o0) h')
theorem N18_l0_ok : Sound Try.prog Try.f18.ntmps N18_l0_t (codeAt B18 [1, 1, 0, 1, 0]) := by
  refine loop_sound (fun e => match e with | .exit 0 => [] | .ret => [4] | _ => []) (by kernel_rfl) ?_
  intro F Q s h Φ hb
  refine den_sound hE hm _ (.two .leaf (.two (.one (.two (.ord [0, 1, 2, 3, 4, 5, 6, 7, 8]) .leaf)) .leaf)) _ _ _ (⟨annOk_leaf, ⟨⟨trivial, annOk_leaf⟩, annOk_leaf⟩⟩) ?_
  refine cast ?_ hb
  kernel_rfl
def N18 (x0 : Sl) (x1 : Sl) (h : Hp) (K : Bool → Hp → Prop) : Prop :=
  bif (((x0.n : Nat) : Int) != ((x1.n : Nat) : Int)) then
    K false h
  else
    N18_l0 x0 x1 0 h
      (fun h0 =>
        K true h0)
      (fun b0 h1 =>
        K b0 h1)
theorem S18 {x0 : Sl} {x1 : Sl} {h : Hp} {K : Bool → Hp → Prop} (hn : N18 x0 x1 h K) : C18 x0 x1 h K := by
  refine calls_of_D Try.func18 (c := B18) rfl (by kernel_rfl) ?_
  refine den_sound hE hm _ (.two .leaf (.two .leaf (.two (.two .leaf (.one (.xf N18_l0_t))) .leaf))) _ _ _ (⟨annOk_leaf, ⟨annOk_leaf, ⟨⟨annOk_leaf, N18_l0_ok⟩, annOk_leaf⟩⟩⟩) ?_
  refine cast ?_ hn
  kernel_rfl
end Go.Proofs.Ytfnlldbaplakoaa

set_option linter.unusedVariables false
set_option maxRecDepth 100000
namespace Go.Proofs.Ytfnlldbaplakoaa
open Go Go.Hw
/-! ### 20 (*slipway/slipwayref07.Wheel).Arm -/
noncomputable def B20 : Code := match Try.f20.body with | some c => c | none => .skip
def N20 (x0 : Option Addr) (x1 : Int) (x2 : Int) (h : Hp) (K : Int → Int → Hp → Prop) : Prop :=
  nn x0 fun a0 =>
  xL (cell h (a0.add 1)) fun s0 =>
  bif (decide (((s0.n : Nat) : Int) ≥ 1024)) then
    K 0 70 h
  else
    nn x0 fun a1 =>
    xI .i64 (cell h (a1.add 2)) fun n0 =>
    nn x0 fun a2 =>
    st h (a2.add 2) (.int .i64 (IntKind.wrap .i64 (n0 + 1))) fun h0 =>
    C33 x0 x1 h0 fun n1 h1 =>
    nn x0 fun a3 =>
    xL (cell h1 (a3.add 1)) fun s1 =>
    nn x0 fun a4 =>
    xI .i64 (cell h1 (a4.add 2)) fun n2 =>
    nw h1 (.cells ⟨[.int .i64 n1, .int .i64 n2, .int .i64 x2]⟩ 44) fun b0 h2 =>
    both (xL (cell h2 (a3.add 1)) fun s2 => Only (.slice s1.p s1.n s1.c) h2 (.slice s2.p s2.n s2.c) h2) <|
    apK Try.prog 44 s1 (.slice (some (bk b0)) 1 1) h2 fun s3 h3 =>
    nn x0 fun a5 =>
    st h3 (a5.add 1) (.slice s3.p s3.n s3.c) fun h4 =>
    nn x0 fun a6 =>
    xI .i64 (cell h4 (a6.add 2)) fun n3 =>
    K n3 0 h4
theorem S20 {x0 : Option Addr} {x1 : Int} {x2 : Int} {h : Hp} {K : Int → Int → Hp → Prop} (hn : N20 x0 x1 x2 h K) : C20 x0 x1 x2 h K := by
  refine calls_of_D Try.func20 (c := B20) rfl (by kernel_rfl) ?_
  refine den_sound hE hm _ (.two .leaf (.two .leaf (.two .leaf (.two .leaf (.two (.ord [0, 1, 2, 3, 4, 5, 6, 7, 8, 9, 10, 11, 12, 13, 14, 15, 16]) .leaf))))) _ _ _ (⟨annOk_leaf, ⟨annOk_leaf, ⟨annOk_leaf, ⟨annOk_leaf, ⟨trivial, annOk_leaf⟩⟩⟩⟩⟩) ?_
  refine cast ?_ hn
  kernel_rfl
end Go.Proofs.Ytfnlldbaplakoaa

set_option linter.unusedVariables false
set_option maxRecDepth 100000
namespace Go.Proofs.Ytfnlldbaplakoaa
open Go Go.Hw
/-! ### 21 (*slipway/slipwayref07.Wheel).Cancel -/
noncomputable def B21 : Code := match Try.f21.body with | some c => c | none => .skip
def N21_l0_b (x0_w : Option Addr) (x1_id : Int) (Φ : Sl → Int → Hp → Prop) (x5_out : Sl) (x6_i : Int) (h : Hp) (K_e0 : Sl → Hp → Prop) : Prop :=
  nn x0_w fun a0 =>
  xL (cell h (a0.add 1)) fun s0 =>
  bif (decide (x6_i < ((s0.n : Nat) : Int))) then
    nn x0_w fun a1 =>
    xL (cell h (a1.add 1)) fun s1 =>
    idx x6_i s1.n <|
    nn s1.p fun a2 =>
    xI .i64 (cell h ((a2.add (x6_i.toNat * 3)).add 1)) fun n0 =>
    bif (n0 != x1_id) then
      nn x0_w fun a3 =>
      xL (cell h (a3.add 1)) fun s2 =>
      idx x6_i s2.n <|
      nn s2.p fun a4 =>
      xI .i64 (cell h (a4.add (x6_i.toNat * 3))) fun n1 =>
      xI .i64 (cell h ((a4.add (x6_i.toNat * 3)).add 1)) fun n2 =>
      xI .i64 (cell h ((a4.add (x6_i.toNat * 3)).add 2)) fun n3 =>
      nw h (.cells ⟨[.int .i64 n1, .int .i64 n2, .int .i64 n3]⟩ 44) fun b0 h0 =>
      apK Try.prog 44 x5_out (.slice (some (bk b0)) 1 1) h0 fun s3 h1 =>
      Φ s3 (IntKind.wrap .i64 (x6_i + 1)) h1
    else
      Φ x5_out (IntKind.wrap .i64 (x6_i + 1)) h
  else
    K_e0 x5_out h
def N21_l0_B (x0_w : Option Addr) (x1_id : Int) (K_e0 : Sl → Hp → Prop) (s : Sg.T [(5, .c (.slice)), (6, .c (.int .i64))]) (h : Hp) (Φ : Sg.T [(5, .c (.slice)), (6, .c (.int .i64))] → Hp → Prop) : Prop :=
  N21_l0_b x0_w x1_id (fun x5_out x6_i h => Φ (x5_out, x6_i) h) s.1 s.2 h K_e0
def N21_l0 (x0_w : Option Addr) (x1_id : Int) (x5_out : Sl) (x6_i : Int) (h : Hp) (K_e0 : Sl → Hp → Prop) : Prop :=
  loopP (N21_l0_B x0_w x1_id K_e0) (x5_out, x6_i) h
noncomputable def N21_l0_t : Xf := loopT [(0, .c (.ptr)), (1, .c (.int .i64))] [(5, .c (.slice)), (6, .c (.int .i64))] (codeAt B21 [1, 1, 0, 1, 0, 0]) fun F Q => N21_l0_B F.1 F.2 (fun o0 h' => Q (.exit 0) (Sg.env [(5, .c (.slice))] o0) h')
theorem N21_l0_ok : Sound Try.prog Try.f21.ntmps N21_l0_t (codeAt B21 [1, 1, 0, 1, 0]) := by
  refine loop_sound (fun e => match e with | .exit 0 => [5] | _ => []) (by kernel_rfl) ?_
  intro F Q s h Φ hb
  refine den_sound hE hm _ .leaf _ _ _ (annOk_leaf) ?_
  refine cast ?_ hb
  kernel_rfl
def N21 (x0 : Option Addr) (x1 : Int) (h : Hp) (K : Bool → Hp → Prop) : Prop :=
  N21_l0 x0 x1 ⟨none, 0, 0⟩ 0 h
    (fun s0 h0 =>
      nn x0 fun a0 =>
      xL (cell h0 (a0.add 1)) fun s1 =>
      nn x0 fun a1 =>
      st h0 (a1.add 1) (.slice s0.p s0.n s0.c) fun h1 =>
      K (decide (((s0.n : Nat) : Int) < ((s1.n : Nat) : Int))) h1)
theorem S21 {x0 : Option Addr} {x1 : Int} {h : Hp} {K : Bool → Hp → Prop} (hn : N21 x0 x1 h K) : C21 x0 x1 h K := by
  refine calls_of_D Try.func21 (c := B21) rfl (by kernel_rfl) ?_
  refine den_sound hE hm _ (.two .leaf (.two .leaf (.two (.two .leaf (.one (.xf N21_l0_t))) .leaf))) _ _ _ (⟨annOk_leaf, ⟨annOk_leaf, ⟨⟨annOk_leaf, N21_l0_ok⟩, annOk_leaf⟩⟩⟩) ?_
  refine cast ?_ hn
  kernel_rfl
end Go.Proofs.Ytfnlldbaplakoaa

set_option linter.unusedVariables false
set_option maxRecDepth 100000
namespace Go.Proofs.Ytfnlldbaplakoaa
open Go Go.Hw
/-! ### 22 (*slipway/slipwayref07.Wheel).Advance -/
noncomputable def B22 : Code := match Try.f22.body with | some c => c | none => .skip
def N22_l0_b (x0_w : Option Addr) (Φ : Sl → Hp → Prop) (x5_out : Sl) (h : Hp) (K_ret : Sl → Hp → Prop) : Prop :=
  C34 x0_w h fun n0 h0 =>
  bif (decide (n0 < 0)) then
    K_ret x5_out h0
  else
    nn x0_w fun a0 =>
    xL (cell h0 (a0.add 1)) fun s0 =>
    idx n0 s0.n <|
    nn s0.p fun a1 =>
    xI .i64 (cell h0 (a1.add (n0.toNat * 3))) fun n1 =>
    nn x0_w fun a2 =>
    xI .i64 (cell h0 a2) fun n2 =>
    bif (decide (n1 > n2)) then
      K_ret x5_out h0
    else
      nn x0_w fun a3 =>
      xL (cell h0 (a3.add 1)) fun s1 =>
      idx n0 s1.n <|
      nn s1.p fun a4 =>
      xI .i64 (cell h0 (a4.add (n0.toNat * 3))) fun n3 =>
      xI .i64 (cell h0 ((a4.add (n0.toNat * 3)).add 1)) fun n4 =>
      xI .i64 (cell h0 ((a4.add (n0.toNat * 3)).add 2)) fun n5 =>
      nw h0 (.cells ⟨[.int .i64 n3, .int .i64 n4, .int .i64 n5]⟩ 44) fun b0 h1 =>
      apK Try.prog 44 x5_out (.slice (some (bk b0)) 1 1) h1 fun s2 h2 =>
      nn x0_w fun a5 =>
      xL (cell h2 (a5.add 1)) fun s3 =>
      idx n0 s3.n <|
      nn s3.p fun a6 =>
      xI .i64 (cell h2 ((a6.add (n0.toNat * 3)).add 1)) fun n6 =>
      C21 x0_w n6 h2 fun b1 h3 =>
      Φ s2 h3
def N22_l0_B (x0_w : Option Addr) (K_ret : Sl → Hp → Prop) (s : Sg.T [(5, .c (.slice))]) (h : Hp) (Φ : Sg.T [(5, .c (.slice))] → Hp → Prop) : Prop :=
  N22_l0_b x0_w (fun x5_out h => Φ x5_out h) s h K_ret
def N22_l0 (x0_w : Option Addr) (x5_out : Sl) (h : Hp) (K_ret : Sl → Hp → Prop) : Prop :=
  loopP (N22_l0_B x0_w K_ret) x5_out h
noncomputable def N22_l0_t : Xf := loopT [(0, .c (.ptr))] [(5, .c (.slice))] (codeAt B22 [1, 1, 1, 0, 0]) fun F Q => N22_l0_B F (fun o0 h' => Q .ret (Sg.env [(4, .c (.slice))] o0) h')
theorem N22_l0_ok : Sound Try.prog Try.f22.ntmps N22_l0_t (codeAt B22 [1, 1, 1, 0]) := by
  refine loop_sound (fun e => match e with | .ret => [4] | _ => []) (by kernel_rfl) ?_
  intro F Q s h Φ hb
  refine den_sound hE hm _ (.one (.two .leaf (.two (.two (.ord [0, 1, 2, 3, 4, 5, 6, 7, 8, 9, 10, 11, 12, 13, 14, 15, 16]) .leaf) .leaf))) _ _ _ (⟨annOk_leaf, ⟨⟨trivial, annOk_leaf⟩, annOk_leaf⟩⟩) ?_
  refine cast ?_ hb
  kernel_rfl
def N22 (x0 : Option Addr) (x1 : Int) (h : Hp) (K : Sl → Hp → Prop) : Prop :=
  C33 x0 x1 h fun n0 h0 =>
  nn x0 fun a0 =>
  st h0 a0 (.int .i64 n0) fun h1 =>
  N22_l0 x0 ⟨none, 0, 0⟩ h1
    (fun s0 h2 =>
      K s0 h2)
theorem S22 {x0 : Option Addr} {x1 : Int} {h : Hp} {K : Sl → Hp → Prop} (hn : N22 x0 x1 h K) : C22 x0 x1 h K := by
  refine calls_of_D Try.func22 (c := B22) rfl (by kernel_rfl) ?_
  refine den_sound hE hm _ (.two .leaf (.two .leaf (.two .leaf (.one (.xf N22_l0_t))))) _ _ _ (⟨annOk_leaf, ⟨annOk_leaf, ⟨annOk_leaf, N22_l0_ok⟩⟩⟩) ?_
  refine cast ?_ hn
  kernel_rfl
end Go.Proofs.Ytfnlldbaplakoaa

set_option linter.unusedVariables false
set_option maxRecDepth 100000
namespace Go.Proofs.Ytfnlldbaplakoaa
open Go Go.Hw
/-! ### 24 (*slipway/slipwayref07.Wheel).Next -/
noncomputable def B24 : Code := match Try.f24.body with | some c => c | none => .skip
def N24 (x0 : Option Addr) (h : Hp) (K : Int → Bool → Hp → Prop) : Prop :=
  C34 x0 h fun n0 h0 =>
  bif (decide (n0 < 0)) then
    K 0 false h0
  else
    nn x0 fun a0 =>
    xL (cell h0 (a0.add 1)) fun s0 =>
    idx n0 s0.n <|
    nn s0.p fun a1 =>
    xI .i64 (cell h0 (a1.add (n0.toNat * 3))) fun n1 =>
    K n1 true h0
theorem S24 {x0 : Option Addr} {h : Hp} {K : Int → Bool → Hp → Prop} (hn : N24 x0 h K) : C24 x0 h K := by
  refine calls_of_D Try.func24 (c := B24) rfl (by kernel_rfl) ?_
  refine den_sound hE hm _ .leaf _ _ _ (annOk_leaf) ?_
  refine cast ?_ hn
  kernel_rfl
end Go.Proofs.Ytfnlldbaplakoaa

set_option linter.unusedVariables false
set_option maxRecDepth 100000
namespace Go.Proofs.Ytfnlldbaplakoaa
open Go Go.Hw
/-! ### 25 (*slipway/slipwayref07.Wheel).Now -/
noncomputable def B25 : Code := match Try.f25.body with | some c => c | none => .skip
def N25 (x0 : Option Addr) (h : Hp) (K : Int → Hp → Prop) : Prop :=
  nn x0 fun a0 =>
  xI .i64 (cell h a0) fun n0 =>
  K n0 h
theorem S25 {x0 : Option Addr} {h : Hp} {K : Int → Hp → Prop} (hn : N25 x0 h K) : C25 x0 h K := by
  refine calls_of_D Try.func25 (c := B25) rfl (by kernel_rfl) ?_
  refine den_sound hE hm _ .leaf _ _ _ (annOk_leaf) ?_
  refine cast ?_ hn
  kernel_rfl
end Go.Proofs.Ytfnlldbaplakoaa

set_option linter.unusedVariables false
set_option maxRecDepth 100000
namespace Go.Proofs.Ytfnlldbaplakoaa
open Go Go.Hw
/-! ### 26 (*slipway/slipwayref07.Wheel).Len -/
noncomputable def B26 : Code := match Try.f26.body with | some c => c | none => .skip
def N26 (x0 : Option Addr) (h : Hp) (K : Int → Hp → Prop) : Prop :=
  nn x0 fun a0 =>
  xL (cell h (a0.add 1)) fun s0 =>
  K ((s0.n : Nat) : Int) h
theorem S26 {x0 : Option Addr} {h : Hp} {K : Int → Hp → Prop} (hn : N26 x0 h K) : C26 x0 h K := by
  refine calls_of_D Try.func26 (c := B26) rfl (by kernel_rfl) ?_
  refine den_sound hE hm _ .leaf _ _ _ (annOk_leaf) ?_
  refine cast ?_ hn
  kernel_rfl
end Go.Proofs.Ytfnlldbaplakoaa

set_option linter.unusedVariables false
set_option maxRecDepth 100000
namespace Go.Proofs.Ytfnlldbaplakoaa
open Go Go.Hw
/-! ### 33 (*slipway/slipwayref07.Wheel).Counts -/
noncomputable def B33 : Code := match Try.f33.body with | some c => c | none => .skip
def N33 (x0 : Option Addr) (x1 : Int) (h : Hp) (K : Int → Hp → Prop) : Prop :=
  nn x0 fun a0 =>
  xI .i64 (cell h a0) fun n0 =>
  bif (decide (x1 < n0)) then
    nn x0 fun a1 =>
    xI .i64 (cell h a1) fun n1 =>
    K n1 h
  else
    bif (decide (x1 > 1125899906842624)) then
      K 1125899906842624 h
    else
      K x1 h
theorem S33 {x0 : Option Addr} {x1 : Int} {h : Hp} {K : Int → Hp → Prop} (hn : N33 x0 x1 h K) : C33 x0 x1 h K := by
  refine calls_of_D Try.func33 (c := B33) rfl (by kernel_rfl) ?_
  refine den_sound hE hm _ .leaf _ _ _ (annOk_leaf) ?_
  refine cast ?_ hn
  kernel_rfl
end Go.Proofs.Ytfnlldbaplakoaa

set_option linter.unusedVariables false
set_option maxRecDepth 100000
namespace Go.Proofs.Ytfnlldbaplakoaa
open Go Go.Hw
/-! ### 34 (*slipway/slipwayref07.Wheel).first -/
noncomputable def B34 : Code := match Try.f34.body with | some c => c | none => .skip
def N34_l0_b (x0_w : Option Addr) (Φ : Int → Int → Hp → Prop) (x3_k : Int) (x4_i : Int) (h : Hp) (K_e0 : Int → Hp → Prop) : Prop :=
  nn x0_w fun a0 =>
  xL (cell h (a0.add 1)) fun s0 =>
  bif (decide (x4_i < ((s0.n : Nat) : Int))) then
    bif (decide (x3_k < 0)) then
      Φ x4_i (IntKind.wrap .i64 (x4_i + 1)) h
    else
      nn x0_w fun a1 =>
      xL (cell h (a1.add 1)) fun s1 =>
      idx x4_i s1.n <|
      nn s1.p fun a2 =>
      xI .i64 (cell h (a2.add (x4_i.toNat * 3))) fun n0 =>
      nn x0_w fun a3 =>
      xL (cell h (a3.add 1)) fun s2 =>
      idx x3_k s2.n <|
      nn s2.p fun a4 =>
      xI .i64 (cell h (a4.add (x3_k.toNat * 3))) fun n1 =>
      bif (decide (n0 < n1)) then
        Φ x4_i (IntKind.wrap .i64 (x4_i + 1)) h
      else
        Φ x3_k (IntKind.wrap .i64 (x4_i + 1)) h
  else
    K_e0 x3_k h
def N34_l0_B (x0_w : Option Addr) (K_e0 : Int → Hp → Prop) (s : Sg.T [(3, .c (.int .i64)), (4, .c (.int .i64))]) (h : Hp) (Φ : Sg.T [(3, .c (.int .i64)), (4, .c (.int .i64))] → Hp → Prop) : Prop :=
  N34_l0_b x0_w (fun x3_k x4_i h => Φ (x3_k, x4_i) h) s.1 s.2 h K_e0
def N34_l0 (x0_w : Option Addr) (x3_k : Int) (x4_i : Int) (h : Hp) (K_e0 : Int → Hp → Prop) : Prop :=
  loopP (N34_l0_B x0_w K_e0) (x3_k, x4_i) h
noncomputable def N34_l0_t : Xf := loopT [(0, .c (.ptr))] [(3, .c (.int .i64)), (4, .c (.int .i64))] (codeAt B34 [1, 1, 0, 1, 0, 0]) fun F Q => N34_l0_B F (fun o0 h' => Q (.exit 0) (Sg.env [(3, .c (.int .i64))] o0) h')
theorem N34_l0_ok : Sound Try.prog Try.f34.ntmps N34_l0_t (codeAt B34 [1, 1, 0, 1, 0]) := by
  refine loop_sound (fun e => match e with | .exit 0 => [3] | _ => []) (by kernel_rfl) ?_
  intro F Q s h Φ hb
  refine den_sound hE hm _ (.two .leaf (.two (.one (.two (.ord [0, 1, 2, 3, 4, 5, 6, 7, 8, 9, 10, 11, 12, 13, 14, 15, 16, 17, 18, 19, 20]) .leaf)) .leaf)) _ _ _ (⟨annOk_leaf, ⟨⟨trivial, annOk_leaf⟩, annOk_leaf⟩⟩) ?_
  refine cast ?_ hb
  kernel_rfl
def N34 (x0 : Option Addr) (h : Hp) (K : Int → Hp → Prop) : Prop :=
  N34_l0 x0 (-1) 0 h
    (fun n0 h0 =>
      K n0 h0)
theorem S34 {x0 : Option Addr} {h : Hp} {K : Int → Hp → Prop} (hn : N34 x0 h K) : C34 x0 h K := by
  refine calls_of_D Try.func34 (c := B34) rfl (by kernel_rfl) ?_
  refine den_sound hE hm _ (.two .leaf (.two .leaf (.two (.two .leaf (.one (.xf N34_l0_t))) .leaf))) _ _ _ (⟨annOk_leaf, ⟨annOk_leaf, ⟨⟨annOk_leaf, N34_l0_ok⟩, annOk_leaf⟩⟩⟩) ?_
  refine cast ?_ hn
  kernel_rfl
end Go.Proofs.Ytfnlldbaplakoaa

/-
  The document's wheel.
-/
set_option linter.unusedSimpArgs false
set_option linter.unusedVariables false
namespace Go.Proofs.Ytfnlldbaplakoaa
open Go Go.Hw

def rl (a : St) (s : Sl) : List Value := [.int .i64 a.now, s.v, .int .i64 a.last]
def Ref (h : Hp) (R : Nat) (a : St) (F : Nat → Prop) : Prop :=
  ∃ s, Blk h R 60 (rl a s) ∧ Own h 44 3 s (frs a.ts) ∧ F = fun x => x = R ∨ s.p = some (bk x)

theorem Own44 {h : Hp} {s : Sl} {l : List Tm} (ho : Own h 44 3 s (frs l)) : s.n = l.length := by
  have := ho.1; rw [frs_len] at this; omega
theorem Own44_get {h : Hp} {s : Sl} {l : List Tm} (ho : Own h 44 3 s (frs l)) {k : Nat} {t : Tm} (hk : l[k]? = some t) :
    ∃ r, s.p = some (bk r) ∧ cell h ⟨r, k * 3, none⟩ = some (.int .i64 t.tim) ∧ cell h ⟨r, k * 3 + 1, none⟩ = some (.int .i64 t.id) ∧ cell h ⟨r, k * 3 + 2, none⟩ = some (.int .i64 t.tag) := by
  obtain ⟨g0, g1, g2⟩ := frs_get hk
  obtain ⟨r, hp, c0⟩ := ho.get g0
  obtain ⟨r1, hp1, c1⟩ := ho.get g1
  obtain ⟨r2, hp2, c2⟩ := ho.get g2
  have e1 : r1 = r := by rw [hp] at hp1; exact (congrArg Addr.block (Option.some.inj hp1)).symm
  have e2 : r2 = r := by rw [hp] at hp2; exact (congrArg Addr.block (Option.some.inj hp2)).symm
  subst e1; subst e2
  exact ⟨_, hp, c0, c1, c2⟩
theorem Own44_row {h : Hp} {s : Sl} {vs : List Value} (ho : Own h 44 3 s vs) {x : Nat} (hx : s.p = some (bk x)) : ∃ l, Blk h x 44 l := by
  have := ho.2.2
  rw [hx] at this
  obtain ⟨_, cs, hb, _⟩ := this
  exact ⟨cs, hb⟩
theorem Ref.ext {S : Nat → Prop} {h h' : Hp} {R : Nat} {a : St} {F : Nat → Prop} (H : Ref h R a F) (he : Ext S h h') (hs : ∀ x, F x → ¬ S x) : Ref h' R a F := by
  obtain ⟨s, hb, ho, rfl⟩ := H
  exact ⟨s, he.blk hb (hs _ (.inl rfl)), ho.ext he (fun x hx => hs x (.inr hx)), rfl⟩
theorem blk_there {h : Hp} {b : Nat} {T : TypeId} {l : List Value} (hb : Blk h b T l) : h b ≠ none := by
  unfold Blk at hb; rw [hb]; intro e; cases e
theorem Ref.there {h : Hp} {R : Nat} {a : St} {F : Nat → Prop} (H : Ref h R a F) : ∀ x, F x → h x ≠ none := by
  obtain ⟨s, hb, ho, rfl⟩ := H
  rintro x (rfl | e)
  · exact blk_there hb
  · obtain ⟨l, hl⟩ := Own44_row ho e; exact blk_there hl

theorem c9' {h : Hp} {K : Option Addr → Hp → Prop} (hK : ∀ R h' F', Ref h' R ⟨0, 0, []⟩ F' → Ext none' h h' → (∀ x, F' x → h x = none) → K (some (bk R)) h') : C9 h K := by
  apply S9; unfold N9
  intro R eR
  refine hK R _ _ ⟨⟨none, 0, 0⟩, Blk.upd_same, Own.nil, rfl⟩ (Ext.new eR) ?_
  rintro x (rfl | e)
  · exact eR
  · cases e
theorem c33' {R : Nat} {a : St} {s : Sl} {t : Int} {h : Hp} {K : Int → Hp → Prop} (hb : Blk h R 60 (rl a s)) (hK : K (clampT a.now t) h) : C33 (some (bk R)) t h K := by
  apply S33; unfold N33
  have c0 : cell h (bk R) = some (.int .i64 a.now) := by rw [hb.cell]; rfl
  simp only [nn_some', c0, xI_some]
  unfold clampT MaxT at hK
  by_cases h1 : t < a.now
  · have : decide (t < a.now) = true := by simpa using h1
    rw [this, cond_true]; rw [if_pos h1] at hK; exact hK
  · have : decide (t < a.now) = false := by simpa using h1
    rw [this, cond_false]; rw [if_neg h1] at hK
    by_cases h2 : 1125899906842624 < t
    · have : decide (t > 1125899906842624) = true := by simpa using h2
      rw [this, cond_true]; rw [if_pos h2] at hK; exact hK
    · have : decide (t > 1125899906842624) = false := by simp; omega
      rw [this, cond_false]; rw [if_neg h2] at hK; exact hK
theorem c25' {R : Nat} {a : St} {F : Nat → Prop} {h : Hp} {K : Int → Hp → Prop} (H : Ref h R a F) (hK : K a.now h) : C25 (some (bk R)) h K := by
  obtain ⟨s, hb, ho, rfl⟩ := H
  apply S25; unfold N25
  have c0 : cell h (bk R) = some (.int .i64 a.now) := by rw [hb.cell]; rfl
  simp only [nn_some', c0, xI_some]; exact hK
theorem c26' {R : Nat} {a : St} {F : Nat → Prop} {h : Hp} {K : Int → Hp → Prop} (H : Ref h R a F) (hK : K (a.ts.length : Int) h) : C26 (some (bk R)) h K := by
  obtain ⟨s, hb, ho, rfl⟩ := H
  apply S26; unfold N26
  simp only [nn_some', add_bk, hb.cell, rl, List.getElem?_cons_succ, List.getElem?_cons_zero, xL_v, Own44 ho]; exact hK

/-- the place of the first one -/
theorem first_take {ts : List Tm} {i : Nat} {m x : Tm} (h : first (ts.take i) = some m) (hx : ts[i]? = some x) : first (ts.take (i + 1)) = some (pick m x) := by
  have hi : i < ts.length := (List.getElem?_eq_some_iff.1 hx).1
  rw [List.take_succ_eq_append_getElem hi]
  have : ts[i] = x := by rw [List.getElem?_eq_getElem hi] at hx; exact Option.some.inj hx
  rw [this]
  cases hq : ts.take i with
  | nil => rw [hq] at h; simp [first] at h
  | cons a l =>
    rw [hq] at h
    simp only [first, Option.some.injEq] at h
    simp only [List.cons_append, first, List.foldl_append, List.foldl_cons, List.foldl_nil, h]
theorem c34' {R : Nat} {a : St} {s : Sl} {h : Hp} {K : Int → Hp → Prop} (hb : Blk h R 60 (rl a s)) (ho : Own h 44 3 s (frs a.ts)) (hl : a.ts.length < 1099511627776)
    (hN : a.ts = [] → K (-1) h) (hK : ∀ (k : Nat) (t : Tm), a.ts[k]? = some t → first a.ts = some t → K (k : Int) h) : C34 (some (bk R)) h K := by
  apply S34; unfold N34 N34_l0
  have hn := Own44 ho
  have c1 : cell h ⟨R, 1, none⟩ = some s.v := by rw [hb.cell]; rfl
  refine loopP_inv (fun (x : Int × Int) hc => hc = h ∧ ∃ i : Nat, x.2 = i ∧ i ≤ a.ts.length ∧ (i = 0 ∧ x.1 = -1 ∨ ∃ (k : Nat) (t : Tm), x.1 = k ∧ a.ts[k]? = some t ∧ first (a.ts.take i) = some t)) (fun x _ => a.ts.length - x.2.toNat) ?_ ⟨rfl, 0, rfl, Nat.zero_le _, .inl ⟨rfl, rfl⟩⟩
  rintro ⟨kx, ix⟩ hc ⟨rfl, i, hi, hil, hkx⟩
  simp only at hi hkx
  subst hi
  unfold N34_l0_B N34_l0_b
  simp only [nn_some', add_bk, c1, xL_v]
  by_cases hi : i < a.ts.length
  · have : decide ((i : Int) < ((s.n : Nat) : Int)) = true := by rw [hn]; simp; omega
    rw [this, cond_true]
    have wi : IntKind.wrap .i64 ((i : Int) + 1) = ((i + 1 : Nat) : Int) := by rw [wrap64 (by omega) (by omega)]; omega
    have hx : a.ts[i]? = some a.ts[i] := List.getElem?_eq_getElem hi
    rcases hkx with ⟨rfl, rfl⟩ | ⟨k, t, rfl, hk, hf⟩
    · have : decide ((-1 : Int) < 0) = true := rfl
      rw [this, cond_true, wi]
      refine ⟨⟨trivial, 1, rfl, hi, .inr ⟨0, a.ts[0], rfl, hx, ?_⟩⟩, by simp; omega⟩
      rw [List.take_succ_eq_append_getElem hi]; simp [first]
    · have : decide ((k : Int) < 0) = false := by simp
      rw [this, cond_false]
      have hkl := (List.getElem?_eq_some_iff.1 hk).1
      refine idx_of (by omega) (by omega) ?_
      obtain ⟨r, hp, d0, _, _⟩ := Own44_get ho hx
      obtain ⟨r2, hp2, d1, _, _⟩ := Own44_get ho hk
      have er : r2 = r := by rw [hp] at hp2; exact (congrArg Addr.block (Option.some.inj hp2)).symm
      subst er
      rw [hp]
      simp only [nn_some', add_bk, Int.toNat_natCast, d0, xI_some]
      refine idx_of (by omega) (by omega) ?_
      simp only [d1, xI_some, wi]
      have hstep := first_take hf hx
      unfold pick at hstep
      by_cases hlt : a.ts[i].tim < t.tim
      · have : decide (a.ts[i].tim < t.tim) = true := by simpa using hlt
        rw [this, cond_true]
        rw [if_pos hlt] at hstep
        exact ⟨⟨trivial, i + 1, rfl, hi, .inr ⟨i, _, rfl, hx, hstep⟩⟩, by simp; omega⟩
      · have : decide (a.ts[i].tim < t.tim) = false := by simpa using hlt
        rw [this, cond_false]
        rw [if_neg hlt] at hstep
        exact ⟨⟨trivial, i + 1, rfl, hi, .inr ⟨k, _, rfl, hk, hstep⟩⟩, by simp; omega⟩
  · have : decide ((i : Int) < ((s.n : Nat) : Int)) = false := by rw [hn]; simp; omega
    rw [this, cond_false]
    have hie : i = a.ts.length := by omega
    subst hie
    rcases hkx with ⟨h0, rfl⟩ | ⟨k, t, rfl, hk, hf⟩
    · exact hN (List.length_eq_zero_iff.1 h0)
    · rw [List.take_length] at hf; exact hK k t hk hf
theorem c24' {R : Nat} {a : St} {F : Nat → Prop} {h : Hp} {K : Int → Bool → Hp → Prop} (H : Ref h R a F) (hl : a.ts.length < 1099511627776)
    (hK : match first a.ts with | some t => K t.tim true h | none => K 0 false h) : C24 (some (bk R)) h K := by
  obtain ⟨s, hb, ho, rfl⟩ := H
  apply S24; unfold N24
  have c1 : cell h ⟨R, 1, none⟩ = some s.v := by rw [hb.cell]; rfl
  refine c34' hb ho hl ?_ ?_
  · intro e; rw [e] at hK; exact hK
  · intro k t hk hf
    rw [hf] at hK
    have : decide ((k : Int) < 0) = false := by simp
    rw [this, cond_false]
    have hkl := (List.getElem?_eq_some_iff.1 hk).1
    have hn := Own44 ho
    simp only [nn_some', add_bk, c1, xL_v]
    refine idx_of (by omega) (by omega) ?_
    obtain ⟨r, hp, d0, _, _⟩ := Own44_get ho hk
    rw [hp]
    simp only [nn_some', add_bk, Int.toNat_natCast, d0, xI_some]; exact hK

theorem c20' {R : Nat} {t tag : Int} {a : St} {F : Nat → Prop} {h : Hp} {K : Int → Int → Hp → Prop} (H : Ref h R a F) (hlast : a.last < 4611686018427387904) (hlast0 : 0 ≤ a.last)
    (h70 : 1024 ≤ a.ts.length → K 0 70 h)
    (hK : a.ts.length < 1024 → ∀ h' F', Ref h' R (armed a t tag) F' → Ext F h h' → (∀ x, F' x → F x ∨ h x = none) → K (a.last + 1) 0 h') : C20 (some (bk R)) t tag h K := by
  obtain ⟨s, hb, ho, rfl⟩ := H
  apply S20; unfold N20
  have hn := Own44 ho
  have c1 : cell h ⟨R, 1, none⟩ = some s.v := by rw [hb.cell]; rfl
  have c2 : cell h ⟨R, 2, none⟩ = some (.int .i64 a.last) := by rw [hb.cell]; rfl
  simp only [nn_some', add_bk, c1, c2, xL_v, xI_some]
  by_cases hf : 1024 ≤ a.ts.length
  · have : decide (((s.n : Nat) : Int) ≥ 1024) = true := by simp; omega
    rw [this, cond_true]; exact h70 hf
  · have : decide (((s.n : Nat) : Int) ≥ 1024) = false := by simp; omega
    rw [this, cond_false]
    have hK := hK (by omega)
    have wl1 : IntKind.wrap .i64 (a.last + 1) = a.last + 1 := wrap64 (by omega) (by omega)
    rw [wl1]
    refine hb.st (by simp [rl]) rfl ?_
    have ers : (rl a s).set 2 (.int .i64 (a.last + 1)) = rl { a with last := a.last + 1 } s := rfl
    rw [ers]
    have x1 : Ext (fun x => x = R) h (upd h R (.cells ⟨rl { a with last := a.last + 1 } s⟩ 60 (0, 0))) := Ext.upd rfl
    have hb1 : Blk (upd h R (.cells ⟨rl { a with last := a.last + 1 } s⟩ 60 (0, 0))) R 60 (rl { a with last := a.last + 1 } s) := Blk.upd_same
    revert x1 hb1
    generalize upd h R _ = h1
    intro x1 hb1
    refine c33' hb1 ?_
    have c11 : cell h1 ⟨R, 1, none⟩ = some s.v := by rw [hb1.cell]; rfl
    have c12 : cell h1 ⟨R, 2, none⟩ = some (.int .i64 (a.last + 1)) := by rw [hb1.cell]; rfl
    simp only [c11, c12, xL_v, xI_some]
    intro b0 e0
    have x2 : Ext none' h1 (upd h1 b0 (.cells ⟨frc ⟨clampT a.now t, a.last + 1, tag⟩⟩ 44)) := Ext.new e0
    have hb2 : Blk (upd h1 b0 (.cells ⟨frc ⟨clampT a.now t, a.last + 1, tag⟩⟩ 44)) b0 44 (frc ⟨clampT a.now t, a.last + 1, tag⟩) := Blk.upd_same
    change both (xL (cell (upd h1 b0 (.cells ⟨frc ⟨clampT a.now t, a.last + 1, tag⟩⟩ 44)) _) _) (apK Try.prog 44 s (.slice (some (bk b0)) 1 1) (upd h1 b0 (.cells ⟨frc ⟨clampT a.now t, a.last + 1, tag⟩⟩ 44)) _)
    revert x2 hb2
    generalize upd h1 b0 _ = h2
    intro x2 hb2
    have hbR := x2.blk hb1 id
    have c21 : cell h2 ⟨R, 1, none⟩ = some s.v := by rw [hbR.cell]; rfl
    simp only [c21, xL_v, both_only, only_self, true_and]
    have nR : ∀ x, s.p = some (bk x) → ¬ x = R := by
      intro x hx e
      obtain ⟨l, hl⟩ := Own44_row ho hx
      exact hl.ne hb (by decide) e
    have own2 : Own h2 44 3 s (frs a.ts) := (ho.ext x1 nR).ext x2 (fun _ _ => id)
    have hfr : ∀ x, h1 x = none → h x = none := by
      intro x hx
      cases hq : h x with
      | none => rfl
      | some o =>
        by_cases e : x = R
        · subst e; exact (hb1.ne_none hx rfl).elim
        · have := x1 x o hq e; rw [hx] at this; cases this
    have hfr2 : ∀ x, h2 x = none → h x = none := by
      intro x hx
      refine hfr x ?_
      cases hq : h1 x with
      | none => rfl
      | some o => have := x2 x o hq id; rw [hx] at this; cases this
    refine app3 own2 hb2 (by omega) ?_
    intro s' h3 own3 hn3 x3 hrow3
    have hbR3 := x3.blk hbR (fun e => nR R e rfl)
    refine hbR3.st (by simp [rl]) rfl ?_
    have ers : (rl { a with last := a.last + 1 } s).set 1 (.slice s'.p s'.n s'.c) = rl (armed a t tag) s' := rfl
    rw [ers]
    have x4 : Ext (fun x => x = R) h3 (upd h3 R (.cells ⟨rl (armed a t tag) s'⟩ 60 (0, 0))) := Ext.upd rfl
    have hb4 : Blk (upd h3 R (.cells ⟨rl (armed a t tag) s'⟩ 60 (0, 0))) R 60 (rl (armed a t tag) s') := Blk.upd_same
    revert x4 hb4
    generalize upd h3 R _ = h4
    intro x4 hb4
    have c42 : cell h4 ⟨R, 2, none⟩ = some (.int .i64 (a.last + 1)) := by rw [hb4.cell]; rfl
    simp only [c42, xI_some]
    have nR' : ∀ x, s'.p = some (bk x) → ¬ x = R := by
      intro x hx e
      obtain ⟨l, hl⟩ := Own44_row own3 hx
      exact hl.ne hbR3 (by decide) e
    have e5 : frs a.ts ++ frc ⟨clampT a.now t, a.last + 1, tag⟩ = frs (armed a t tag).ts := by simp [frs, armed]
    rw [e5] at own3
    refine hK h4 _ ⟨s', hb4, own3.ext x4 nR', rfl⟩ ?_ ?_
    · refine (((x1.mono (fun x o _ e => .inl e)).then x2 (fun x o _ e => e.elim)).then x3 (fun x o _ e => .inr e)).then x4 (fun x o _ e => .inl e)
    · rintro x (e | e)
      · exact .inl (.inl e)
      · rcases hrow3 x e with e' | e'
        · exact .inl (.inr e')
        · exact .inr (hfr2 x e')

end Go.Proofs.Ytfnlldbaplakoaa

/-
  The document's wheel: Cancel, Advance; two lists alike.
-/
set_option linter.unusedSimpArgs false
set_option linter.unusedVariables false
namespace Go.Proofs.Ytfnlldbaplakoaa
open Go Go.Hw

theorem any_filter {l : List Tm} {id : Int} : decide ((((l.filter (fun x => x.id != id)).length : Nat) : Int) < ((l.length : Nat) : Int)) = l.any (fun x => id == x.id) := by
  induction l with
  | nil => rfl
  | cons a l ih =>
    have hle := List.length_filter_le (fun x : Tm => x.id != id) l
    rw [List.filter_cons, List.any_cons]
    by_cases e : a.id = id
    · have h1 : (a.id != id) = false := by simp [e]
      have h2 : (id == a.id) = true := by simp [e]
      rw [h1, h2]; simp; omega
    · have h1 : (a.id != id) = true := by simp [e]
      have h2 : (id == a.id) = false := by simpa using fun e' : id = a.id => e e'.symm
      rw [h1, h2, ← ih]; simp

theorem c21' {R : Nat} {id : Int} {a : St} {F : Nat → Prop} {h : Hp} {K : Bool → Hp → Prop} (H : Ref h R a F) (hl : a.ts.length < 1099511627776)
    (hK : ∀ h' F', Ref h' R (cancel a id) F' → Ext F h h' → (∀ x, F' x → F x ∨ h x = none) → K (a.ts.any (fun x => id == x.id)) h') : C21 (some (bk R)) id h K := by
  obtain ⟨s, hb, ho, rfl⟩ := H
  apply S21; unfold N21 N21_l0
  have hn := Own44 ho
  refine loopP_inv (fun (x : Sl × Int) hc => ∃ i : Nat, x.2 = i ∧ i ≤ a.ts.length ∧ Own hc 44 3 x.1 (frs ((a.ts.take i).filter (fun x => x.id != id))) ∧ (∀ b, x.1.p = some (bk b) → h b = none) ∧ Ext none' h hc) (fun x _ => a.ts.length - x.2.toNat) ?_
    ⟨0, rfl, Nat.zero_le _, Own.nil, (by intro b hb'; cases hb'), Ext.refl⟩
  rintro ⟨o, ix⟩ hc ⟨i, hi, hil, hown, hfr, hex⟩
  simp only at hi hown hfr
  subst hi
  have hbc := hex.blk hb (fun e => e)
  have c1 : cell hc ⟨R, 1, none⟩ = some s.v := by rw [hbc.cell]; rfl
  have hoc : Own hc 44 3 s (frs a.ts) := ho.ext hex (fun _ _ => fun e => e)
  unfold N21_l0_B N21_l0_b
  simp only [nn_some', add_bk, c1, xL_v]
  by_cases hi : i < a.ts.length
  · have : decide ((i : Int) < ((s.n : Nat) : Int)) = true := by rw [hn]; simp; omega
    rw [this, cond_true]
    have wi : IntKind.wrap .i64 ((i : Int) + 1) = ((i + 1 : Nat) : Int) := by rw [wrap64 (by omega) (by omega)]; omega
    have hx : a.ts[i]? = some a.ts[i] := List.getElem?_eq_getElem hi
    refine idx_of (by omega) (by omega) ?_
    obtain ⟨r, hp, d0, d1, d2⟩ := Own44_get hoc hx
    rw [hp]
    simp only [nn_some', add_bk, add_mk, Nat.zero_add, Int.toNat_natCast, d1, xI_some, wi]
    have htk : (a.ts.take (i + 1)).filter (fun x => x.id != id) = (a.ts.take i).filter (fun x => x.id != id) ++ (if a.ts[i].id != id then [a.ts[i]] else []) := by
      rw [List.take_succ_eq_append_getElem hi, List.filter_append, List.filter_cons, List.filter_nil]
    by_cases e : a.ts[i].id = id
    · have h1 : (a.ts[i].id != id) = false := by simp [e]
      rw [h1, cond_false]
      refine ⟨⟨i + 1, rfl, hi, ?_, hfr, hex⟩, by omega⟩
      rw [htk, h1]; simpa using hown
    · have h1 : (a.ts[i].id != id) = true := by simp [e]
      rw [h1, cond_true]
      refine idx_of (by omega) (by omega) ?_
      simp only [d0, d2, xI_some]
      intro b0 e0
      have x2 : Ext none' hc (upd hc b0 (.cells ⟨frc a.ts[i]⟩ 44)) := Ext.new e0
      have hb2 : Blk (upd hc b0 (.cells ⟨frc a.ts[i]⟩ 44)) b0 44 (frc a.ts[i]) := Blk.upd_same
      change apK Try.prog 44 o (.slice (some (bk b0)) 1 1) (upd hc b0 (.cells ⟨frc a.ts[i]⟩ 44)) _
      revert x2 hb2
      generalize upd hc b0 _ = h2
      intro x2 hb2
      have hol := Own44 hown
      have hfl := List.length_filter_le (fun x : Tm => x.id != id) (a.ts.take i)
      have htl : (a.ts.take i).length ≤ a.ts.length := List.length_take_le' _ _
      refine app3 (hown.ext x2 (fun _ _ => fun e => e)) hb2 (by omega) ?_
      intro s' h3 own3 hn3 x3 hrow3
      refine ⟨⟨i + 1, rfl, hi, ?_, ?_, ?_⟩, by omega⟩
      · rw [htk, h1]
        have : frs (List.filter (fun x => x.id != id) (List.take i a.ts)) ++ frc a.ts[i] = frs (List.filter (fun x => x.id != id) (List.take i a.ts) ++ [a.ts[i]]) := by simp [frs]
        rw [this] at own3; exact own3
      · intro x hx
        rcases hrow3 x hx with e' | e'
        · exact hfr x e'
        · cases hq : h x with
          | none => rfl
          | some o' => have := x2 x o' (hex x o' hq (fun e => e)) (fun e => e); rw [e'] at this; cases this
      · intro x o' ho' _
        refine x3 x o' (x2 x o' (hex x o' ho' (fun e => e)) (fun e => e)) ?_
        intro e'; have := hfr x e'; rw [ho'] at this; cases this
  · have : decide ((i : Int) < ((s.n : Nat) : Int)) = false := by rw [hn]; simp; omega
    rw [this, cond_false]
    have hie : i = a.ts.length := by omega
    subst hie
    rw [List.take_length] at hown
    refine hbc.st (by simp [rl]) rfl ?_
    have ers : (rl a s).set 1 (.slice o.p o.n o.c) = rl (cancel a id) o := rfl
    rw [ers]
    have hol := Own44 hown
    rw [hol, hn, any_filter]
    have nR' : ∀ x, o.p = some (bk x) → ¬ x = R := by
      rintro x hx rfl
      have := hfr x hx
      exact hb.ne_none this rfl
    refine hK _ _ ⟨o, Blk.upd_same, hown.ext (S := fun x => x = R) (Ext.upd rfl) nR', rfl⟩ ?_ ?_
    · exact (hex.mono (fun _ _ _ e => e.elim)).trans (Ext.upd (.inl rfl))
    · rintro x (e | e)
      · exact .inl (.inl e)
      · exact .inr (hfr x e)

theorem fire_cut {to : Int} {n : Nat} {ts : List Tm} {t : Tm} (hf : first ts = some t) (ht : t.tim ≤ to) :
    fire to (n + 1) ts = (t :: (fire to n (ts.filter (fun x => x.id != t.id))).1, (fire to n (ts.filter (fun x => x.id != t.id))).2) := by
  simp only [fire, hf]; rw [if_pos ht]
theorem first_in {ts : List Tm} {t : Tm} (hf : first ts = some t) : t ∈ ts := by
  cases ts with
  | nil => simp [first] at hf
  | cons a l =>
    simp only [first, Option.some.injEq] at hf
    have : ∀ (l : List Tm) (a : Tm), l.foldl pick a ∈ a :: l := by
      intro l
      induction l with
      | nil => intro a; simp
      | cons b l ih =>
        intro a
        rw [List.foldl_cons]
        have h1 := ih (pick a b)
        have h2 : pick a b = a ∨ pick a b = b := by unfold pick; split <;> simp
        rcases List.mem_cons.1 h1 with e | e
        · rw [e]; rcases h2 with e' | e' <;> rw [e'] <;> simp
        · exact List.mem_cons_of_mem _ (List.mem_cons_of_mem _ e)
    rw [← hf]; exact this l a

theorem c22' {R : Nat} {t : Int} {a : St} {F : Nat → Prop} {h : Hp} {K : Sl → Hp → Prop} (H : Ref h R a F) (hl : a.ts.length < 1099511627776)
    (hK : ∀ h' F' s, Ref h' R (advanced a t) F' → Own h' 44 3 s (frs (advTs a t).1) → (∀ x, s.p = some (bk x) → ¬ F' x ∧ (F x ∨ h x = none)) → Ext F h h' → (∀ x, F' x → F x ∨ h x = none) → K s h') : C22 (some (bk R)) t h K := by
  have H0 := H
  obtain ⟨s0, hb, ho, rfl⟩ := H
  apply S22; unfold N22
  refine c33' hb ?_
  simp only [nn_some']
  refine hb.st (by simp [rl]) rfl ?_
  have ers : (rl a s0).set 0 (.int .i64 (clampT a.now t)) = rl { a with now := clampT a.now t } s0 := rfl
  rw [ers]
  have nR : ∀ x, s0.p = some (bk x) → ¬ x = R := by
    rintro x hx rfl
    obtain ⟨l, hl⟩ := Own44_row ho hx
    exact hl.ne hb (by decide) rfl
  have x1 : Ext (fun x => x = R) h (upd h R (.cells ⟨rl { a with now := clampT a.now t } s0⟩ 60 (0, 0))) := Ext.upd rfl
  have H1 : Ref (upd h R (.cells ⟨rl { a with now := clampT a.now t } s0⟩ 60 (0, 0))) R { a with now := clampT a.now t } (fun x => x = R ∨ s0.p = some (bk x)) := ⟨s0, Blk.upd_same, ho.ext x1 nR, rfl⟩
  revert x1 H1
  generalize upd h R _ = h1
  intro x1 H1
  have x1' : Ext (fun x => x = R ∨ s0.p = some (bk x)) h h1 := x1.mono (fun x o _ e => .inl e)
  unfold advanced advTs at hK
  generalize clampT a.now t = to at *
  unfold N22_l0
  refine loopP_inv (fun (s : Sl) hc => ∃ cur n out Fc, Ref hc R ⟨to, a.last, cur⟩ Fc ∧ cur.length ≤ n ∧ Own hc 44 3 s (frs out) ∧ (∀ x, s.p = some (bk x) → ¬ Fc x ∧ ((x = R ∨ s0.p = some (bk x)) ∨ h x = none)) ∧
      Ext (fun x => x = R ∨ s0.p = some (bk x)) h hc ∧ (∀ x, Fc x → (x = R ∨ s0.p = some (bk x)) ∨ h x = none) ∧ s.n + cur.length ≤ a.ts.length ∧
      out ++ (fire to n cur).1 = (fire to a.ts.length a.ts).1 ∧ (fire to n cur).2 = (fire to a.ts.length a.ts).2) (fun s _ => a.ts.length - s.n) ?_
    ⟨a.ts, a.ts.length, [], _, H1, Nat.le_refl _, Own.nil, (by intro x hx; cases hx), x1', (fun x hx => .inl hx), (by simp), by simp, rfl⟩
  rintro s hc ⟨cur, n, out, Fc, Hc, hcn, hown, hfr, hex, hfp, hn, hf1, hf2⟩
  have stop : (∀ u, first cur = some u → ¬ u.tim ≤ to) → K s hc := by
    intro hs
    rw [fire_end hs] at hf1 hf2
    rw [List.append_nil] at hf1
    refine hK hc Fc s ?_ (by rw [← hf1]; exact hown) hfr hex hfp
    rw [← hf2]; exact Hc
  have Hc0 := Hc
  obtain ⟨sc, hbc, hoc, rfl⟩ := Hc
  unfold N22_l0_B N22_l0_b
  have hln : cur.length < 1099511627776 := by omega
  refine c34' hbc hoc hln ?_ ?_
  · intro e
    have e' : cur = [] := e
    have : decide ((-1 : Int) < 0) = true := rfl
    rw [this, cond_true]
    refine stop ?_
    intro u hu; rw [e'] at hu; simp [first] at hu
  · intro k u hk hfu
    have hk : cur[k]? = some u := hk
    have hfu : first cur = some u := hfu
    have : decide ((k : Int) < 0) = false := by simp
    rw [this, cond_false]
    have c1 : cell hc ⟨R, 1, none⟩ = some sc.v := by rw [hbc.cell]; rfl
    have c0 : cell hc (bk R) = some (.int .i64 to) := by rw [hbc.cell]; rfl
    have hkl := (List.getElem?_eq_some_iff.1 hk).1
    have hnc : sc.n = cur.length := Own44 hoc
    simp only [nn_some', add_bk, c1, xL_v]
    refine idx_of (by omega) (by omega) ?_
    obtain ⟨r, hp, d0, d1, d2⟩ := Own44_get (l := cur) hoc hk
    rw [hp]
    simp only [nn_some', add_bk, add_mk, Nat.zero_add, Int.toNat_natCast, d0, xI_some, c0]
    by_cases hle : u.tim ≤ to
    · have : decide (u.tim > to) = false := by simp; omega
      rw [this, cond_false]
      refine idx_of (by omega) (by omega) ?_
      simp only [d0, d1, d2, xI_some]
      intro b0 e0
      have x2 : Ext none' hc (upd hc b0 (.cells ⟨frc u⟩ 44)) := Ext.new e0
      have hb2 : Blk (upd hc b0 (.cells ⟨frc u⟩ 44)) b0 44 (frc u) := Blk.upd_same
      change apK Try.prog 44 s (.slice (some (bk b0)) 1 1) (upd hc b0 (.cells ⟨frc u⟩ 44)) _
      revert x2 hb2
      generalize upd hc b0 _ = h2
      intro x2 hb2
      have hns := Own44 hown
      refine app3 (hown.ext x2 (fun _ _ => fun e => e)) hb2 (by omega) ?_
      intro s' h3 own3 hn3 x3 hrow3
      have H3 : Ref h3 R ⟨to, a.last, cur⟩ (fun x => x = R ∨ sc.p = some (bk x)) := (Hc0.ext x2 (fun _ _ e => e)).ext x3 (fun x hx e => (hfr x e).1 hx)
      have hb3 := x3.blk (x2.blk hbc id) (fun e => (hfr R e).1 (.inl rfl))
      have c31 : cell h3 ⟨R, 1, none⟩ = some sc.v := by rw [hb3.cell]; rfl
      have own3c : Own h3 44 3 sc (frs cur) := (hoc.ext x2 (fun _ _ e => e)).ext x3 (fun x hx e => (hfr x e).1 (.inr hx))
      simp only [c31, xL_v]
      refine idx_of (by omega) (by omega) ?_
      obtain ⟨r3, hp3, _, d13, _⟩ := Own44_get (l := cur) own3c hk
      rw [hp3]
      simp only [nn_some', add_bk, add_mk, Nat.zero_add, Int.toNat_natCast, d13, xI_some]
      have lenf : (cur.filter (fun x => x.id != u.id)).length + 1 ≤ cur.length := by
        have := any_filter (l := cur) (id := u.id)
        have h2 : cur.any (fun x => u.id == x.id) = true := by rw [List.any_eq_true]; exact ⟨u, first_in hfu, by simp⟩
        rw [h2] at this
        simp only [decide_eq_true_eq] at this
        omega
      have hex3 : ∀ x o, h x = some o → ¬ (x = R ∨ s0.p = some (bk x)) → h3 x = some o := by
        intro x o ho' hn'
        refine x3 x o (x2 x o (hex x o ho' hn') id) ?_
        intro e
        rcases (hfr x e).2 with e' | e'
        · exact hn' e'
        · rw [ho'] at e'; cases e'
      have hfr3 : ∀ x, s'.p = some (bk x) → ((x = R ∨ s0.p = some (bk x)) ∨ h x = none) ∧ ¬ (x = R ∨ sc.p = some (bk x)) := by
        intro x hx
        rcases hrow3 x hx with e | e
        · exact ⟨(hfr x e).2, (hfr x e).1⟩
        · have n2 : ¬ (x = R ∨ sc.p = some (bk x)) := fun hx' => (Hc0.ext x2 (fun _ _ e => e)).there x hx' e
          refine ⟨?_, n2⟩
          by_cases hfx : (x = R ∨ s0.p = some (bk x))
          · exact .inl hfx
          · right
            cases hq : h x with
            | none => rfl
            | some o => have := x2 x o (hex x o hq hfx) id; rw [e] at this; cases this
      refine c21' H3 hln ?_
      intro h4 F4 H4 x4 fp4
      obtain ⟨m, rfl⟩ : ∃ m, n = m + 1 := ⟨n - 1, by omega⟩
      rw [fire_cut hfu hle] at hf1 hf2
      refine ⟨⟨cur.filter (fun x => x.id != u.id), m, out ++ [u], F4, H4, by omega, ?_, ?_, ?_, ?_, by omega, ?_, hf2⟩, by omega⟩
      · have e5 : frs out ++ frc u = frs (out ++ [u]) := by simp [frs]
        rw [e5] at own3
        exact own3.ext x4 (fun x hx => (hfr3 x hx).2)
      · intro x hx
        refine ⟨?_, (hfr3 x hx).1⟩
        intro hx4
        rcases fp4 x hx4 with e | e
        · exact (hfr3 x hx).2 e
        · obtain ⟨l, hl⟩ := Own44_row own3 hx
          exact hl.ne_none e rfl
      · intro x o ho' hn'
        refine x4 x o (hex3 x o ho' hn') ?_
        intro e
        rcases hfp x e with e' | e'
        · exact hn' e'
        · rw [ho'] at e'; cases e'
      · intro x hx
        rcases fp4 x hx with e | e
        · exact hfp x e
        · by_cases hfx : (x = R ∨ s0.p = some (bk x))
          · exact .inl hfx
          · right
            cases hq : h x with
            | none => rfl
            | some o => have := hex3 x o hq hfx; rw [e] at this; cases this
      · rw [← hf1]; simp
    · have : decide (u.tim > to) = true := by simp; omega
      rw [this, cond_true]
      refine stop ?_
      intro u' hu'
      rw [hfu] at hu'
      simp only [Option.some.injEq] at hu'
      subst hu'; exact hle

/-- two lists that are alike -/
theorem c18' {s1 s2 : Sl} {l : List Tm} {h : Hp} {K : Bool → Hp → Prop} (h1 : Own h 44 3 s1 (frs l)) (h2 : Own h 44 3 s2 (frs l)) (hl : l.length < 1099511627776) (hK : K true h) : C18 s1 s2 h K := by
  apply S18; unfold N18
  have n1 := Own44 h1
  have n2 := Own44 h2
  have : (((s1.n : Nat) : Int) != ((s2.n : Nat) : Int)) = false := by rw [n1, n2]; simp
  rw [this, cond_false]
  unfold N18_l0
  refine loopP_inv (fun (x : Int) hc => hc = h ∧ ∃ i : Nat, x = i ∧ i ≤ l.length) (fun x _ => l.length - x.toNat) ?_ ⟨rfl, 0, rfl, Nat.zero_le _⟩
  rintro x hc ⟨rfl, i, rfl, hil⟩
  unfold N18_l0_B N18_l0_b
  by_cases hi : i < l.length
  · have : decide ((i : Int) < ((s1.n : Nat) : Int)) = true := by rw [n1]; simp; omega
    rw [this, cond_true]
    refine idx_of (by omega) (by omega) ?_
    have hx : l[i]? = some l[i] := List.getElem?_eq_getElem hi
    obtain ⟨r, hp, d0, d1, d2⟩ := Own44_get h1 hx
    obtain ⟨r', hp', d0', d1', d2'⟩ := Own44_get h2 hx
    rw [hp, hp']
    simp only [nn_some', add_bk, add_mk, Nat.zero_add, Int.toNat_natCast, d0, d1, d2, xI_some]
    refine idx_of (by omega) (by omega) ?_
    simp only [d0', d1', d2', xI_some, beq_self_eq_true, Bool.true_and, Bool.not_true, cond_false]
    have wi : IntKind.wrap .i64 ((i : Int) + 1) = ((i + 1 : Nat) : Int) := by rw [wrap64 (by omega) (by omega)]; omega
    rw [wi]
    exact ⟨⟨trivial, i + 1, rfl, hi⟩, by omega⟩
  · have : decide ((i : Int) < ((s1.n : Nat) : Int)) = false := by rw [n1]; simp; omega
    rw [this, cond_false]
    exact hK

end Go.Proofs.Ytfnlldbaplakoaa

set_option linter.unusedVariables false
set_option maxRecDepth 100000
namespace Go.Proofs.Ytfnlldbaplakoaa
open Go Go.Hw
/-! ### 7 slipway/slipwaylaw07.live -/
noncomputable def B7 : Code := match Try.f7.body with | some c => c | none => .skip
def N7  (h : Hp) (K : Bool → Hp → Prop) : Prop :=
  C8 h fun p0 h0 =>
  peq h0 p0 none fun b0 =>
  bif b0 then
    K false h0
  else
    C15 p0 h0 fun n0 b1 h1 =>
    C12 p0 7 70 h1 fun n1 n2 h2 =>
    C12 p0 5 50 h2 fun n3 n4 h3 =>
    C15 p0 h3 fun n5 b2 h4 =>
    C13 p0 n1 h4 fun b3 h5 =>
    C14 p0 6 h5 fun s0 h6 =>
    nw h6 (.cells ⟨[.int .i64 5, .int .i64 2, .int .i64 50]⟩ 44) fun b4 h7 =>
    C18 s0 ⟨some (bk b4), 1, 1⟩ h7 fun b5 h8 =>
    bif (!b1) then
      bif (n1 == 1) then
        bif (n2 == 0) then
          bif (n3 == 2) then
            bif (n4 == 0) then
              bif (n5 == 5) then
                bif b2 then
                  bif b3 then
                    bif b5 then
                      C17 p0 h8 fun n6 h9 =>
                      bif (n6 == 6) then
                        C16 p0 h9 fun n7 h10 =>
                        K (n7 == 0) h10
                      else
                        K false h9
                    else
                      K false h8
                  else
                    K false h8
                else
                  K false h8
              else
                K false h8
            else
              K false h8
          else
            K false h8
        else
          K false h8
      else
        K false h8
    else
      K false h8
theorem S7 {h : Hp} {K : Bool → Hp → Prop} (hn : N7 h K) : C7 h K := by
  refine calls_of_D Try.func7 (c := B7) rfl (by kernel_rfl) ?_
  refine den_sound hE hm _ .leaf _ _ _ (annOk_leaf) ?_
  refine cast ?_ hn
  kernel_rfl
end Go.Proofs.Ytfnlldbaplakoaa

set_option linter.unusedVariables false
set_option maxRecDepth 100000
namespace Go.Proofs.Ytfnlldbaplakoaa
open Go Go.Hw
/-! ### 3 slipway/slipwaylaw07.WheelNumbers -/
noncomputable def B3 : Code := match Try.f3.body with | some c => c | none => .skip
def N3  (h : Hp) (K : Bool → Hp → Prop) : Prop :=
  C7 h fun b0 h0 =>
  bif b0 then
    K true h0
  else
    K false h0
theorem S3 {h : Hp} {K : Bool → Hp → Prop} (hn : N3 h K) : C3 h K := by
  refine calls_of_D Try.func3 (c := B3) rfl (by kernel_rfl) ?_
  refine den_sound hE hm _ .leaf _ _ _ (annOk_leaf) ?_
  refine cast ?_ hn
  kernel_rfl
end Go.Proofs.Ytfnlldbaplakoaa

/-
  The law's function live.
-/
set_option linter.unusedSimpArgs false
set_option linter.unusedVariables false
namespace Go.Proofs.Ytfnlldbaplakoaa
open Go Go.Hw

theorem none_of {h h1 : Hp} (hx : Ext none' h h1) {x : Nat} (e : h1 x = none) : h x = none := by
  cases hq : h x with
  | none => rfl
  | some o => have := hx x o hq (fun e => e); rw [e] at this; cases this
theorem frame1 {F : Nat → Prop} {h h1 h2 : Hp} (hx : Ext none' h h1) (hF : ∀ x, F x → h x = none) (e : Ext F h1 h2) : Ext none' h h2 := by
  intro x o ho _
  refine e x o (hx x o ho (fun e => e)) ?_
  intro hf; have := hF x hf; rw [ho] at this; cases this
theorem fresh1 {F F' : Nat → Prop} {h h1 : Hp} (hx : Ext none' h h1) (hF : ∀ x, F x → h x = none) (fp : ∀ x, F' x → F x ∨ h1 x = none) : ∀ x, F' x → h x = none := by
  intro x hx'
  rcases fp x hx' with e | e
  · exact hF x e
  · exact none_of hx e

theorem c7' {h : Hp} {K : Bool → Hp → Prop} (hK : ∀ h', Ext none' h h' → K true h') : C7 h K := by
  apply S7; unfold N7
  refine c8' ?_
  intro W h1 F1 H1 x1 n1
  simp only [peq_none, Option.isNone_some, cond_false]
  refine c15' H1 ?_
  intro h2 y2
  have x2 := x1.trans y2
  have H2 := H1.ext y2 (fun _ _ e => e)
  show C12 _ _ _ _ _
  refine c12' H2 (by decide) (fun h => absurd h (by decide)) ?_
  intro _ h3 F3 H3 y3 n3
  have x3 := frame1 x2 n1 y3
  have m3 := fresh1 x2 n1 n3
  refine c12' H3 (by decide) (fun h => absurd h (by decide)) ?_
  intro _ h4 F4 H4 y4 n4
  have x4 := frame1 x3 m3 y4
  have m4 := fresh1 x3 m3 n4
  refine c15' H4 ?_
  intro h5 y5
  have x5 := x4.trans y5
  have H5 := H4.ext y5 (fun _ _ e => e)
  show C13 _ _ _ _
  refine c13' H5 ?_
  intro h6 F6 H6 y6 n6
  have x6 := frame1 x5 m4 y6
  have m6 := fresh1 x5 m4 (fun x hx => .inl (n6 x hx))
  refine c14' H6 ?_
  intro h7 F7 s H7 own7 fr7 y7 n7
  have x7 := frame1 x6 m6 y7
  intro b0 e0
  have y8 : Ext none' h7 (upd h7 b0 (.cells ⟨frc ⟨5, 2, 50⟩⟩ 44)) := Ext.new e0
  have hb8 : Blk (upd h7 b0 (.cells ⟨frc ⟨5, 2, 50⟩⟩ 44)) b0 44 (frc ⟨5, 2, 50⟩) := Blk.upd_same
  change C18 s ⟨some (bk b0), 1, 1⟩ (upd h7 b0 (.cells ⟨frc ⟨5, 2, 50⟩⟩ 44)) _
  revert y8 hb8
  generalize upd h7 b0 _ = h8
  intro y8 hb8
  have x8 := x7.trans y8
  have H8 := H7.ext y8 (fun _ _ e => e)
  have own8 := own7.ext y8 (fun _ _ e => e)
  have el : (advTs (cancel (armed (armed ⟨0, 0, []⟩ 7 70) 5 50) (((⟨0, 0, []⟩ : St)).last + 1)) 6).1 = [⟨5, 2, 50⟩] := by rfl
  rw [el] at own8
  have ob : Own h8 44 3 ⟨some (bk b0), 1, 1⟩ (frs [⟨5, 2, 50⟩]) := ⟨rfl, Nat.le_refl _, rfl, _, hb8, rfl, rfl⟩
  refine c18' own8 ob (by decide) ?_
  have g1 : ((⟨0, 0, []⟩ : St).last + 1 == 1) = true := rfl
  have g2 : ((armed ⟨0, 0, []⟩ 7 70).last + 1 == 2) = true := rfl
  have g3 : ((List.foldl pick ⟨clampT (⟨0, 0, []⟩ : St).now 7, (⟨0, 0, []⟩ : St).last + 1, 70⟩ ([].append [⟨clampT (armed ⟨0, 0, []⟩ 7 70).now 5, (armed ⟨0, 0, []⟩ 7 70).last + 1, 50⟩])).tim == 5) = true := rfl
  have g4 : ((armed (armed ⟨0, 0, []⟩ 7 70) 5 50).ts.any fun x => (⟨0, 0, []⟩ : St).last + 1 == x.id) = true := rfl
  have g5 : ((0 : Int) == 0) = true := rfl
  rw [g1, g2, g3, g4, g5]
  simp only [Bool.not_false, cond_true]
  refine c17' H8 ?_
  have g6 : ((advanced (cancel (armed (armed ⟨0, 0, []⟩ 7 70) 5 50) ((⟨0, 0, []⟩ : St).last + 1)) 6).now == 6) = true := rfl
  rw [g6, cond_true]
  refine c16' H8 ?_
  exact hK h8 x8

theorem c3' {h : Hp} {K : Bool → Hp → Prop} (hK : ∀ h', Ext none' h h' → K true h') : C3 h K := by
  apply S3; unfold N3
  refine c7' ?_
  intro h' he
  exact hK h' he

end Go.Proofs.Ytfnlldbaplakoaa

set_option linter.unusedVariables false
set_option maxRecDepth 100000
namespace Go.Proofs.Ytfnlldbaplakoaa
open Go Go.Hw
/-! ### 6 slipway/slipwaylaw07.WheelCuts -/
noncomputable def B6 : Code := match Try.f6.body with | some c => c | none => .skip
def N6_j1 (x0_ahead : Sl) (x1_stops : Sl) (x2_to : Int) (x8_w : Option Addr) (x9_v : Option Addr) (x10_i : Int) (x11_o : Option Addr) (h : Hp) (K_normal : Hp → Prop) (K_ret : Bool → Hp → Prop) : Prop :=
  nn x11_o fun a0 =>
  xI .i64 (cell h a0) fun n0 =>
  bif (n0 == 3) then
    nn x11_o fun a1 =>
    xI .i64 (cell h (a1.add 1)) fun n1 =>
    C14 x8_w n1 h fun s0 h0 =>
    nn x11_o fun a2 =>
    xI .i64 (cell h0 (a2.add 1)) fun n2 =>
    C14 x9_v n2 h0 fun s1 h1 =>
    C18 s0 s1 h1 fun b0 h2 =>
    bif (!b0) then
      K_ret false h2
    else
      K_normal h2
  else
    K_normal h
noncomputable def N6_j1_t : Xf := pieceT [(0, .c (.slice)), (1, .c (.slice)), (2, .c (.int .i64)), (8, .c (.ptr)), (9, .c (.ptr)), (10, .c (.int .i64)), (11, .c (.ptr))] (codeAt B6 [1, 1, 1, 1, 1, 0, 1, 0, 0, 1, 0, 0, 1, 1]) fun x h Q => N6_j1 x.1 x.2.1 x.2.2.1 x.2.2.2.1 x.2.2.2.2.1 x.2.2.2.2.2.1 x.2.2.2.2.2.2 h (fun h' => Q .normal (Sg.env [] ()) h') (fun o0 h' => Q .ret (Sg.env [(6, .c (.bool))] o0) h')
theorem N6_j1_ok : Sound Try.prog Try.f6.ntmps N6_j1_t (codeAt B6 [1, 1, 1, 1, 1, 0, 1, 0, 0, 1, 0, 0, 1, 1]) := by
  refine piece_sound (fun e => match e with | .normal => [] | .ret => [6] | _ => []) ?_
  intro x h Q hb
  refine den_sound hE hm _ .leaf _ _ _ (annOk_leaf) ?_
  refine cast ?_ hb
  kernel_rfl
def N6_l0_b (x0_ahead : Sl) (x1_stops : Sl) (x2_to : Int) (x8_w : Option Addr) (x9_v : Option Addr) (Φ : Int → Hp → Prop) (x10_i : Int) (h : Hp) (K_e0 : Hp → Prop) (K_ret : Bool → Hp → Prop) : Prop :=
  bif (decide (x10_i < ((x0_ahead.n : Nat) : Int))) then
    idx x10_i x0_ahead.n <|
    nn x0_ahead.p fun a0 =>
    xI .i64 (cell h (a0.add (x10_i.toNat * 3))) fun n0 =>
    xI .i64 (cell h ((a0.add (x10_i.toNat * 3)).add 1)) fun n1 =>
    xI .i64 (cell h ((a0.add (x10_i.toNat * 3)).add 2)) fun n2 =>
    nw h (.cells ⟨[.int .i64 0, .int .i64 0, .int .i64 0]⟩ 34) fun b0 h0 =>
    st h0 (bk b0) (.int .i64 n0) fun h1 =>
    st h1 ((bk b0).add 1) (.int .i64 n1) fun h2 =>
    st h2 ((bk b0).add 2) (.int .i64 n2) fun h3 =>
    xI .i64 (cell h3 (bk b0)) fun n3 =>
    bif (n3 == 1) then
      xI .i64 (cell h3 ((bk b0).add 1)) fun n4 =>
      xI .i64 (cell h3 ((bk b0).add 2)) fun n5 =>
      C12 x8_w n4 n5 h3 fun n6 n7 h4 =>
      xI .i64 (cell h4 ((bk b0).add 1)) fun n8 =>
      xI .i64 (cell h4 ((bk b0).add 2)) fun n9 =>
      C12 x9_v n8 n9 h4 fun n10 n11 h5 =>
      bif (n6 != n10) then
        K_ret false h5
      else
        bif (n7 != n11) then
          K_ret false h5
        else
          N6_j1 x0_ahead x1_stops x2_to x8_w x9_v x10_i (some (bk b0)) h5
            (fun h6 =>
              Φ (IntKind.wrap .i64 (x10_i + 1)) h6)
            (fun b1 h7 =>
              K_ret b1 h7)
    else
      N6_j1 x0_ahead x1_stops x2_to x8_w x9_v x10_i (some (bk b0)) h3
        (fun h8 =>
          Φ (IntKind.wrap .i64 (x10_i + 1)) h8)
        (fun b2 h9 =>
          K_ret b2 h9)
  else
    K_e0 h
def N6_l0_B (x0_ahead : Sl) (x1_stops : Sl) (x2_to : Int) (x8_w : Option Addr) (x9_v : Option Addr) (K_e0 : Hp → Prop) (K_ret : Bool → Hp → Prop) (s : Sg.T [(10, .c (.int .i64))]) (h : Hp) (Φ : Sg.T [(10, .c (.int .i64))] → Hp → Prop) : Prop :=
  N6_l0_b x0_ahead x1_stops x2_to x8_w x9_v (fun x10_i h => Φ x10_i h) s h K_e0 K_ret
def N6_l0 (x0_ahead : Sl) (x1_stops : Sl) (x2_to : Int) (x8_w : Option Addr) (x9_v : Option Addr) (x10_i : Int) (h : Hp) (K_e0 : Hp → Prop) (K_ret : Bool → Hp → Prop) : Prop :=
  loopP (N6_l0_B x0_ahead x1_stops x2_to x8_w x9_v K_e0 K_ret) x10_i h
noncomputable def N6_l0_t : Xf := loopT [(0, .c (.slice)), (1, .c (.slice)), (2, .c (.int .i64)), (8, .c (.ptr)), (9, .c (.ptr))] [(10, .c (.int .i64))] (codeAt B6 [1, 1, 1, 1, 1, 0, 1, 0, 0]) fun F Q => N6_l0_B F.1 F.2.1 F.2.2.1 F.2.2.2.1 F.2.2.2.2 (fun h' => Q (.exit 0) (Sg.env [] ()) h') (fun o0 h' => Q .ret (Sg.env [(6, .c (.bool))] o0) h')
theorem N6_l0_ok : Sound Try.prog Try.f6.ntmps N6_l0_t (codeAt B6 [1, 1, 1, 1, 1, 0, 1, 0]) := by
  refine loop_sound (fun e => match e with | .exit 0 => [] | .ret => [6] | _ => []) (by kernel_rfl) ?_
  intro F Q s h Φ hb
  refine den_sound hE hm _ (.two .leaf (.two (.one (.two .leaf (.two .leaf (.xf N6_j1_t)))) .leaf)) _ _ _ (⟨annOk_leaf, ⟨⟨annOk_leaf, ⟨annOk_leaf, N6_j1_ok⟩⟩, annOk_leaf⟩⟩) ?_
  refine cast ?_ hb
  kernel_rfl
def N6_l2_b (x1_stops : Sl) (x2_to : Int) (x8_w : Option Addr) (x9_v : Option Addr) (Φ : Sl → Int → Hp → Prop) (x19_l : Sl) (x20_i : Int) (h : Hp) (K_e2 : Sl → Hp → Prop) : Prop :=
  bif (decide (x20_i < ((x1_stops.n : Nat) : Int))) then
    idx x20_i x1_stops.n <|
    nn x1_stops.p fun a0 =>
    xI .i64 (cell h (a0.add (x20_i.toNat * 1))) fun n0 =>
    bif (decide (n0 ≤ x2_to)) then
      idx x20_i x1_stops.n <|
      nn x1_stops.p fun a1 =>
      xI .i64 (cell h (a1.add (x20_i.toNat * 1))) fun n1 =>
      C14 x9_v n1 h fun s0 h0 =>
      apK Try.prog 44 x19_l (.slice s0.p s0.n s0.c) h0 fun s1 h1 =>
      Φ s1 (IntKind.wrap .i64 (x20_i + 1)) h1
    else
      Φ x19_l (IntKind.wrap .i64 (x20_i + 1)) h
  else
    K_e2 x19_l h
def N6_l2_B (x1_stops : Sl) (x2_to : Int) (x8_w : Option Addr) (x9_v : Option Addr) (K_e2 : Sl → Hp → Prop) (s : Sg.T [(19, .c (.slice)), (20, .c (.int .i64))]) (h : Hp) (Φ : Sg.T [(19, .c (.slice)), (20, .c (.int .i64))] → Hp → Prop) : Prop :=
  N6_l2_b x1_stops x2_to x8_w x9_v (fun x19_l x20_i h => Φ (x19_l, x20_i) h) s.1 s.2 h K_e2
def N6_l2 (x1_stops : Sl) (x2_to : Int) (x8_w : Option Addr) (x9_v : Option Addr) (x19_l : Sl) (x20_i : Int) (h : Hp) (K_e2 : Sl → Hp → Prop) : Prop :=
  loopP (N6_l2_B x1_stops x2_to x8_w x9_v K_e2) (x19_l, x20_i) h
noncomputable def N6_l2_t : Xf := loopT [(1, .c (.slice)), (2, .c (.int .i64)), (8, .c (.ptr)), (9, .c (.ptr))] [(19, .c (.slice)), (20, .c (.int .i64))] (codeAt B6 [1, 1, 1, 1, 1, 1, 1, 0, 1, 0, 0]) fun F Q => N6_l2_B F.1 F.2.1 F.2.2.1 F.2.2.2 (fun o0 h' => Q (.exit 2) (Sg.env [(19, .c (.slice))] o0) h')
theorem N6_l2_ok : Sound Try.prog Try.f6.ntmps N6_l2_t (codeAt B6 [1, 1, 1, 1, 1, 1, 1, 0, 1, 0]) := by
  refine loop_sound (fun e => match e with | .exit 2 => [19] | _ => []) (by kernel_rfl) ?_
  intro F Q s h Φ hb
  refine den_sound hE hm _ .leaf _ _ _ (annOk_leaf) ?_
  refine cast ?_ hb
  kernel_rfl
def N6 (x0 : Sl) (x1 : Sl) (x2 : Int) (h : Hp) (K : Bool → Hp → Prop) : Prop :=
  C7 h fun b0 h0 =>
  C8 h0 fun p0 h1 =>
  C8 h1 fun p1 h2 =>
  bif (!b0) then
    K false h2
  else
    peq h2 p0 none fun b1 =>
    bif b1 then
      K false h2
    else
      peq h2 p1 none fun b2 =>
      bif b2 then
        K false h2
      else
        N6_l0 x0 x1 x2 p0 p1 0 h2
          (fun h3 =>
            N6_l2 x1 x2 p0 p1 ⟨none, 0, 0⟩ 0 h3
              (fun s0 h4 =>
                C14 p1 x2 h4 fun s1 h5 =>
                apK Try.prog 44 s0 (.slice s1.p s1.n s1.c) h5 fun s2 h6 =>
                C14 p0 x2 h6 fun s3 h7 =>
                C18 s3 s2 h7 fun b3 h8 =>
                C15 p0 h8 fun n0 b4 h9 =>
                C15 p1 h9 fun n1 b5 h10 =>
                bif b3 then
                  bif (n0 == n1) then
                    bif (b4 == b5) then
                      C17 p0 h10 fun n2 h11 =>
                      C17 p1 h11 fun n3 h12 =>
                      bif (n2 == n3) then
                        C16 p0 h12 fun n4 h13 =>
                        C16 p1 h13 fun n5 h14 =>
                        K (n4 == n5) h14
                      else
                        K false h12
                    else
                      K false h10
                  else
                    K false h10
                else
                  K false h10))
          (fun b6 h15 =>
            K b6 h15)
theorem S6 {x0 : Sl} {x1 : Sl} {x2 : Int} {h : Hp} {K : Bool → Hp → Prop} (hn : N6 x0 x1 x2 h K) : C6 x0 x1 x2 h K := by
  refine calls_of_D Try.func6 (c := B6) rfl (by kernel_rfl) ?_
  refine den_sound hE hm _ (.two .leaf (.two .leaf (.two .leaf (.two .leaf (.two .leaf (.two (.two .leaf (.one (.xf N6_l0_t))) (.two .leaf (.two (.two .leaf (.one (.xf N6_l2_t))) .leaf)))))))) _ _ _ (⟨annOk_leaf, ⟨annOk_leaf, ⟨annOk_leaf, ⟨annOk_leaf, ⟨annOk_leaf, ⟨⟨annOk_leaf, N6_l0_ok⟩, ⟨annOk_leaf, ⟨⟨annOk_leaf, N6_l2_ok⟩, annOk_leaf⟩⟩⟩⟩⟩⟩⟩⟩) ?_
  refine cast ?_ hn
  kernel_rfl
end Go.Proofs.Ytfnlldbaplakoaa

/-
  Two wheels side by side; one way in steps; the law's function WheelCuts.
-/
set_option linter.unusedSimpArgs false
set_option linter.unusedVariables false
namespace Go.Proofs.Ytfnlldbaplakoaa
open Go Go.Hw

theorem Whl.nowle {h : Hp} {W : Nat} {a : St} {F : Nat → Prop} (H : Whl h W a F) : a.now ≤ MaxT ∧ 0 ≤ a.last ∧ a.ts.length ≤ 1024 := by
  obtain ⟨tm, w, bl, H, e1, e2, e3, rfl⟩ := H
  exact ⟨by rw [e1]; exact H.n1, by rw [e2]; exact H.l0, by rw [e3, List.length_map]; exact H.len⟩

structure Two (h0 h : Hp) (W1 W2 : Nat) (a1 a2 : St) (F1 F2 : Nat → Prop) : Prop where
  A : Whl h W1 a1 F1
  B : Whl h W2 a2 F2
  d : ∀ x, F1 x → ¬ F2 x
  f1 : ∀ x, F1 x → h0 x = none
  f2 : ∀ x, F2 x → h0 x = none
  x : Ext none' h0 h
theorem Two.stepA {h0 h h' : Hp} {W1 W2 : Nat} {a1 a2 a' : St} {F1 F2 F' : Nat → Prop} (T : Two h0 h W1 W2 a1 a2 F1 F2) (H : Whl h' W1 a' F') (e : Ext F1 h h') (fp : ∀ x, F' x → F1 x ∨ h x = none) : Two h0 h' W1 W2 a' a2 F' F2 := by
  refine ⟨H, T.B.ext e (fun x hx h1 => T.d x h1 hx), ?_, fresh1 T.x T.f1 fp, T.f2, frame1 T.x T.f1 e⟩
  intro x hx h2
  rcases fp x hx with e1 | e1
  · exact T.d x e1 h2
  · exact T.B.there x h2 e1
theorem Two.stepB {h0 h h' : Hp} {W1 W2 : Nat} {a1 a2 a' : St} {F1 F2 F' : Nat → Prop} (T : Two h0 h W1 W2 a1 a2 F1 F2) (H : Whl h' W2 a' F') (e : Ext F2 h h') (fp : ∀ x, F' x → F2 x ∨ h x = none) : Two h0 h' W1 W2 a1 a' F1 F' := by
  refine ⟨T.A.ext e (fun x hx h1 => T.d x hx h1), H, ?_, T.f1, fresh1 T.x T.f2 fp, frame1 T.x T.f2 e⟩
  intro x hx h2
  rcases fp x h2 with e1 | e1
  · exact T.d x hx e1
  · exact T.A.there x hx e1
theorem Two.ext {h0 h h' : Hp} {W1 W2 : Nat} {a1 a2 : St} {F1 F2 : Nat → Prop} (T : Two h0 h W1 W2 a1 a2 F1 F2) (e : Ext none' h h') : Two h0 h' W1 W2 a1 a2 F1 F2 :=
  ⟨T.A.ext e (fun _ _ e => e), T.B.ext e (fun _ _ e => e), T.d, T.f1, T.f2, T.x.trans e⟩

/-! ### one way in steps -/
theorem filter_lt {ts : List Tm} {t : Tm} (h : t ∈ ts) : (ts.filter (fun x => x.id != t.id)).length < ts.length := by
  have := any_filter (l := ts) (id := t.id)
  have h2 : ts.any (fun x => t.id == x.id) = true := by rw [List.any_eq_true]; exact ⟨t, h, by simp⟩
  rw [h2] at this
  simp only [decide_eq_true_eq] at this
  omega
theorem fire_fuel {to : Int} : ∀ {n m : Nat} {ts : List Tm}, ts.length ≤ n → ts.length ≤ m → fire to n ts = fire to m ts := by
  intro n
  induction n with
  | zero =>
    intro m ts h1 h2
    have : ts = [] := List.length_eq_zero_iff.1 (by omega)
    subst this
    cases m <;> rfl
  | succ n ih =>
    intro m ts h1 h2
    cases m with
    | zero =>
      have : ts = [] := List.length_eq_zero_iff.1 (by omega)
      subst this; rfl
    | succ m =>
      simp only [fire]
      split
      · rename_i t ht
        have := filter_lt (first_in ht)
        rw [ih (m := m) (by omega) (by omega)]
      · rfl
theorem fire_len {to : Int} : ∀ {n : Nat} {ts : List Tm}, (fire to n ts).1.length ≤ n ∧ (fire to n ts).2.length ≤ ts.length := by
  intro n
  induction n with
  | zero => intro ts; exact ⟨Nat.le_refl _, Nat.le_refl _⟩
  | succ n ih =>
    intro ts
    simp only [fire]
    split
    · rename_i t ht
      split
      · have := ih (ts := ts.filter (fun x => x.id != t.id))
        have h2 := List.length_filter_le (fun x : Tm => x.id != t.id) ts
        simp only [List.length_cons]; omega
      · simp
    · simp
theorem fire_two {s t : Int} (hst : s ≤ t) : ∀ {n m : Nat} {ts : List Tm}, ts.length ≤ n → (fire s n ts).2.length ≤ m →
    fire t n ts = ((fire s n ts).1 ++ (fire t m (fire s n ts).2).1, (fire t m (fire s n ts).2).2) := by
  intro n
  induction n with
  | zero =>
    intro m ts h1 h2
    have : ts = [] := List.length_eq_zero_iff.1 (by omega)
    subst this
    cases m <;> rfl
  | succ n ih =>
    intro m ts h1 h2
    by_cases hq : ∃ u, first ts = some u ∧ u.tim ≤ s
    · obtain ⟨u, hu, hus⟩ := hq
      have hl := filter_lt (first_in hu)
      rw [fire_cut hu hus] at h2 ⊢
      rw [fire_cut hu (show u.tim ≤ t by omega)]
      rw [ih (m := m) (by omega) h2]
      rfl
    · have he : fire s (n + 1) ts = ([], ts) := fire_end (fun u hu h => hq ⟨u, hu, h⟩)
      rw [he] at h2 ⊢
      rw [fire_fuel h1 h2]; rfl
theorem clamp_two {now s t : Int} (hn : now ≤ MaxT) (hst : s ≤ t) : clampT (clampT now s) t = clampT now t := by
  unfold clampT MaxT at *
  repeat' split
  all_goals omega
theorem clamp_mono {now s t : Int} (hst : s ≤ t) : clampT now s ≤ clampT now t ∨ MaxT < now := by
  unfold clampT MaxT at *
  repeat' split
  all_goals omega
theorem adv_two {a : St} {s t : Int} (hn : a.now ≤ MaxT) (hst : s ≤ t) : (advTs a t).1 = (advTs a s).1 ++ (advTs (advanced a s) t).1 ∧ advanced (advanced a s) t = advanced a t := by
  have hc := clamp_two (t := t) hn hst
  have hm : clampT a.now s ≤ clampT a.now t := by rcases clamp_mono (now := a.now) hst with h | h <;> omega
  have e := fire_two hm (n := a.ts.length) (m := (advTs a s).2.length) (ts := a.ts) (Nat.le_refl _) (Nat.le_refl _)
  have e' : advTs (advanced a s) t = fire (clampT a.now t) (advTs a s).2.length (advTs a s).2 := by
    unfold advTs advanced
    simp only [hc]; rfl
  refine ⟨?_, ?_⟩
  · rw [e']; exact congrArg Prod.fst e
  · have : (advanced (advanced a s) t).ts = (advanced a t).ts := by
      show (advTs (advanced a s) t).2 = (advTs a t).2
      rw [e']; exact (congrArg Prod.snd e).symm
    unfold advanced at this ⊢
    simp only [hc] at this ⊢
    rw [this]

theorem appN {s s2 : Sl} {vs : List Value} {l : List Tm} {h : Hp} {F : Sl → Hp → Prop} (ho : Own h 44 3 s vs) (hb : Own h 44 3 s2 (frs l)) (hlen : s.n + s2.n ≤ 1099511627776)
    (hF : ∀ s' h', Own h' 44 3 s' (vs ++ frs l) → s'.n = s.n + s2.n → Ext (fun b => s.p = some (bk b)) h h' → (∀ b, s'.p = some (bk b) → s.p = some (bk b) ∨ h b = none) → F s' h') :
    apK Try.prog 44 s (.slice s2.p s2.n s2.c) h F := by
  refine apK_own (n := s2.n) (ns := frs l) ho p44a p44z (fun _ => rfl) ?_ hb.1 ?_ (by rw [p44b]; omega) hF
  · intro G hG
    refine srcK_own hb (Nat.le_refl _) ?_
    rw [← hb.1, List.take_length]; exact hG
  · intro v hv
    obtain ⟨t, _, ht⟩ := List.mem_flatMap.1 hv
    simp [frc] at ht
    rcases ht with rfl | rfl | rfl <;> rfl

end Go.Proofs.Ytfnlldbaplakoaa

/-
  What fires: each once, in order, neither early nor late.
-/
set_option linter.unusedSimpArgs false
set_option linter.unusedVariables false
namespace Go.Proofs.Ytfnlldbaplakoaa
open Go Go.Hw

theorem Whl.ids {h : Hp} {W : Nat} {a : St} {F : Nat → Prop} (H : Whl h W a F) : a.ts.Pairwise (fun a b => a.id < b.id) ∧ (∀ t ∈ a.ts, 1 ≤ t.id ∧ t.id ≤ a.last) ∧ ∀ t ∈ a.ts, a.now ≤ t.tim ∧ t.tim ≤ MaxT := by
  obtain ⟨tm, w, bl, H, e1, e2, e3, rfl⟩ := H
  rw [e3, e2, e1]
  refine ⟨by rw [List.pairwise_map]; exact H.ids, ?_, ?_⟩
  · intro t ht
    obtain ⟨b, hb, rfl⟩ := List.mem_map.1 ht
    exact H.idl b hb
  · intro t ht
    obtain ⟨b, hb, rfl⟩ := List.mem_map.1 ht
    obtain ⟨j, hj, hb'⟩ := (H.all b).1 hb
    exact H.pl.tim j hj b hb'

theorem same_id {ts : List Tm} (hp : ts.Pairwise (fun a b => a.id < b.id)) {t u : Tm} (ht : t ∈ ts) (hu : u ∈ ts) (e : t.id = u.id) : t = u := by
  obtain ⟨i, hi, rfl⟩ := List.getElem_of_mem ht
  obtain ⟨k, hk, rfl⟩ := List.getElem_of_mem hu
  rw [List.pairwise_iff_getElem] at hp
  rcases Nat.lt_trichotomy i k with q | q | q
  · have := hp i k hi hk q; omega
  · subst q; rfl
  · have := hp k i hk hi q; omega

/-- one before another one -/
def before (a b : Tm) : Prop := a.tim < b.tim ∨ a.tim = b.tim ∧ a.id < b.id
theorem first_least {ts : List Tm} {u : Tm} (hp : ts.Pairwise (fun a b => a.id < b.id)) (hf : first ts = some u) : ∀ x ∈ ts, x.id ≠ u.id → before u x := by
  cases ts with
  | nil => simp [first] at hf
  | cons a l =>
    simp only [first, Option.some.injEq] at hf
    obtain ⟨_, h2⟩ := foldl_pick hp
    rw [hf] at h2
    intro x hx hne
    have := h2 x hx
    unfold before; omega

structure Fired (to : Int) (ts o r : List Tm) : Prop where
  mem : ∀ t, t ∈ ts ↔ t ∈ o ∨ t ∈ r
  apart : ∀ t ∈ o, ∀ u ∈ r, t.id ≠ u.id
  sorted : o.Pairwise before
  due : ∀ t ∈ o, t.tim ≤ to
  late : ∀ t ∈ r, to < t.tim
  len : o.length + r.length = ts.length
  sub : r.Sublist ts

theorem fired {to : Int} : ∀ {n : Nat} {ts : List Tm}, ts.Pairwise (fun a b => a.id < b.id) → ts.length ≤ n → Fired to ts (fire to n ts).1 (fire to n ts).2 := by
  intro n
  induction n with
  | zero =>
    intro ts _ hl
    have : ts = [] := List.length_eq_zero_iff.1 (by omega)
    subst this
    exact ⟨by simp [fire], by simp [fire], by simp [fire], by simp [fire], by simp [fire], rfl, List.Sublist.refl _⟩
  | succ n ih =>
    intro ts hp hl
    cases hf : first ts with
    | none =>
      have := first_none hf
      subst this
      have e : fire to (n + 1) ([] : List Tm) = ([], []) := rfl
      rw [e]
      exact ⟨by simp, by simp, by simp, by simp, by simp, rfl, List.Sublist.refl _⟩
    | some u =>
      have hu := first_in hf
      have hbef := first_least hp hf
      by_cases hle : u.tim ≤ to
      · rw [fire_cut hf hle]
        have hlt := filter_lt hu
        have hp' : (ts.filter (fun x => x.id != u.id)).Pairwise (fun a b => a.id < b.id) := hp.filter _
        have I := ih hp' (by omega)
        have hmem : ∀ x, x ∈ ts.filter (fun x => x.id != u.id) ↔ x ∈ ts ∧ x.id ≠ u.id := by intro x; simp
        have hlen : (ts.filter (fun x => x.id != u.id)).length + 1 = ts.length := by
          obtain ⟨A, B, e⟩ := List.append_of_mem hu
          have hA : ∀ x ∈ A, x.id ≠ u.id := by
            intro x hx he
            rw [e, List.pairwise_append] at hp
            have := hp.2.2 x hx u (by simp); omega
          have hB : ∀ x ∈ B, x.id ≠ u.id := by
            intro x hx he
            rw [e, List.pairwise_append, List.pairwise_cons] at hp
            have := hp.2.1.1 x hx; omega
          have f1 : A.filter (fun x => x.id != u.id) = A := by rw [List.filter_eq_self]; intro x hx; simpa using hA x hx
          have f2 : B.filter (fun x => x.id != u.id) = B := by rw [List.filter_eq_self]; intro x hx; simpa using hB x hx
          rw [e, List.filter_append, List.filter_cons, f1, f2]
          simp; omega
        refine ⟨?_, ?_, ?_, ?_, I.late, ?_, I.sub.trans List.filter_sublist⟩
        · intro t
          constructor
          · intro ht
            by_cases e : t.id = u.id
            · have := same_id hp ht hu e; subst this; exact .inl (List.mem_cons_self ..)
            · rcases (I.mem t).1 ((hmem t).2 ⟨ht, e⟩) with h | h
              · exact .inl (List.mem_cons_of_mem _ h)
              · exact .inr h
          · rintro (h | h)
            · rcases List.mem_cons.1 h with e | h
              · rw [e]; exact hu
              · exact ((hmem t).1 ((I.mem t).2 (.inl h))).1
            · exact ((hmem t).1 ((I.mem t).2 (.inr h))).1
        · intro t ht x hx
          rcases List.mem_cons.1 ht with e | h
          · rw [e]; exact fun e' => ((hmem x).1 ((I.mem x).2 (.inr hx))).2 e'.symm
          · exact I.apart t h x hx
        · rw [List.pairwise_cons]
          refine ⟨fun x hx => ?_, I.sorted⟩
          have := (hmem x).1 ((I.mem x).2 (.inl hx))
          exact hbef x this.1 this.2
        · intro t ht
          rcases List.mem_cons.1 ht with e | h
          · rw [e]; exact hle
          · exact I.due t h
        · have := I.len
          simp only [List.length_cons]; omega
      · have e : fire to (n + 1) ts = ([], ts) := fire_end (fun t ht => by rw [hf] at ht; cases ht; exact hle)
        rw [e]
        refine ⟨by simp, by simp, by simp, by simp, ?_, by simp, List.Sublist.refl _⟩
        intro t ht
        by_cases e' : t.id = u.id
        · have := same_id hp ht hu e'; subst this; omega
        · have := hbef t ht e'; unfold before at this; omega

/-! ### the books of WheelOnce -/
def iv (n : Int) : Value := .int .i64 n
structure Book (at' th : List Int) (P : Tm → Prop) (last : Int) : Prop where
  la : (at'.length : Int) = last + 1
  lt : (th.length : Int) = last + 1
  ids : ∀ t, P t → 1 ≤ t.id ∧ t.id ≤ last
  tim : ∀ t, P t → at'[t.id.toNat]? = some t.tim
  one : ∀ t u, P t → P u → t.id = u.id → t = u
  yes : ∀ t, P t → th[t.id.toNat]? = some 1
  no : ∀ k : Nat, (k : Int) ≤ last → (∀ t, P t → t.id ≠ k) → th[k]? = some 0
theorem Book.cut {at' th : List Int} {P P' : Tm → Prop} {last id : Int} (B : Book at' th P last) (h0 : 0 ≤ id) (hP : ∀ t, P' t ↔ P t ∧ t.id ≠ id) (hid : id ≤ last) : Book at' (th.set id.toNat 0) P' last := by
  refine ⟨B.la, by rw [List.length_set]; exact B.lt, fun t ht => B.ids t ((hP t).1 ht).1, fun t ht => B.tim t ((hP t).1 ht).1, fun t u ht hu => B.one t u ((hP t).1 ht).1 ((hP u).1 hu).1, ?_, ?_⟩
  · intro t ht
    have h1 := (hP t).1 ht
    have h2 := B.ids t h1.1
    rw [List.getElem?_set_ne (by omega)]; exact B.yes t h1.1
  · intro k hk hno
    by_cases e : (k : Int) = id
    · have : id.toNat = k := by omega
      rw [this, List.getElem?_set_self (by have := B.lt; omega)]
    · rw [List.getElem?_set_ne (by omega)]
      refine B.no k hk ?_
      intro t ht hk'
      exact hno t ((hP t).2 ⟨ht, by omega⟩) hk'
theorem Book.add {at' th : List Int} {P P' : Tm → Prop} {last : Int} {u : Tm} (B : Book at' th P last) (hl : 0 ≤ last) (hu : u.id = last + 1) (hP : ∀ t, P' t ↔ P t ∨ t = u) : Book (at' ++ [u.tim]) (th ++ [1]) P' (last + 1) := by
  have hla := B.la
  have hlt := B.lt
  refine ⟨by simp; omega, by simp; omega, ?_, ?_, ?_, ?_, ?_⟩
  · intro t ht
    rcases (hP t).1 ht with h | h
    · have := B.ids t h; omega
    · subst h; omega
  · intro t ht
    rcases (hP t).1 ht with h | h
    · have := B.ids t h
      rw [List.getElem?_append_left (by omega)]; exact B.tim t h
    · subst h
      rw [List.getElem?_append_right (by omega)]
      have : t.id.toNat - at'.length = 0 := by omega
      rw [this]; rfl
  · intro t v ht hv e
    rcases (hP t).1 ht with h | h <;> rcases (hP v).1 hv with h' | h'
    · exact B.one t v h h' e
    · subst h'; have := B.ids t h; omega
    · subst h; have := B.ids v h'; omega
    · rw [h, h']
  · intro t ht
    rcases (hP t).1 ht with h | h
    · have := B.ids t h
      rw [List.getElem?_append_left (by omega)]; exact B.yes t h
    · subst h
      rw [List.getElem?_append_right (by omega)]
      have : t.id.toNat - th.length = 0 := by omega
      rw [this]; rfl
  · intro k hk hno
    by_cases e : (k : Int) = last + 1
    · exact absurd (by omega) (hno u ((hP u).2 (.inr rfl)))
    · rw [List.getElem?_append_left (by omega)]
      exact B.no k (by omega) (fun t ht => hno t ((hP t).2 (.inl ht)))
theorem Book.congr {at' th : List Int} {P P' : Tm → Prop} {last : Int} (B : Book at' th P last) (hP : ∀ t, P' t ↔ P t) : Book at' th P' last :=
  ⟨B.la, B.lt, fun t ht => B.ids t ((hP t).1 ht), fun t ht => B.tim t ((hP t).1 ht), fun t u ht hu => B.one t u ((hP t).1 ht) ((hP u).1 hu), fun t ht => B.yes t ((hP t).1 ht), fun k hk hno => B.no k hk (fun t ht => hno t ((hP t).2 ht))⟩

/-- append of one int -/
theorem p3a : Try.prog.cellsOf 3 = 1 := by kernel_rfl
theorem p3z : (zc Try.prog 3).length = 1 := by kernel_rfl
theorem p3b : Try.prog.bytesOf 3 = 8 := by kernel_rfl
theorem app8 {s : Sl} {l : List Int} {h : Hp} {F : Sl → Hp → Prop} {n : Int} {b0 : Nat} (ho : Own h 3 1 s (l.map iv)) (hb : Blk h b0 3 [iv n]) (hlen : s.n ≤ 15000000000000)
    (hF : ∀ s' h', Own h' 3 1 s' ((l ++ [n]).map iv) → s'.n = s.n + 1 → Ext (fun b => s.p = some (bk b)) h h' → (∀ b, s'.p = some (bk b) → s.p = some (bk b) ∨ h b = none) → F s' h') :
    apK Try.prog 3 s (.slice (some (bk b0)) 1 1) h F := by
  refine apK_own (n := 1) (ns := [iv n]) ho p3a p3z (fun _ => rfl) ?_ rfl (by simp [iv, plain]) (by rw [p3b]; omega) ?_
  · intro G hG
    have : rdN h (bk b0) 0 (1 * 1) = some [iv n] := by
      have := rdN_blk hb 1 0 (by simp)
      simpa using this
    unfold srcK
    simp only [this]; exact hG
  · intro s' h' ho'
    have : (l ++ [n]).map iv = l.map iv ++ [iv n] := by simp
    rw [← this] at ho'
    exact hF s' h' ho'

end Go.Proofs.Ytfnlldbaplakoaa

set_option linter.unusedVariables false
set_option maxRecDepth 100000
namespace Go.Proofs.Ytfnlldbaplakoaa
open Go Go.Hw
/-! ### 10 slipway/slipwaylaw07.step -/
noncomputable def B10 : Code := match Try.f10.body with | some c => c | none => .skip
def N10 (x0 : Option Addr) (x1 : Option Addr) (x2 : Option Addr) (x3_0 : Int) (x3_1 : Int) (x3_2 : Int) (h : Hp) (K : Bool → Hp → Prop) : Prop :=
  nw h (.cells ⟨[.int .i64 x3_0, .int .i64 x3_1, .int .i64 x3_2]⟩ 34) fun b0 h0 =>
  xI .i64 (cell h0 (bk b0)) fun n0 =>
  bif (n0 == 1) then
    xI .i64 (cell h0 ((bk b0).add 1)) fun n1 =>
    xI .i64 (cell h0 ((bk b0).add 2)) fun n2 =>
    C12 x1 n1 n2 h0 fun n3 n4 h1 =>
    xI .i64 (cell h1 ((bk b0).add 1)) fun n5 =>
    xI .i64 (cell h1 ((bk b0).add 2)) fun n6 =>
    C20 x2 n5 n6 h1 fun n7 n8 h2 =>
    bif (n3 == n7) then
      K (n4 == n8) h2
    else
      K false h2
  else
    bif (n0 == 2) then
      xI .i64 (cell h0 ((bk b0).add 1)) fun n9 =>
      xI .i64 (cell h0 ((bk b0).add 1)) fun n10 =>
      C13 x1 n9 h0 fun b1 h3 =>
      both (xI .i64 (cell h3 ((bk b0).add 1)) fun n11 => Only (.int .i64 n10) h3 (.int .i64 n11) h3) <|
      C21 x2 n10 h3 fun b2 h4 =>
      K (b1 == b2) h4
    else
      bif (n0 == 3) then
        xI .i64 (cell h0 ((bk b0).add 1)) fun n12 =>
        C14 x1 n12 h0 fun s0 h5 =>
        xI .i64 (cell h5 ((bk b0).add 1)) fun n13 =>
        C22 x2 n13 h5 fun s1 h6 =>
        C18 s0 s1 h6 fun b3 h7 =>
        C23 x0 s0 s1 h7 fun h8 =>
        K b3 h8
      else
        bif (n0 == 4) then
          C15 x1 h0 fun n14 b4 h9 =>
          C24 x2 h9 fun n15 b5 h10 =>
          bif (n14 == n15) then
            K (b4 == b5) h10
          else
            K false h10
        else
          bif (n0 == 5) then
            C17 x1 h0 fun n16 h11 =>
            C25 x2 h11 fun n17 h12 =>
            bif (n16 == n17) then
              C16 x1 h12 fun n18 h13 =>
              C26 x2 h13 fun n19 h14 =>
              K (n18 == n19) h14
            else
              K false h12
          else
            K true h0
theorem S10 {x0 : Option Addr} {x1 : Option Addr} {x2 : Option Addr} {x3_0 : Int} {x3_1 : Int} {x3_2 : Int} {h : Hp} {K : Bool → Hp → Prop} (hn : N10 x0 x1 x2 x3_0 x3_1 x3_2 h K) : C10 x0 x1 x2 x3_0 x3_1 x3_2 h K := by
  refine calls_of_D Try.func10 (c := B10) rfl (by kernel_rfl) ?_
  refine den_sound hE hm _ (.two .leaf (.two (.two .leaf (.one (.two .leaf (.two .leaf (.two .leaf (.two (.two (.ord [0, 1, 2, 4, 5, 6, 3, 7, 8, 9]) .leaf) .leaf)))))) .leaf)) _ _ _ (⟨annOk_leaf, ⟨⟨annOk_leaf, ⟨annOk_leaf, ⟨annOk_leaf, ⟨annOk_leaf, ⟨⟨trivial, annOk_leaf⟩, annOk_leaf⟩⟩⟩⟩⟩, annOk_leaf⟩⟩) ?_
  refine cast ?_ hn
  kernel_rfl
end Go.Proofs.Ytfnlldbaplakoaa

set_option linter.unusedVariables false
set_option maxRecDepth 100000
namespace Go.Proofs.Ytfnlldbaplakoaa
open Go Go.Hw
/-! ### 23 (*slipway/slipwaylaw07.kept).take -/
noncomputable def B23 : Code := match Try.f23.body with | some c => c | none => .skip
def N23 (x0 : Option Addr) (x1 : Sl) (x2 : Sl) (h : Hp) (K : Hp → Prop) : Prop :=
  nn x0 fun a0 =>
  xL (cell h a0) fun s0 =>
  nw h (.cells ⟨[.slice x1.p x1.n x1.c]⟩ 41) fun b0 h0 =>
  apK Try.prog 41 s0 (.slice (some (bk b0)) 1 1) h0 fun s1 h1 =>
  nn x0 fun a1 =>
  st h1 a1 (.slice s1.p s1.n s1.c) fun h2 =>
  nn x0 fun a2 =>
  xL (cell h2 (a2.add 1)) fun s2 =>
  nw h2 (.cells ⟨[.slice x2.p x2.n x2.c]⟩ 41) fun b1 h3 =>
  apK Try.prog 41 s2 (.slice (some (bk b1)) 1 1) h3 fun s3 h4 =>
  nn x0 fun a3 =>
  st h4 (a3.add 1) (.slice s3.p s3.n s3.c) fun h5 =>
  K h5
theorem S23 {x0 : Option Addr} {x1 : Sl} {x2 : Sl} {h : Hp} {K : Hp → Prop} (hn : N23 x0 x1 x2 h K) : C23 x0 x1 x2 h K := by
  refine calls_of_D Try.func23 (c := B23) rfl (by kernel_rfl) ?_
  refine den_sound hE hm _ .leaf _ _ _ (annOk_leaf) ?_
  refine cast ?_ hn
  kernel_rfl
end Go.Proofs.Ytfnlldbaplakoaa

/-
  A call at both wheels, told by separate blocks: the law's function step.
-/
set_option linter.unusedSimpArgs false
set_option linter.unusedVariables false
namespace Go.Proofs.Ytfnlldbaplakoaa
open Go Go.Hw

def whlA (W : Nat) (a : St) : Asn := asnF (fun h F => Whl h W a F) (fun hl hp => hp.ext (Ext.of_agree hl) (fun x hx hn => hn hx)) (fun hp hx => hp.there _ hx)
def refA (R : Nat) (a : St) : Asn := asnF (fun h F => Ref h R a F) (fun hl hp => hp.ext (Ext.of_agree hl) (fun x hx hn => hn hx)) (fun hp hx => hp.there _ hx)

section
variable {L : List Asn} {W R : Nat} {a : St} {h : Hp}
theorem whl_of (hs : Sat (L ++ [whlA W a]) h) : ∃ F, Whl h W a F := hs.get' 0 rfl
theorem s12 {t tag : Int} {K : Int → Int → Hp → Prop} (hs : Sat (L ++ [whlA W a]) h) (hlast : a.last < 4611686018427387904) (h70 : 1024 ≤ a.ts.length → K 0 70 h)
    (hK : a.ts.length < 1024 → ∀ h', Sat (L ++ [whlA W (armed a t tag)]) h' → K (a.last + 1) 0 h') : C12 (some (bk W)) t tag h K := by
  obtain ⟨F, hF, hc⟩ := hs.call
  exact c12' hF hlast h70 fun hl h' F' H e fp => hK hl h' (hc h' _ F' H e fp)
theorem s13 {id : Int} {K : Bool → Hp → Prop} (hs : Sat (L ++ [whlA W a]) h)
    (hK : ∀ h', Sat (L ++ [whlA W (cancel a id)]) h' → K (a.ts.any (fun x => id == x.id)) h') : C13 (some (bk W)) id h K := by
  obtain ⟨F, hF, hc⟩ := hs.call
  exact c13' hF fun h' F' H e fp => hK h' (hc h' _ F' H e fun x hx => .inl (fp x hx))
theorem s14 {t : Int} {K : Sl → Hp → Prop} (hs : Sat (L ++ [whlA W a]) h)
    (hK : ∀ h' s, Sat (L ++ [whlA W (advanced a t), Hw.own 44 3 s (frs (advTs a t).1)]) h' → K s h') : C14 (some (bk W)) t h K := by
  obtain ⟨F, hF, hc⟩ := hs.call2
  refine c14' hF fun h' F' s H ho fr e fp => hK h' s (hc h' _ _ F' (fun x => s.p = some (bk x)) H ⟨fun _ => Iff.rfl, ho⟩ (fun x hx hg => (fr x hg).1 hx) e fp fun x hg => (fr x hg).2)
theorem s15 {K : Int → Bool → Hp → Prop} (hs : Sat (L ++ [whlA W a]) h)
    (hK : ∀ h', Ext none' h h' → match first a.ts with | some t => K t.tim true h' | none => K 0 false h') : C15 (some (bk W)) h K := by
  obtain ⟨F, hF⟩ := whl_of hs
  exact c15' hF hK
theorem s16 {K : Int → Hp → Prop} (hs : Sat (L ++ [whlA W a]) h) (hK : K (a.ts.length : Int) h) : C16 (some (bk W)) h K := by
  obtain ⟨F, hF⟩ := whl_of hs
  exact c16' hF hK
theorem s17 {K : Int → Hp → Prop} (hs : Sat (L ++ [whlA W a]) h) (hK : K a.now h) : C17 (some (bk W)) h K := by
  obtain ⟨F, hF⟩ := whl_of hs
  exact c17' hF hK
theorem ref_of (hs : Sat (L ++ [refA R a]) h) : ∃ F, Ref h R a F := hs.get' 0 rfl
theorem s20 {t tag : Int} {K : Int → Int → Hp → Prop} (hs : Sat (L ++ [refA R a]) h) (hlast : a.last < 4611686018427387904) (hlast0 : 0 ≤ a.last) (h70 : 1024 ≤ a.ts.length → K 0 70 h)
    (hK : a.ts.length < 1024 → ∀ h', Sat (L ++ [refA R (armed a t tag)]) h' → K (a.last + 1) 0 h') : C20 (some (bk R)) t tag h K := by
  obtain ⟨F, hF, hc⟩ := hs.call
  exact c20' hF hlast hlast0 h70 fun hl h' F' H e fp => hK hl h' (hc h' _ F' H e fp)
theorem s21 {id : Int} {K : Bool → Hp → Prop} (hs : Sat (L ++ [refA R a]) h) (hl : a.ts.length < 1099511627776)
    (hK : ∀ h', Sat (L ++ [refA R (cancel a id)]) h' → K (a.ts.any (fun x => id == x.id)) h') : C21 (some (bk R)) id h K := by
  obtain ⟨F, hF, hc⟩ := hs.call
  exact c21' hF hl fun h' F' H e fp => hK h' (hc h' _ F' H e fp)
theorem s22 {t : Int} {K : Sl → Hp → Prop} (hs : Sat (L ++ [refA R a]) h) (hl : a.ts.length < 1099511627776)
    (hK : ∀ h' s, Sat (L ++ [refA R (advanced a t), Hw.own 44 3 s (frs (advTs a t).1)]) h' → K s h') : C22 (some (bk R)) t h K := by
  obtain ⟨F, hF, hc⟩ := hs.call2
  refine c22' hF hl fun h' F' s H ho fr e fp => hK h' s (hc h' _ _ F' (fun x => s.p = some (bk x)) H ⟨fun _ => Iff.rfl, ho⟩ (fun x hx hg => (fr x hg).1 hx) e fp fun x hg => (fr x hg).2)
theorem s24 {K : Int → Bool → Hp → Prop} (hs : Sat (L ++ [refA R a]) h) (hl : a.ts.length < 1099511627776)
    (hK : match first a.ts with | some t => K t.tim true h | none => K 0 false h) : C24 (some (bk R)) h K := by
  obtain ⟨F, hF⟩ := ref_of hs
  exact c24' hF hl hK
theorem s25 {K : Int → Hp → Prop} (hs : Sat (L ++ [refA R a]) h) (hK : K a.now h) : C25 (some (bk R)) h K := by
  obtain ⟨F, hF⟩ := ref_of hs
  exact c25' hF hK
theorem s26 {K : Int → Hp → Prop} (hs : Sat (L ++ [refA R a]) h) (hK : K (a.ts.length : Int) h) : C26 (some (bk R)) h K := by
  obtain ⟨F, hF⟩ := ref_of hs
  exact c26' hF hK
end

/-- what a kept list is -/
def Good3 (e : E3) : Prop := ∃ l : List Tm, e.2.2 = frs l ∧ l.length ≤ 1024
abbrev keptL (k : Nat) (E0 E : List E3) : List Asn := [kept0 k [] (E0 ++ E), star (E.map own3), star (E.map wer3)]
theorem s10 {L : List Asn} {k W R : Nat} {n0 n1 n2 : Int} {a : St} {E0 E : List E3} {h : Hp} {K : Bool → Hp → Prop} (hs : Sat (L ++ ([whlA W a, refA R a] ++ keptL k E0 E)) h)
    (hl : (E0 ++ E).length ≤ 1099511627776) (hlast : a.last < 4611686018427387904)
    (hK : ∀ h' a' E', Sat (L ++ ([whlA W a', refA R a'] ++ keptL k E0 E')) h' → a'.last ≤ a.last + 1 → E'.length ≤ E.length + 1 → ((∀ e ∈ E, Good3 e) → ∀ e ∈ E', Good3 e) → K true h') :
    C10 (some (bk k)) (some (bk W)) (some (bk R)) n0 n1 n2 h K := by
  apply S10; unfold N10
  obtain ⟨nl1, nl2, nl3⟩ : a.now ≤ MaxT ∧ 0 ≤ a.last ∧ a.ts.length ≤ 1024 := by
    obtain ⟨F, hF⟩ := hs.get' 0 (A := whlA W a) rfl
    exact Whl.nowle hF
  intro b0 e0
  have hs1 := hs.new e0 (.cells ⟨[.int .i64 n0, .int .i64 n1, .int .i64 n2]⟩ 34 (0, 0))
  revert hs1
  generalize upd h b0 _ = h1
  intro hs1
  change Sat (L ++ [whlA W a, refA R a, kept0 k [] (E0 ++ E), star (E.map own3), star (E.map wer3), row b0 34 [.int .i64 n0, .int .i64 n1, .int .i64 n2]]) h1 at hs1
  have idle : ∀ h', Ext none' h1 h' → K true h' := by
    intro h' e
    refine hK h' a E ?_ (by omega) (by omega) (fun hg => hg)
    exact (hs1.ext e).sel [0, 1, 2, 3, 4] (by decide) rfl
  have fin : ∀ h' a', Sat (L ++ [kept0 k [] (E0 ++ E), star (E.map own3), star (E.map wer3), row b0 34 [.int .i64 n0, .int .i64 n1, .int .i64 n2], whlA W a', refA R a']) h' → a'.last ≤ a.last + 1 → K true h' := by
    intro h' a' hs' hla
    refine hK h' a' E ?_ hla (by omega) (fun hg => hg)
    exact hs'.sel [4, 5, 0, 1, 2] (by decide) rfl
  have goW : Sat ((L ++ [refA R a, kept0 k [] (E0 ++ E), star (E.map own3), star (E.map wer3), row b0 34 [.int .i64 n0, .int .i64 n1, .int .i64 n2]]) ++ [whlA W a]) h1 := by
    have := hs1.sel [1, 2, 3, 4, 5, 0] (M' := [_, _, _, _, _, _]) (by decide) rfl
    simpa using this
  have goR : ∀ {h' : Hp} {a' : St}, Sat ((L ++ [refA R a, kept0 k [] (E0 ++ E), star (E.map own3), star (E.map wer3), row b0 34 [.int .i64 n0, .int .i64 n1, .int .i64 n2]]) ++ [whlA W a']) h' →
      Sat (L ++ [refA R a, kept0 k [] (E0 ++ E), star (E.map own3), star (E.map wer3), row b0 34 [.int .i64 n0, .int .i64 n1, .int .i64 n2], whlA W a']) h' ∧
      Sat ((L ++ [kept0 k [] (E0 ++ E), star (E.map own3), star (E.map wer3), row b0 34 [.int .i64 n0, .int .i64 n1, .int .i64 n2], whlA W a']) ++ [refA R a]) h' := by
    intro h' a' hs'
    have h1 : Sat (L ++ [refA R a, kept0 k [] (E0 ++ E), star (E.map own3), star (E.map wer3), row b0 34 [.int .i64 n0, .int .i64 n1, .int .i64 n2], whlA W a']) h' := by simpa using hs'
    refine ⟨h1, ?_⟩
    have := h1.sel [1, 2, 3, 4, 5, 0] (M' := [_, _, _, _, _, _]) (by decide) rfl
    simpa using this
  refine hs1.lI 5 rfl rfl ?_
  simp only [add_bk]
  cases hq1 : (n0 == 1) with
  | true =>
    rw [cond_true]
    refine hs1.lI 5 rfl rfl ?_
    refine hs1.lI 5 rfl rfl ?_
    refine s12 goW (by omega) ?_ ?_
    · intro hfull
      refine hs1.lI 5 rfl rfl ?_
      refine hs1.lI 5 rfl rfl ?_
      refine s20 (goR goW).2 (by omega) nl2 ?_ (fun hh => absurd hfull (by omega))
      intro _
      simp only [beq_self_eq_true, cond_true]
      exact idle h1 Ext.refl
    · intro hfree h2 hs2
      obtain ⟨g1, g2⟩ := goR hs2
      refine g1.lI 4 rfl rfl ?_
      refine g1.lI 4 rfl rfl ?_
      refine s20 g2 (by omega) nl2 (fun hh => absurd hfree (by omega)) ?_
      intro _ h3 hs3
      simp only [beq_self_eq_true, cond_true]
      exact fin h3 _ (by simpa using hs3) (Int.le_refl _)
  | false =>
    rw [cond_false]
    cases hq2 : (n0 == 2) with
    | true =>
      rw [cond_true]
      refine hs1.lI 5 rfl rfl ?_
      refine hs1.lI 5 rfl rfl ?_
      refine s13 goW ?_
      intro h2 hs2
      obtain ⟨g1, g2⟩ := goR hs2
      refine ⟨g1.lI 4 rfl rfl ⟨rfl, rfl⟩, ?_⟩
      refine s21 g2 (by omega) ?_
      intro h3 hs3
      simp only [beq_self_eq_true]
      exact fin h3 _ (by simpa using hs3) (by have : (cancel a n1).last = a.last := rfl; omega)
    | false =>
      rw [cond_false]
      cases hq3 : (n0 == 3) with
      | true =>
        rw [cond_true]
        refine hs1.lI 5 rfl rfl ?_
        refine s14 goW ?_
        intro h2 s1 hs2
        have g1 : Sat (L ++ [refA R a, kept0 k [] (E0 ++ E), star (E.map own3), star (E.map wer3), row b0 34 [.int .i64 n0, .int .i64 n1, .int .i64 n2], whlA W (advanced a n1), Hw.own 44 3 s1 (frs (advTs a n1).1)]) h2 := by simpa using hs2
        refine g1.lI 4 rfl rfl ?_
        have g2 : Sat ((L ++ [kept0 k [] (E0 ++ E), star (E.map own3), star (E.map wer3), row b0 34 [.int .i64 n0, .int .i64 n1, .int .i64 n2], whlA W (advanced a n1), Hw.own 44 3 s1 (frs (advTs a n1).1)]) ++ [refA R a]) h2 := by
          have := g1.sel [1, 2, 3, 4, 5, 6, 0] (M' := [_, _, _, _, _, _, _]) (by decide) rfl
          simpa using this
        refine s22 g2 (by omega) ?_
        intro h3 s2 hs3
        have g3 : Sat (L ++ [kept0 k [] (E0 ++ E), star (E.map own3), star (E.map wer3), row b0 34 [.int .i64 n0, .int .i64 n1, .int .i64 n2], whlA W (advanced a n1), Hw.own 44 3 s1 (frs (advTs a n1).1), refA R (advanced a n1), Hw.own 44 3 s2 (frs (advTs a n1).1)]) h3 := by simpa using hs3
        have hfl := fire_len (to := clampT a.now n1) (n := a.ts.length) (ts := a.ts)
        refine c18' (g3.own 5 rfl) (g3.own 7 rfl) (by unfold advTs; omega) ?_
        apply S23; unfold N23
        have g4 : Sat ((L ++ [whlA W (advanced a n1), refA R (advanced a n1)]) ++ [kept0 k [] (E0 ++ E), star (E.map own3), star (E.map wer3), own3 (s1, s2, frs (advTs a n1).1), wer3 (s1, s2, frs (advTs a n1).1)]) h3 := by
          have := g3.sel [4, 6, 0, 1, 2, 5, 7] (M' := [_, _, _, _, _, _, _]) (by decide) rfl
          simpa [own3, wer3] using this
        refine take3 g4 hl ?_
        intro h4 hs4
        refine hK h4 (advanced a n1) (E ++ [(s1, s2, frs (advTs a n1).1)]) (by rw [List.append_assoc] at hs4; exact hs4) (by show a.last ≤ _; omega) (by simp) ?_
        intro hg e he
        rcases List.mem_append.1 he with he | he
        · exact hg e he
        · simp at he; subst he
          exact ⟨_, rfl, by unfold advTs; omega⟩
      | false =>
        rw [cond_false]
        cases hq4 : (n0 == 4) with
        | true =>
          rw [cond_true]
          refine s15 goW ?_
          intro h2 e2
          have g2 := (goR (goW.ext e2)).2
          cases hf : first a.ts with
          | none =>
            refine s24 g2 (by omega) ?_
            rw [hf]
            simp only [beq_self_eq_true, cond_true]
            exact idle h2 e2
          | some u =>
            refine s24 g2 (by omega) ?_
            rw [hf]
            simp only [beq_self_eq_true, cond_true]
            exact idle h2 e2
        | false =>
          rw [cond_false]
          cases hq5 : (n0 == 5) with
          | true =>
            rw [cond_true]
            refine s17 goW ?_
            refine s25 (goR goW).2 ?_
            simp only [beq_self_eq_true, cond_true]
            refine s16 goW ?_
            refine s26 (goR goW).2 ?_
            simp only [beq_self_eq_true]
            exact idle h1 Ext.refl
          | false =>
            rw [cond_false]
            exact idle h1 Ext.refl
end Go.Proofs.Ytfnlldbaplakoaa

set_option linter.unusedVariables false
set_option maxRecDepth 100000
namespace Go.Proofs.Ytfnlldbaplakoaa
open Go Go.Hw
/-! ### 4 slipway/slipwaylaw07.WheelPlays -/
noncomputable def B4 : Code := match Try.f4.body with | some c => c | none => .skip
def N4_j1 (x0_script : Sl) (x4_w : Option Addr) (x5_v : Option Addr) (x6_x : Option Addr) (x7_y : Option Addr) (x8_k : Option Addr) (x9_i : Int) (x10_ok : Bool) (h : Hp) (K_normal : Hp → Prop) (K_ret : Bool → Hp → Prop) : Prop :=
  bif (!x10_ok) then
    K_ret false h
  else
    K_normal h
noncomputable def N4_j1_t : Xf := pieceT [(0, .c (.slice)), (4, .c (.ptr)), (5, .c (.ptr)), (6, .c (.ptr)), (7, .c (.ptr)), (8, .c (.ptr)), (9, .c (.int .i64)), (10, .c (.bool))] (codeAt B4 [1, 1, 1, 1, 1, 1, 1, 1, 0, 1, 0, 0, 1, 0, 0, 1, 1]) fun x h Q => N4_j1 x.1 x.2.1 x.2.2.1 x.2.2.2.1 x.2.2.2.2.1 x.2.2.2.2.2.1 x.2.2.2.2.2.2.1 x.2.2.2.2.2.2.2 h (fun h' => Q .normal (Sg.env [] ()) h') (fun o0 h' => Q .ret (Sg.env [(2, .c (.bool))] o0) h')
theorem N4_j1_ok : Sound Try.prog Try.f4.ntmps N4_j1_t (codeAt B4 [1, 1, 1, 1, 1, 1, 1, 1, 0, 1, 0, 0, 1, 0, 0, 1, 1]) := by
  refine piece_sound (fun e => match e with | .normal => [] | .ret => [2] | _ => []) ?_
  intro x h Q hb
  refine den_sound hE hm _ .leaf _ _ _ (annOk_leaf) ?_
  refine cast ?_ hb
  kernel_rfl
def N4_l0_b (x0_script : Sl) (x4_w : Option Addr) (x5_v : Option Addr) (x6_x : Option Addr) (x7_y : Option Addr) (x8_k : Option Addr) (Φ : Int → Hp → Prop) (x9_i : Int) (h : Hp) (K_e0 : Hp → Prop) (K_ret : Bool → Hp → Prop) : Prop :=
  bif (decide (x9_i < ((x0_script.n : Nat) : Int))) then
    bif ((Int.tmod x9_i 5) == 4) then
      idx x9_i x0_script.n <|
      nn x0_script.p fun a0 =>
      xI .i64 (cell h (a0.add (x9_i.toNat * 3))) fun n0 =>
      xI .i64 (cell h ((a0.add (x9_i.toNat * 3)).add 1)) fun n1 =>
      xI .i64 (cell h ((a0.add (x9_i.toNat * 3)).add 2)) fun n2 =>
      C10 x8_k x5_v x7_y n0 n1 n2 h fun b0 h0 =>
      N4_j1 x0_script x4_w x5_v x6_x x7_y x8_k x9_i b0 h0
        (fun h1 =>
          Φ (IntKind.wrap .i64 (x9_i + 1)) h1)
        (fun b1 h2 =>
          K_ret b1 h2)
    else
      idx x9_i x0_script.n <|
      nn x0_script.p fun a1 =>
      xI .i64 (cell h (a1.add (x9_i.toNat * 3))) fun n3 =>
      xI .i64 (cell h ((a1.add (x9_i.toNat * 3)).add 1)) fun n4 =>
      xI .i64 (cell h ((a1.add (x9_i.toNat * 3)).add 2)) fun n5 =>
      C10 x8_k x4_w x6_x n3 n4 n5 h fun b2 h3 =>
      N4_j1 x0_script x4_w x5_v x6_x x7_y x8_k x9_i b2 h3
        (fun h4 =>
          Φ (IntKind.wrap .i64 (x9_i + 1)) h4)
        (fun b3 h5 =>
          K_ret b3 h5)
  else
    K_e0 h
def N4_l0_B (x0_script : Sl) (x4_w : Option Addr) (x5_v : Option Addr) (x6_x : Option Addr) (x7_y : Option Addr) (x8_k : Option Addr) (K_e0 : Hp → Prop) (K_ret : Bool → Hp → Prop) (s : Sg.T [(9, .c (.int .i64))]) (h : Hp) (Φ : Sg.T [(9, .c (.int .i64))] → Hp → Prop) : Prop :=
  N4_l0_b x0_script x4_w x5_v x6_x x7_y x8_k (fun x9_i h => Φ x9_i h) s h K_e0 K_ret
def N4_l0 (x0_script : Sl) (x4_w : Option Addr) (x5_v : Option Addr) (x6_x : Option Addr) (x7_y : Option Addr) (x8_k : Option Addr) (x9_i : Int) (h : Hp) (K_e0 : Hp → Prop) (K_ret : Bool → Hp → Prop) : Prop :=
  loopP (N4_l0_B x0_script x4_w x5_v x6_x x7_y x8_k K_e0 K_ret) x9_i h
noncomputable def N4_l0_t : Xf := loopT [(0, .c (.slice)), (4, .c (.ptr)), (5, .c (.ptr)), (6, .c (.ptr)), (7, .c (.ptr)), (8, .c (.ptr))] [(9, .c (.int .i64))] (codeAt B4 [1, 1, 1, 1, 1, 1, 1, 1, 0, 1, 0, 0]) fun F Q => N4_l0_B F.1 F.2.1 F.2.2.1 F.2.2.2.1 F.2.2.2.2.1 F.2.2.2.2.2 (fun h' => Q (.exit 0) (Sg.env [] ()) h') (fun o0 h' => Q .ret (Sg.env [(2, .c (.bool))] o0) h')
theorem N4_l0_ok : Sound Try.prog Try.f4.ntmps N4_l0_t (codeAt B4 [1, 1, 1, 1, 1, 1, 1, 1, 0, 1, 0]) := by
  refine loop_sound (fun e => match e with | .exit 0 => [] | .ret => [2] | _ => []) (by kernel_rfl) ?_
  intro F Q s h Φ hb
  refine den_sound hE hm _ (.two .leaf (.two (.one (.two .leaf (.two .leaf (.xf N4_j1_t)))) .leaf)) _ _ _ (⟨annOk_leaf, ⟨⟨annOk_leaf, ⟨annOk_leaf, N4_j1_ok⟩⟩, annOk_leaf⟩⟩) ?_
  refine cast ?_ hb
  kernel_rfl
def N4 (x0 : Sl) (h : Hp) (K : Bool → Hp → Prop) : Prop :=
  C7 h fun b0 h0 =>
  C8 h0 fun p0 h1 =>
  C8 h1 fun p1 h2 =>
  bif (!b0) then
    K false h2
  else
    peq h2 p0 none fun b1 =>
    bif b1 then
      K false h2
    else
      peq h2 p1 none fun b2 =>
      bif b2 then
        K false h2
      else
        C9 h2 fun p2 h3 =>
        C9 h3 fun p3 h4 =>
        nw h4 (.cells ⟨[.slice none 0 0, .slice none 0 0]⟩ 31) fun b3 h5 =>
        N4_l0 x0 p0 p1 p2 p3 (some (bk b3)) 0 h5
          (fun h6 =>
            C10 (some (bk b3)) p0 p2 5 0 0 h6 fun b4 h7 =>
            C10 (some (bk b3)) p1 p3 5 0 0 h7 fun b5 h8 =>
            C11 (some (bk b3)) h8 fun b6 h9 =>
            C10 (some (bk b3)) p0 p2 3 1125899906842624 0 h9 fun b7 h10 =>
            C10 (some (bk b3)) p1 p3 3 1125899906842624 0 h10 fun b8 h11 =>
            C10 (some (bk b3)) p0 p2 5 0 0 h11 fun b9 h12 =>
            bif b4 then
              bif b5 then
                bif b6 then
                  bif b7 then
                    bif b8 then
                      K b9 h12
                    else
                      K false h12
                  else
                    K false h12
                else
                  K false h12
              else
                K false h12
            else
              K false h12)
          (fun b10 h13 =>
            K b10 h13)
theorem S4 {x0 : Sl} {h : Hp} {K : Bool → Hp → Prop} (hn : N4 x0 h K) : C4 x0 h K := by
  refine calls_of_D Try.func4 (c := B4) rfl (by kernel_rfl) ?_
  refine den_sound hE hm _ (.two .leaf (.two .leaf (.two .leaf (.two .leaf (.two .leaf (.two .leaf (.two .leaf (.two .leaf (.two (.two .leaf (.one (.xf N4_l0_t))) .leaf))))))))) _ _ _ (⟨annOk_leaf, ⟨annOk_leaf, ⟨annOk_leaf, ⟨annOk_leaf, ⟨annOk_leaf, ⟨annOk_leaf, ⟨annOk_leaf, ⟨annOk_leaf, ⟨⟨annOk_leaf, N4_l0_ok⟩, annOk_leaf⟩⟩⟩⟩⟩⟩⟩⟩⟩) ?_
  refine cast ?_ hn
  kernel_rfl
end Go.Proofs.Ytfnlldbaplakoaa

/-
  Two pairs of wheels in turns: the law's function WheelPlays, walked.
-/
set_option linter.unusedSimpArgs false
set_option linter.unusedVariables false
namespace Go.Proofs.Ytfnlldbaplakoaa
open Go Go.Hw

theorem s8 {L M : List Asn} {h : Hp} {K : Option Addr → Hp → Prop} (hs : Sat (L ++ M) h) (hK : ∀ W h', Sat (L ++ (M ++ [whlA W ⟨0, 0, []⟩])) h' → K (some (bk W)) h') : C8 h K :=
  c8' fun W h' F' H e fp => hK W h' (hs.add e (A := whlA W ⟨0, 0, []⟩) (F' := F') H fp)
theorem s9 {L M : List Asn} {h : Hp} {K : Option Addr → Hp → Prop} (hs : Sat (L ++ M) h) (hK : ∀ R h', Sat (L ++ (M ++ [refA R ⟨0, 0, []⟩])) h' → K (some (bk R)) h') : C9 h K :=
  c9' fun R h' F' H e fp => hK R h' (hs.add e (A := refA R ⟨0, 0, []⟩) (F' := F') H fp)

theorem c4' {s0 : Sl} {script : List (Int × Int × Int)} {h : Hp} {K : Bool → Hp → Prop} (h0 : Trips h s0 script) (hl : script.length ≤ 1099511627000)
    (hK : ∀ h', Ext none' h h' → K true h') : C4 s0 h K := by
  apply S4; unfold N4
  refine c7' ?_
  intro h1 e1
  have hs0 : Sat ([] ++ [Hw.was h]) h1 := Sat.start.ext e1
  refine s8 hs0 ?_
  intro W h2 hs
  refine s8 hs ?_
  intro V h3 hs
  simp only [Bool.not_true, cond_false, peq_none, Option.isNone_some]
  refine s9 hs ?_
  intro X h4 hs
  refine s9 hs ?_
  intro Y h5 hs
  intro k e5
  have hs := hs.new e5 (.cells ⟨[.slice none 0 0, .slice none 0 0]⟩ 31 (0, 0))
  revert hs
  generalize upd h5 k _ = h6
  intro hs
  -- the frame
  have hsI : Sat ([Hw.was h] ++ ([whlA W ⟨0, 0, []⟩, refA X ⟨0, 0, []⟩, whlA V ⟨0, 0, []⟩, refA Y ⟨0, 0, []⟩] ++ keptL k [] [])) h6 := by
    have hs : Sat ([] ++ [Hw.was h, whlA W ⟨0, 0, []⟩, whlA V ⟨0, 0, []⟩, refA X ⟨0, 0, []⟩, refA Y ⟨0, 0, []⟩, row k 31 [.slice none 0 0, .slice none 0 0]]) h6 := hs
    have a1 := (hs.addNil 41 1).addNil 41 1
    have a2 : Sat (([Hw.was h, whlA W ⟨0, 0, []⟩, whlA V ⟨0, 0, []⟩, refA X ⟨0, 0, []⟩, refA Y ⟨0, 0, []⟩]) ++ [row k 31 ([] ++ [(⟨none, 0, 0⟩ : Sl).v, (⟨none, 0, 0⟩ : Sl).v]), Hw.own 41 1 ⟨none, 0, 0⟩ (([] : List E3).map fun e => e.1.v), Hw.own 41 1 ⟨none, 0, 0⟩ (([] : List E3).map fun e => e.2.1.v)]) h6 := a1
    have a3 := kept0_shut a2
    have a4 : Sat ([Hw.was h, whlA W ⟨0, 0, []⟩, whlA V ⟨0, 0, []⟩, refA X ⟨0, 0, []⟩, refA Y ⟨0, 0, []⟩, kept0 k [] []] ++ []) h6 := a3
    have a5 := a4.close
    have a6 : Sat ([Hw.was h, whlA W ⟨0, 0, []⟩, whlA V ⟨0, 0, []⟩, refA X ⟨0, 0, []⟩, refA Y ⟨0, 0, []⟩, kept0 k [] [], star []] ++ []) h6 := a5
    have a7 := a6.close
    have a8 : Sat ([Hw.was h] ++ [whlA W ⟨0, 0, []⟩, whlA V ⟨0, 0, []⟩, refA X ⟨0, 0, []⟩, refA Y ⟨0, 0, []⟩, kept0 k [] [], star [], star []]) h6 := a7
    exact a8.sel [0, 2, 1, 3, 4, 5, 6] (by decide) rfl
  clear hs
  -- the steps, either pair
  have stepA : ∀ {L E0 E : List E3} {a b : St} {hh : Hp} {n0 n1 n2 : Int} {K : Bool → Hp → Prop}, Sat ([Hw.was h] ++ ([whlA W a, refA X a, whlA V b, refA Y b] ++ keptL k E0 E)) hh → (E0 ++ E).length ≤ 1099511627776 → a.last < 4611686018427387904 →
      (∀ h' a' E', Sat ([Hw.was h] ++ ([whlA W a', refA X a', whlA V b, refA Y b] ++ keptL k E0 E')) h' → a'.last ≤ a.last + 1 → E'.length ≤ E.length + 1 → ((∀ e ∈ E, Good3 e) → ∀ e ∈ E', Good3 e) → K true h') → C10 (some (bk k)) (some (bk W)) (some (bk X)) n0 n1 n2 hh K := by
    intro _ E0 E a b hh n0 n1 n2 K hs h1 h2 hK
    have g : Sat (([Hw.was h] ++ [whlA V b, refA Y b]) ++ ([whlA W a, refA X a] ++ keptL k E0 E)) hh := by
      have := hs.sel [2, 3, 0, 1, 4, 5, 6] (M' := [_, _, _, _, _, _, _]) (by decide) rfl
      exact this
    refine s10 g h1 h2 ?_
    intro h' a' E' hs' q1 q2 q3
    refine hK h' a' E' ?_ q1 q2 q3
    have hs' : Sat ([Hw.was h] ++ [whlA V b, refA Y b, whlA W a', refA X a', kept0 k [] (E0 ++ E'), star (E'.map own3), star (E'.map wer3)]) h' := hs'
    exact hs'.sel [2, 3, 0, 1, 4, 5, 6] (by decide) rfl
  have stepB : ∀ {L E0 E : List E3} {a b : St} {hh : Hp} {n0 n1 n2 : Int} {K : Bool → Hp → Prop}, Sat ([Hw.was h] ++ ([whlA W a, refA X a, whlA V b, refA Y b] ++ keptL k E0 E)) hh → (E0 ++ E).length ≤ 1099511627776 → b.last < 4611686018427387904 →
      (∀ h' b' E', Sat ([Hw.was h] ++ ([whlA W a, refA X a, whlA V b', refA Y b'] ++ keptL k E0 E')) h' → b'.last ≤ b.last + 1 → E'.length ≤ E.length + 1 → ((∀ e ∈ E, Good3 e) → ∀ e ∈ E', Good3 e) → K true h') → C10 (some (bk k)) (some (bk V)) (some (bk Y)) n0 n1 n2 hh K := by
    intro _ E0 E a b hh n0 n1 n2 K hs h1 h2 hK
    have g : Sat (([Hw.was h] ++ [whlA W a, refA X a]) ++ ([whlA V b, refA Y b] ++ keptL k E0 E)) hh := hs
    refine s10 g h1 h2 ?_
    intro h' a' E' hs' q1 q2 q3
    exact hK h' a' E' hs' q1 q2 q3
  unfold N4_l0
  refine loopP_inv (fun (x : Int) hc => ∃ (i : Nat) (a b : St) (E : List E3), x = i ∧ i ≤ script.length ∧ a.last ≤ i ∧ b.last ≤ i ∧ E.length ≤ i ∧ (∀ e ∈ E, Good3 e) ∧
      Sat ([Hw.was h] ++ ([whlA W a, refA X a, whlA V b, refA Y b] ++ keptL k [] E)) hc) (fun x _ => script.length - x.toNat) ?_
    ⟨0, ⟨0, 0, []⟩, ⟨0, 0, []⟩, [], rfl, Nat.zero_le _, Int.le_refl _, Int.le_refl _, Nat.le_refl _, (fun e he => by cases he), hsI⟩
  rintro x hc ⟨i, a, b, E, rfl, hi, ha, hb, hE, hg, hs⟩
  unfold N4_l0_B N4_l0_b
  have he : Ext none' h hc := Sat.was (L := []) (M := [Hw.was h] ++ ([whlA W a, refA X a, whlA V b, refA Y b] ++ keptL k [] E)) hs 0 rfl
  by_cases hlt : i < script.length
  · have sn : s0.n = script.length := h0.1
    have : decide ((i : Int) < ((s0.n : Nat) : Int)) = true := by simp; omega
    rw [this, cond_true]
    obtain ⟨a0, hp0, q0, q1, q2⟩ := (h0.ext he).2 i _ (List.getElem?_eq_getElem hlt)
    cases hq : ((Int.tmod (i : Int) 5) == 4) with
    | true =>
      rw [cond_true]
      refine idx_of (by omega) (by omega) ?_
      rw [hp0]
      simp only [nn_some', Int.toNat_natCast, q0, q1, q2, xI_some]
      refine stepB (L := []) hs (by simp; omega) (by omega) ?_
      intro h' b' E' hs' w1 w2 w3
      unfold N4_j1
      simp only [Bool.not_true, cond_false]
      rw [nat_succ64 (by omega)]
      exact ⟨⟨i + 1, a, b', E', rfl, hlt, by omega, by omega, by omega, w3 hg, hs'⟩, by omega⟩
    | false =>
      rw [cond_false]
      refine idx_of (by omega) (by omega) ?_
      rw [hp0]
      simp only [nn_some', Int.toNat_natCast, q0, q1, q2, xI_some]
      refine stepA (L := []) hs (by simp; omega) (by omega) ?_
      intro h' a' E' hs' w1 w2 w3
      unfold N4_j1
      simp only [Bool.not_true, cond_false]
      rw [nat_succ64 (by omega)]
      exact ⟨⟨i + 1, a', b, E', rfl, hlt, by omega, by omega, by omega, w3 hg, hs'⟩, by omega⟩
  · have sn : s0.n = script.length := h0.1
    have : decide ((i : Int) < ((s0.n : Nat) : Int)) = false := by simp; omega
    rw [this, cond_false]
    refine stepA (L := []) hs (by simp; omega) (by omega) ?_
    intro h7 a1 E1 hs1 w1 w2 w3
    refine stepB (L := []) hs1 (by simp; omega) (by omega) ?_
    intro h8 b1 E2 hs2 w4 w5 w6
    have hg2 := w6 (w3 hg)
    apply S11; unfold N11
    have g2 : Sat (([Hw.was h] ++ [whlA W a1, refA X a1, whlA V b1, refA Y b1]) ++ [kept0 k [] E2, star (E2.map own3), star (E2.map wer3)]) h8 := hs2
    refine stands_walk g2 (by omega) ?_ ?_ ?_
    · intro e he
      obtain ⟨l, hl1, hl2⟩ := hg2 e he
      obtain ⟨j, hj, hej⟩ := List.getElem_of_mem he
      have g3 : Sat (([Hw.was h] ++ [whlA W a1, refA X a1, whlA V b1, refA Y b1, kept0 k [] E2, star (E2.map wer3)]) ++ [star (E2.map own3)]) h8 := by
        have := g2.sel [0, 2, 1] (M' := [_, _, _]) (by decide) rfl
        exact this
      have ho := g3.open.own j (T := 44) (sz := 3) (s := e.1) (vs := e.2.2) (by rw [List.getElem?_map, List.getElem?_eq_getElem hj, hej]; rfl)
      have := ho.1
      rw [hl1, frs_len] at this
      omega
    · intro e he h K o1 o2 hK
      obtain ⟨l, hl1, hl2⟩ := hg2 e he
      rw [hl1] at o1 o2
      exact c18' o1 o2 (by omega) (hK h Ext.refl)
    · intro h9 hs9
      have hs9 : Sat ([Hw.was h] ++ [whlA W a1, refA X a1, whlA V b1, refA Y b1, kept0 k [] E2]) h9 := hs9
      have g4 : Sat ([Hw.was h] ++ ([whlA W a1, refA X a1, whlA V b1, refA Y b1] ++ keptL k E2 [])) h9 := by
        have a4 : Sat ([Hw.was h, whlA W a1, refA X a1, whlA V b1, refA Y b1, kept0 k [] (E2 ++ [])] ++ []) h9 := by rw [List.append_nil E2]; exact hs9
        have a5 := a4.close
        have a6 : Sat ([Hw.was h, whlA W a1, refA X a1, whlA V b1, refA Y b1, kept0 k [] (E2 ++ []), star []] ++ []) h9 := a5
        exact a6.close
      refine stepA (L := []) g4 (by simp; omega) (by omega) ?_
      intro h10 a2 E3 hs3 w7 w8 _
      refine stepB (L := []) hs3 (by simp at w8 ⊢; omega) (by omega) ?_
      intro h11 b2 E4 hs4 w9 w10 _
      refine stepA (L := []) hs4 (by simp at w8 w10 ⊢; omega) (by omega) ?_
      intro h12 a3 E5 hs5 w11 w12 _
      simp only [cond_true]
      exact hK _ (Sat.was (L := []) (M := [Hw.was h] ++ ([whlA W a3, refA X a3, whlA V b2, refA Y b2] ++ keptL k E2 E5)) hs5 0 rfl)
end Go.Proofs.Ytfnlldbaplakoaa
