/-
  The wheel: how the rows lie in time; the first timer.
-/
import Derived.Test.YtfnlldbaplakoaaWha
import Derived.Test.YtfnlldbaplakoaaGen
set_option linter.unusedSimpArgs false
set_option linter.unusedVariables false
namespace Go.Proofs.Ytfnlldbaplakoaa
open Go Go.Hw

theorem dg0 (t : Int) : dg t 0 = t % 64 := by unfold dg; simp
theorem dg1 (t : Int) : dg t 1 = t / 64 % 64 := by unfold dg; simp
theorem dg2 (t : Int) : dg t 2 = t / 4096 % 64 := by unfold dg; rfl
theorem dg3 (t : Int) : dg t 3 = t / 262144 % 64 := by unfold dg; rfl

theorem slot_cases {now t : Int} (h0 : 0 ≤ now) (h1 : now ≤ t) :
    (t / 64 = now / 64 ∧ lev now t = 0 ∧ (slotOf now t : Int) = t % 64) ∨
    (now / 64 < t / 64 ∧ t / 4096 = now / 4096 ∧ lev now t = 1 ∧ (slotOf now t : Int) = 64 + t / 64 % 64) ∨
    (now / 4096 < t / 4096 ∧ t / 262144 = now / 262144 ∧ lev now t = 2 ∧ (slotOf now t : Int) = 128 + t / 4096 % 64) ∨
    (now / 262144 < t / 262144 ∧ t / 16777216 = now / 16777216 ∧ lev now t = 3 ∧ (slotOf now t : Int) = 192 + t / 262144 % 64) ∨
    (now / 16777216 < t / 16777216 ∧ lev now t = -1 ∧ slotOf now t = 256) := by
  by_cases e4 : t / 16777216 = now / 16777216
  · by_cases e3 : t / 262144 = now / 262144
    · by_cases e2 : t / 4096 = now / 4096
      · by_cases e1 : t / 64 = now / 64
        · have hl : lev now t = 0 := by
            unfold lev; rw [if_neg (by omega), dg3, dg3, if_neg (by omega), dg2, dg2, if_neg (by omega), dg1, dg1, if_neg (by omega)]
          have hs : (slotOf now t : Int) = t % 64 := by
            unfold slotOf; rw [hl, if_neg (by omega), dg0]; omega
          exact .inl ⟨e1, hl, hs⟩
        · have hl : lev now t = 1 := by
            unfold lev; rw [if_neg (by omega), dg3, dg3, if_neg (by omega), dg2, dg2, if_neg (by omega), dg1, dg1, if_pos (by omega)]
          have hs : (slotOf now t : Int) = 64 + t / 64 % 64 := by
            unfold slotOf; rw [hl, if_neg (by omega), dg1]; omega
          exact .inr (.inl ⟨by omega, e2, hl, hs⟩)
      · have hl : lev now t = 2 := by
          unfold lev; rw [if_neg (by omega), dg3, dg3, if_neg (by omega), dg2, dg2, if_pos (by omega)]
        have hs : (slotOf now t : Int) = 128 + t / 4096 % 64 := by
          unfold slotOf; rw [hl, if_neg (by omega), dg2]; omega
        exact .inr (.inr (.inl ⟨by omega, e3, hl, hs⟩))
    · have hl : lev now t = 3 := by
        unfold lev; rw [if_neg (by omega), dg3, dg3, if_pos (by omega)]
      have hs : (slotOf now t : Int) = 192 + t / 262144 % 64 := by
        unfold slotOf; rw [hl, if_neg (by omega), dg3]; omega
      exact .inr (.inr (.inr (.inl ⟨by omega, e4, hl, hs⟩)))
  · have hl : lev now t = -1 := by unfold lev; rw [if_pos e4]
    exact .inr (.inr (.inr (.inr ⟨by omega, hl, slotOf_far.2 hl⟩)))
/-- a row before another one: its times are before the other one's -/
theorem slot_mono {now t u : Int} (h0 : 0 ≤ now) (h1 : now ≤ t) (h2 : now ≤ u) (h : slotOf now t < slotOf now u) : t < u := by
  rcases slot_cases h0 h1 with a | a | a | a | a <;> rcases slot_cases h0 h2 with b | b | b | b | b <;> omega
/-- on its level, a time's digit is not before now's -/
theorem slot_digit {now t : Int} (h0 : 0 ≤ now) (h1 : now ≤ t) {k : Nat} (hk : slotOf now t / 64 = k) (hk3 : k < 4) : k * 64 + (dg now k).toNat ≤ slotOf now t := by
  have hd := dg_bd now k
  have hk' : k = 0 ∨ k = 1 ∨ k = 2 ∨ k = 3 := by omega
  rcases slot_cases h0 h1 with a | a | a | a | a <;> rcases hk' with e | e | e | e <;> subst e
  all_goals first
    | omega
    | (have := dg0 now; simp only [Int.Nat.cast_ofNat_Int] at *; omega)
    | (have := dg1 now; have e1 : ((1 : Nat) : Int) = 1 := rfl; rw [e1] at *; omega)
    | (have := dg0 now; have e1 : ((0 : Nat) : Int) = 0 := rfl; rw [e1] at *; omega)
    | (have := dg2 now; have e1 : ((2 : Nat) : Int) = 2 := rfl; rw [e1] at *; omega)
    | (have := dg3 now; have e1 : ((3 : Nat) : Int) = 3 := rfl; rw [e1] at *; omega)

/-! ### the first of a row -/
theorem hv40 {x y : Option Addr} {h : Hp} {F : Value → Hp → Prop} (hc : C40 x y h fun b h' => F (.int .i64 b) h') :
    HCallV Try.prog E (.func (.func 40) ⟨[]⟩ ⟨[]⟩) [.pointer x, .pointer y] h F := by
  refine HCalls.mono (K := fun v h' => VT.on (.c (.int .i64)) (some v) fun r => F (.int .i64 r) h') hc ?_
  intro v h' hv
  obtain ⟨b, e, hF⟩ := VT.on_some hv
  cases e; exact hF

theorem c39 {tm : Nat → Tm} {s : Sl} {L : List Nat} {h : Hp} {K : Option Addr → Hp → Prop} (ho : Own h 62 1 s (L.map ptr)) (hne : L ≠ []) (hl : L.length < 1099511627776) (ht : ∀ b ∈ L, ∃ lv pl, Blk h b 65 (tc (tm b) lv pl))
    (hK : ∀ b h', b ∈ L → (∀ x ∈ L, ltT tm x b = false) → Ext none' h h' → K (some (bk b)) h') : C39 s (.func (.func 40) ⟨[]⟩ ⟨[]⟩) h K := by
  apply S39; unfold N39 N39_j0
  have hn : s.n = L.length := by have := ho.1; simpa using this.symm
  have hpos : 0 < L.length := List.length_pos_iff.2 hne
  have : decide (((s.n : Nat) : Int) < 1) = false := by simp; omega
  rw [this, cond_false]
  refine idx_of (by omega) (by omega) ?_
  obtain ⟨r, hp, hcell0⟩ := Own.ptr ho (k := 0) hpos
  rw [hp]
  simp only [nn_some', add_bk, Int.toNat_zero, Nat.zero_mul, hcell0, xP_some]
  unfold N39_l1
  refine loopP_inv (fun (x : Option Addr × Int) hc => ∃ (m i : Nat), x = (some (bk m), (i : Int)) ∧ m ∈ L ∧ 1 ≤ i ∧ i ≤ L.length ∧ (∀ q, q < i → ltT tm (L.getD q 0) m = false) ∧ Ext none' h hc)
    (fun x _ => L.length - x.2.toNat) ?_ ⟨L.getD 0 0, 1, rfl, mem_getD hpos, Nat.le_refl _, hpos, ?_, Ext.refl⟩
  · rintro x hc ⟨m, i, rfl, hm, hi1, hi2, hmin, he⟩
    unfold N39_l1_B N39_l1_b
    by_cases hi : i < L.length
    · have : decide ((i : Int) < ((s.n : Nat) : Int)) = true := by simp; omega
      simp only [this, cond_true]
      refine idx_of (by omega) (by omega) ?_
      have ho1 := ho.ext he (fun _ _ => id)
      obtain ⟨r', hp', hcell⟩ := Own.ptr ho1 (k := i) hi
      rw [hp'] at hp
      have er : r' = r := congrArg Addr.block (Option.some.inj hp)
      subst er
      simp only [hp', nn_some', add_bk, Int.toNat_natCast, Nat.mul_one, hcell, xP_some]
      refine hv40 ?_
      obtain ⟨l1, p1, hb1⟩ := ht _ (mem_getD (L := L) hi)
      obtain ⟨l2, p2, hb2⟩ := ht _ hm
      refine c40 (p := [.int .i64 l1, .int .i64 p1]) (q := [.int .i64 l2, .int .i64 p2]) (he.blk hb1 id) (he.blk hb2 id) ?_
      intro h2 he2
      simp only [xI_some]
      change (bif ltT tm (L.getD i 0) m then _ else _)
      have wi : IntKind.wrap .i64 ((i : Int) + 1) = ((i + 1 : Nat) : Int) := by rw [wrap64 (by omega) (by omega)]; omega
      have ho2 := ho1.ext he2 (fun _ _ => id)
      obtain ⟨r2, hp2, hcell2⟩ := Own.ptr ho2 (k := i) hi
      rw [hp'] at hp2
      have er : r' = r2 := congrArg Addr.block (Option.some.inj hp2)
      subst er
      cases hq : ltT tm (L.getD i 0) m with
      | true =>
        rw [cond_true]
        refine idx_of (by omega) (by omega) ?_
        simp only [hp', nn_some', add_bk, Int.toNat_natCast, Nat.mul_one, hcell2, xP_some, wi]
        refine ⟨⟨L.getD i 0, i + 1, rfl, mem_getD hi, by omega, by omega, ?_, he.trans he2⟩, by omega⟩
        intro q hq2
        by_cases e : q = i
        · subst e
          cases hz : ltT tm (L.getD q 0) (L.getD q 0) with
          | false => rfl
          | true => have := lt_as _ _ hz; rw [hz] at this; cases this
        · have a1 := hmin q (by omega)
          exact lt_tot _ _ _ (lt_as _ _ hq) a1
      | false =>
        rw [cond_false]
        simp only [wi]
        refine ⟨⟨m, i + 1, rfl, hm, by omega, by omega, ?_, he.trans he2⟩, by omega⟩
        intro q hq2
        by_cases e : q = i
        · subst e; exact hq
        · exact hmin q (by omega)
    · have : decide ((i : Int) < ((s.n : Nat) : Int)) = false := by simp; omega
      simp only [this, cond_false]
      refine hK m hc hm ?_ he
      intro x hx
      obtain ⟨q, hq, e⟩ := mem_getD' hx
      rw [← e]; exact hmin q (by omega)
  · intro q hq
    have : q = 0 := by omega
    subst this
    cases hz : ltT tm (L.getD 0 0) (L.getD 0 0) with
    | false => rfl
    | true => have := lt_as _ _ hz; rw [hz] at this; cases this

/-- the first timer is in the first row that has one -/
structure Placed (tm : Nat → Tm) (w : WS) : Prop where
  slot : ∀ j, j < 257 → ∀ b ∈ w.ct j, slotOf w.now (tm b).tim = j
  tim : ∀ j, j < 257 → ∀ b ∈ w.ct j, w.now ≤ (tm b).tim ∧ (tm b).tim ≤ MaxT

theorem heap_min {tm : Nat → Tm} {L : List Nat} (hh : Pq.Heap (ltT tm) L) : ∀ j, j < L.length → ltT tm (L.getD j 0) (L.getD 0 0) = false := by
  intro j
  induction j using Nat.strongRecOn with
  | _ j ih =>
    intro hj
    by_cases e : j = 0
    · subst e
      cases hz : ltT tm (L.getD 0 0) (L.getD 0 0) with
      | false => rfl
      | true => have := lt_as _ _ hz; rw [hz] at this; cases this
    · have h1 := ih ((j - 1) / 2) (by omega) (by omega)
      have h2 := hh j (by omega) hj
      exact lt_tot _ _ _ h1 h2

theorem c30 {W : Nat} {tm : Nat → Tm} {w : WS} {h : Hp} {K : Option Addr → Hp → Prop} (M : Mem h W tm w) (hheap : Pq.Heap (ltT tm) (w.ct 256)) (hp : Placed tm w) (hn0 : 0 ≤ w.now) (hn1 : w.now ≤ MaxT)
    (hlen : ∀ j, j < 257 → (w.ct j).length < 1099511627776)
    (hN : ∀ h', (∀ j, j < 257 → w.ct j = []) → Ext none' h h' → K none h')
    (hK : ∀ h' j b, j < 257 → b ∈ w.ct j → (∀ k, k < 257 → ∀ x ∈ w.ct k, ltT tm x b = false) → Ext none' h h' → K (some (bk b)) h') : C30 (some (bk W)) h K := by
  apply S30; unfold N30 N30_l0
  have fin : ∀ (j : Nat) (hj : j < 257), (∀ i, i < j → w.ct i = []) → ∀ b ∈ w.ct j, (∀ x ∈ w.ct j, ltT tm x b = false) → ∀ k, k < 257 → ∀ x ∈ w.ct k, ltT tm x b = false := by
    intro j hj hemp b hb hmin k hk x hx
    rcases Nat.lt_trichotomy k j with h1 | h1 | h1
    · rw [hemp k h1] at hx; cases hx
    · subst h1; exact hmin x hx
    · have s1 := hp.slot j hj b hb
      have s2 := hp.slot k hk x hx
      have := slot_mono hn0 (hp.tim j hj b hb).1 (hp.tim k hk x hx).1 (by omega)
      rw [ltT_false]; omega
  refine loopP_inv (fun (x : Int) hc => ∃ k : Nat, x = k ∧ k ≤ 4 ∧ hc = h ∧ ∀ i, i < k * 64 → w.ct i = []) (fun x _ => 4 - x.toNat) ?_ ⟨0, rfl, by omega, rfl, by intro i hi; omega⟩
  rintro x hc ⟨k, rfl, hk4, rfl, hemp⟩
  unfold N30_l0_B N30_l0_b
  by_cases hk : k < 4
  · have : decide ((k : Int) < 4) = true := by simp; omega
    simp only [this, cond_true, nn_some', M.hW.cell, wl_0, xI_some]
    unfold MaxT at hn1
    refine c37 (by omega) (by omega) hn0 (by omega) ?_
    have hd := dg_bd w.now k
    unfold N30_l1
    refine loopP_inv (fun (x : Int) hc' => ∃ i : Nat, x = i ∧ i ≤ 64 ∧ hc' = hc ∧ ∀ q, q < k * 64 + i → w.ct q = []) (fun x _ => 64 - x.toNat) ?_ ⟨(dg w.now k).toNat, by omega, by omega, rfl, ?_⟩
    · rintro x hc' ⟨i, rfl, hi64, rfl, hemp2⟩
      unfold N30_l1_B N30_l1_b
      by_cases hi : i < 64
      · have : decide ((i : Int) < 64) = true := by simp; omega
        simp only [this, cond_true, nn_some']
        refine idx_of (by omega) (by omega) ?_
        refine idx_of (by omega) (by omega) ?_
        have hoff : 2 + k * 64 + i = 2 + (k * 64 + i) := by omega
        simp only [add_bk, add_mk, Int.toNat_natCast, Nat.mul_one, hoff, M.hW.cell, wl_row (show k * 64 + i < 257 by omega), xL_v]
        have hn := M.len (show k * 64 + i < 257 by omega)
        by_cases hz : w.ct (k * 64 + i) = []
        · have : decide ((((w.rows (k * 64 + i)).n : Nat) : Int) > 0) = false := by rw [hn, hz]; rfl
          simp only [this, cond_false]
          have wi : IntKind.wrap .i64 ((i : Int) + 1) = ((i + 1 : Nat) : Int) := by rw [wrap64 (by omega) (by omega)]; omega
          rw [wi]
          refine ⟨⟨i + 1, rfl, by omega, trivial, ?_⟩, by omega⟩
          intro q hq
          by_cases e : q = k * 64 + i
          · subst e; exact hz
          · exact hemp2 q (by omega)
        · have hpos : 0 < (w.ct (k * 64 + i)).length := List.length_pos_iff.2 hz
          have : decide ((((w.rows (k * 64 + i)).n : Nat) : Int) > 0) = true := by rw [hn]; simp; omega
          simp only [this, cond_true]
          refine c39 (tm := tm) (M.own _ (by omega)) hz (hlen _ (by omega)) (fun b hb => ?_) ?_
          · obtain ⟨pl, h'⟩ := M.tblk (by omega) hb; exact ⟨_, _, h'⟩
          · intro b h' hb hmin he
            exact hK h' _ b (by omega) hb (fin _ (by omega) hemp2 b hb hmin) he
      · have : decide ((i : Int) < 64) = false := by simp; omega
        simp only [this, cond_false]
        have wk : IntKind.wrap .i64 ((k : Int) + 1) = ((k + 1 : Nat) : Int) := by rw [wrap64 (by omega) (by omega)]; omega
        rw [wk]
        refine ⟨⟨k + 1, rfl, by omega, trivial, ?_⟩, by omega⟩
        intro q hq; exact hemp2 q (by omega)
    · intro q hq
      by_cases hq2 : q < k * 64
      · exact hemp q hq2
      · apply List.eq_nil_iff_forall_not_mem.2
        intro b hb
        have s1 := hp.slot q (by omega) b hb
        have := slot_digit hn0 (hp.tim q (by omega) b hb).1 (k := k) (by omega) hk
        omega
  · have hk' : k = 4 := by omega
    subst hk'
    have : decide (((4 : Nat) : Int) < 4) = false := rfl
    simp only [this, cond_false, nn_some', add_bk, M.hW.cell, wl_258, xL_v]
    have hn := M.len (show 256 < 257 by omega)
    by_cases hz : w.ct 256 = []
    · have : decide ((((w.rows 256).n : Nat) : Int) > 0) = false := by rw [hn, hz]; rfl
      rw [this, cond_false]
      refine hN hc ?_ Ext.refl
      intro j hj
      by_cases e : j = 256
      · subst e; exact hz
      · exact hemp j (by omega)
    · have hpos : 0 < (w.ct 256).length := List.length_pos_iff.2 hz
      have : decide ((((w.rows 256).n : Nat) : Int) > 0) = true := by rw [hn]; simp; omega
      rw [this, cond_true]
      refine idx_of (by omega) (by omega) ?_
      obtain ⟨r, hr, hcell⟩ := Own.ptr (M.own 256 (by omega)) (k := 0) hpos
      rw [hr]
      simp only [nn_some', add_bk, Int.toNat_zero, Nat.zero_mul, hcell, xP_some]
      refine hK hc 256 _ (by omega) (mem_getD hpos) (fin 256 (by omega) (fun i hi => hemp i (by omega)) _ (mem_getD hpos) ?_) Ext.refl
      intro x hx
      obtain ⟨q, hq, e⟩ := mem_getD' hx
      rw [← e]; exact heap_min hheap q hq

end Go.Proofs.Ytfnlldbaplakoaa

/-
  The wheel: time goes on.
-/
set_option linter.unusedSimpArgs false
set_option linter.unusedVariables false
namespace Go.Proofs.Ytfnlldbaplakoaa
open Go Go.Hw

theorem slot_keep {now to t : Int} (h0 : 0 ≤ now) (h1 : now ≤ to) (h2 : to ≤ t) (h : slotOf now t ≠ slotOf now to) : slotOf to t = slotOf now t := by
  rcases slot_cases h0 h1 with a | a | a | a | a <;> rcases slot_cases h0 (show now ≤ t by omega) with b | b | b | b | b <;> rcases slot_cases (show 0 ≤ to by omega) h2 with c | c | c | c | c <;> omega
theorem slot_zero {now to t : Int} (h0 : 0 ≤ now) (h1 : now ≤ to) (h2 : to ≤ t) (h : lev now to = 0) : slotOf to t = slotOf now t := by
  rcases slot_cases h0 h1 with a | a | a | a | a <;> rcases slot_cases h0 (show now ≤ t by omega) with b | b | b | b | b <;> rcases slot_cases (show 0 ≤ to by omega) h2 with c | c | c | c | c <;> omega
theorem slot_all {now to t : Int} (h0 : 0 ≤ now) (h1 : now ≤ to) (h2 : to ≤ t) (h : lev now to = -1) : slotOf now t = 256 := by
  rcases slot_cases h0 h1 with a | a | a | a | a <;> rcases slot_cases h0 (show now ≤ t by omega) with b | b | b | b | b <;> omega
theorem slot_far_le {now t u : Int} (h0 : 0 ≤ now) (h1 : now ≤ t) (h2 : t ≤ u) (h : lev now t = -1) : slotOf now u = 256 := by
  rcases slot_cases h0 h1 with a | a | a | a | a <;> rcases slot_cases h0 (show now ≤ u by omega) with b | b | b | b | b <;> omega

theorem nodup_le : ∀ {L M : List Nat}, L.Nodup → (∀ x ∈ L, x ∈ M) → L.length ≤ M.length := by
  intro L
  induction L with
  | nil => intro M _ _; simp
  | cons a L ih =>
    intro M hn hs
    rw [List.nodup_cons] at hn
    have ha := hs a (by simp)
    have := ih (M := M.erase a) hn.2 (by
      intro x hx
      have : x ≠ a := by rintro rfl; exact hn.1 hx
      exact (List.mem_erase_of_ne this).2 (hs x (by simp [hx])))
    rw [List.length_erase_of_mem ha] at this
    have : 0 < M.length := List.length_pos_of_mem ha
    simp; omega

theorem Mem.setW {h : Hp} {W : Nat} {tm : Nat → Tm} {w w' : WS} (M : Mem h W tm w) (hr : w'.rows = w.rows) (hc : w'.ct = w.ct) (hm : w'.mb = w.mb) (he : w'.es = w.es) (hk : w'.clk = w.clk) :
    Mem (upd h W (.cells ⟨wl W w'⟩ 58 (0, 0))) W tm w' := by
  have x : Ext (fun x => x = W) h (upd h W (.cells ⟨wl W w'⟩ 58 (0, 0))) := Ext.upd rfl
  refine ⟨Blk.upd_same, ?_, ?_, ?_, ?_, ?_⟩
  · rw [hm, he, hk]; exact x _ _ M.hm (fun e => map_ne M.hW M.hm e.symm)
  · rw [hr, hc]; intro j hj; exact (M.own j hj).ext x (fun b hb e => M.notRow hj M.hW (by decide) (e ▸ hb))
  · rw [hr]; exact M.rinj
  · rw [hc]; intro j hj p hp; exact x.blk (M.tms j hj p hp) ((M.tms j hj p hp).ne M.hW (by decide))
  · rw [hc]; exact M.nd

/-- a timer is taken out of the heap -/
theorem c38m {W b p : Nat} {tm : Nat → Tm} {w : WS} {h : Hp} {K : Hp → Prop} (M : Mem h W tm w) (hheap : Pq.Heap (ltT tm) (w.ct 256)) (hp : p < (w.ct 256).length) (hpb : (w.ct 256).getD p 0 = b) (hlen : (w.ct 256).length < 1099511627776)
    (hK : ∀ h' s' L', Mem h' W tm { w with rows := fup w.rows 256 s', ct := fup w.ct 256 L' } → L'.Perm ((w.ct 256).erase b) → Pq.Heap (ltT tm) L' →
      Ext (fun x => x = W ∨ (w.rows 256).p = some (bk x) ∨ x ∈ w.ct 256 ∧ x ≠ b) h h' → s'.p = (w.rows 256).p → K h') : C38 (some ⟨W, 258, none⟩) (some (bk b)) h K := by
  refine c38 M.hea hheap hp hpb hlen wl_len ?_
  intro h' s' L' H' hperm hheap' he hsp
  rw [wl_setrow (j := 256) (by omega)] at H'
  have memL : ∀ x, x ∈ w.ct 256 → (∀ j, j < 256 → x ∉ w.ct j) ∧ ∃ l, Blk h x 65 l := by
    intro x hx
    refine ⟨fun k hk hx2 => ?_, ?_⟩
    · have := M.one (by omega) (by omega) hx hx2; omega
    · obtain ⟨pl, h'⟩ := M.tblk (j := 256) (by omega) hx; exact ⟨_, h'⟩
  refine hK h' s' L' (M.ofHea H' he ?_ (by intro x hx; left; rw [← hsp]; exact hx) (fun x hx => (memL x (List.mem_of_mem_erase (hperm.mem_iff.1 hx))).1)) hperm hheap' he hsp
  rintro x (e | e | ⟨e, _⟩)
  · exact .inl e
  · exact .inr (.inl e)
  · exact .inr (.inr (memL x e))

/-- what going on leaves -/
structure Moved (W : Nat) (tm : Nat → Tm) (to : Int) (w w' : WS) : Prop where
  now : w'.now = to
  last : w'.last = w.last
  mb : w'.mb = w.mb
  es : w'.es = w.es
  clk : w'.clk = w.clk
  all : ∀ b, (∃ j, j < 257 ∧ b ∈ w'.ct j) ↔ ∃ j, j < 257 ∧ b ∈ w.ct j

theorem c31 {W : Nat} {to : Int} {tm : Nat → Tm} {w : WS} {bl : List Nat} {h : Hp} {K : Hp → Prop} (M : Mem h W tm w) (hheap : Pq.Heap (ltT tm) (w.ct 256)) (hp : Placed tm w) (hn0 : 0 ≤ w.now) (hto : w.now ≤ to) (hto1 : to ≤ MaxT)
    (hall : ∀ j, j < 257 → ∀ b ∈ w.ct j, to ≤ (tm b).tim) (hbl : ∀ j, j < 257 → ∀ b ∈ w.ct j, b ∈ bl) (hlen : bl.length < 1099511627776)
    (hK : ∀ h' w', Mem h' W tm w' → Moved W tm to w w' → Placed tm w' → Pq.Heap (ltT tm) (w'.ct 256) → Ext (FP W w) h h' → (∀ x, FP W w' x → FP W w x ∨ h x = none) → K h') : C31 (some (bk W)) to h K := by
  apply S31; unfold N31
  have hto2 := hto1
  unfold MaxT at hto2
  refine c35 M.hW wl_0 hn0 (by omega) (by omega) hto2 ?_
  simp only [nn_some']
  refine M.hW.st (by rw [wl_len]; omega) rfl ?_
  rw [wl_setnow]
  have M1 := M.setW (w' := { w with now := to }) rfl rfl rfl rfl rfl
  have x1 : Ext (fun x => x = W) h (upd h W (.cells ⟨wl W { w with now := to }⟩ 58 (0, 0))) := Ext.upd rfl
  revert M1 x1
  generalize upd h W _ = h1
  intro M1 x1
  have fpW : ∀ x o, h x = some o → x = W → FP W w x := fun x o _ e => .inl e
  have fpW' : ∀ x o, h x = some o → x = W → FP W w x := fun x o _ e => .inl e
  have nn1 : ∀ x, h1 x = none → h x = none := by
    intro x hx
    cases hq : h x with
    | none => rfl
    | some o =>
      by_cases e : x = W
      · subst e; have := M1.hW; unfold Blk at this; rw [hx] at this; cases this
      · have := x1 x o hq e; rw [hx] at this; cases this
  have tim' : ∀ j, j < 257 → ∀ b ∈ w.ct j, to ≤ (tm b).tim ∧ (tm b).tim ≤ MaxT := fun j hj b hb => ⟨hall j hj b hb, (hp.tim j hj b hb).2⟩
  have lenb : ∀ (hc : Hp) (wc : WS), Mem hc W tm wc → (∀ j, j < 257 → ∀ b ∈ wc.ct j, b ∈ bl) → ∀ j, j < 257 → (wc.ct j).length < 1099511627776 :=
    fun hc wc Mc hs j hj => Nat.lt_of_le_of_lt (nodup_le (Mc.nodup hj) (hs j hj)) hlen
  by_cases hl0 : lev w.now to = 0
  · rw [hl0]
    simp only [beq_self_eq_true, cond_true]
    refine hK h1 _ M1 ⟨rfl, rfl, rfl, rfl, rfl, fun b => Iff.rfl⟩ ⟨?_, tim'⟩ hheap (x1.mono fpW) (fun x hx => .inl hx)
    intro j hj b hb
    show slotOf to (tm b).tim = j
    rw [slot_zero hn0 hto (hall j hj b hb) hl0]; exact hp.slot j hj b hb
  · have : (lev w.now to == 0) = false := by simpa using hl0
    rw [this, cond_false]
    by_cases hlf : lev w.now to = -1
    · have : (lev w.now to == -1) = true := by simpa using hlf
      rw [this, cond_true]
      have far : ∀ j, j < 257 → ∀ b ∈ w.ct j, j = 256 := by
        intro j hj b hb
        rw [← hp.slot j hj b hb]; exact slot_all hn0 hto (hall j hj b hb) hlf
      unfold N31_l0
      refine loopP_inv (fun (_ : Unit) hc => ∃ wc : WS, Mem hc W tm wc ∧ Pq.Heap (ltT tm) (wc.ct 256) ∧ Moved W tm to w wc ∧ (∀ j, j < 256 → ∀ b ∈ wc.ct j, slotOf to (tm b).tim = j) ∧ Ext (FP W w) h hc ∧ (∀ x, FP W wc x → FP W w x ∨ h x = none))
        (fun _ hc => match cell hc ⟨W, 258, none⟩ with | some (.slice _ n _) => n | _ => 0) ?_ ⟨_, M1, hheap, ⟨rfl, rfl, rfl, rfl, rfl, fun b => Iff.rfl⟩, ?_, x1.mono fpW, fun x hx => .inl hx⟩
      · rintro ⟨⟩ hc ⟨wc, Mc, hhc, mv, hsl, hex, hfp⟩
        have memw : ∀ j, j < 257 → ∀ b ∈ wc.ct j, ∃ k, k < 257 ∧ b ∈ w.ct k := fun j hj b hb => (mv.all b).1 ⟨j, hj, hb⟩
        have timc : ∀ j, j < 257 → ∀ b ∈ wc.ct j, to ≤ (tm b).tim ∧ (tm b).tim ≤ MaxT := by
          intro j hj b hb; obtain ⟨k, hk, hb'⟩ := memw j hj b hb; exact tim' k hk b hb'
        have lc := lenb hc wc Mc (fun j hj b hb => by obtain ⟨k, hk, hb'⟩ := memw j hj b hb; exact hbl k hk b hb')
        have hn := Mc.len (show 256 < 257 by omega)
        have c258 : cell hc ⟨W, 258, none⟩ = some (.slice (wc.rows 256).p (wc.rows 256).n (wc.rows 256).c) := by rw [Mc.hW.cell, wl_258]; rfl
        unfold N31_l0_B N31_l0_b
        simp only [nn_some', add_bk, c258, xL_some]
        have fin : (∀ b ∈ wc.ct 256, slotOf to (tm b).tim = 256) → Placed tm wc := by
          intro hq
          refine ⟨?_, ?_⟩
          · intro j hj b hb
            rw [mv.now]
            by_cases e : j = 256
            · subst e; exact hq b hb
            · exact hsl j (by omega) b hb
          · intro j hj b hb; rw [mv.now]; exact timc j hj b hb
        by_cases hz : wc.ct 256 = []
        · have : decide ((((wc.rows 256).n : Nat) : Int) > 0) = false := by rw [hn, hz]; rfl
          rw [this, cond_false]
          exact hK hc wc Mc mv (fin (by rw [hz]; intro b hb; cases hb)) hhc hex hfp
        · have hpos : 0 < (wc.ct 256).length := List.length_pos_iff.2 hz
          have : decide ((((wc.rows 256).n : Nat) : Int) > 0) = true := by rw [hn]; simp; omega
          rw [this, cond_true]
          refine idx_of (by omega) (by omega) ?_
          obtain ⟨r, hr, hcell⟩ := Own.ptr (Mc.own 256 (by omega)) (k := 0) hpos
          generalize hb0 : (wc.ct 256).getD 0 0 = b at hcell
          have hbm : b ∈ wc.ct 256 := hb0 ▸ mem_getD hpos
          obtain ⟨pl, hb⟩ := Mc.tblk (by omega) hbm
          have tb := timc 256 (by omega) b hbm
          rw [hr]
          have cb : cell hc (bk b) = some (.int .i64 (tm b).tim) := by rw [hb.cell]; rfl
          simp only [nn_some', add_bk, Int.toNat_zero, Nat.zero_mul, hcell, xP_some, cb, xI_some]
          have tb2 := tb.2
          unfold MaxT at tb2
          have z0 : 0 ≤ wc.now := by rw [mv.now]; omega
          have z1 : wc.now ≤ 1125899906842624 := by rw [mv.now]; omega
          have z2 : 0 ≤ (tm b).tim := by have := tb.1; omega
          refine c35 Mc.hW wl_0 z0 z1 z2 tb2 ?_
          rw [mv.now]
          by_cases hq : lev to (tm b).tim = -1
          · have : (lev to (tm b).tim != -1) = false := by simpa using hq
            rw [this, cond_false]
            refine hK hc wc Mc mv (fin ?_) hhc hex hfp
            intro x hx
            obtain ⟨q, hq', e⟩ := mem_getD' hx
            have hm := heap_min hhc q hq'
            rw [hb0, e, ltT_false] at hm
            have := timc 256 (by omega) x hx
            exact slot_far_le (by omega) tb.1 (by omega) hq
          · have : (lev to (tm b).tim != -1) = true := by simpa using hq
            rw [this, cond_true]
            simp only [c258, xL_some]
            refine idx_of (by omega) (by omega) ?_
            simp only [hr, nn_some', add_bk, Int.toNat_zero, Nat.zero_mul, hcell, xP_some]
            refine c38m Mc hhc hpos hb0 (lc 256 (by omega)) ?_
            intro h2 s2 L2 M2 perm2 heap2 x2 hs2
            have hlv : slotOf to (tm b).tim ≠ 256 := fun e => hq (slotOf_far.1 e)
            have hb2 : Blk h2 b 65 (tc (tm b) (lvl 256) pl) := by
              refine x2.blk hb ?_
              rintro (e | e | ⟨_, e⟩)
              · exact hb.ne Mc.hW (by decide) e
              · exact Mc.notRow (by omega) hb (by decide) e
              · exact e rfl
            have nb2 : ∀ j, j < 257 → b ∉ fup wc.ct 256 L2 j := by
              intro j hj hx
              simp only [fup] at hx
              by_cases e : j = 256
              · rw [if_pos e] at hx
                exact (List.Nodup.not_mem_erase (Mc.nodup (by omega))) (perm2.mem_iff.1 hx)
              · rw [if_neg e] at hx
                exact e (Mc.one hj (by omega) hx hbm)
            have memL2 : ∀ x, x ∈ L2 ↔ x ∈ wc.ct 256 ∧ x ≠ b := by
              intro x
              rw [perm2.mem_iff, List.Nodup.mem_erase_iff (Mc.nodup (by omega))]; exact And.comm
            have lenL2 : L2.length + 1 = (wc.ct 256).length := by
              have := perm2.length_eq
              rw [List.length_erase_of_mem hbm] at this; omega
            have sub2 : ∀ j, j < 257 → ∀ x ∈ fup wc.ct 256 L2 j, x ∈ wc.ct j := by
              intro j hj x hx
              simp only [fup] at hx
              by_cases e : j = 256
              · rw [if_pos e] at hx; subst e; exact ((memL2 x).1 hx).1
              · rw [if_neg e] at hx; exact hx
            have lc2 : ∀ j, j < 257 → (fup wc.ct 256 L2 j).length < 1099511627776 := by
              intro j hj
              simp only [fup]
              by_cases e : j = 256
              · rw [if_pos e]; have := lc 256 (by omega); omega
              · rw [if_neg e]; exact lc j hj
            have fp2 : ∀ x, FP W { wc with rows := fup wc.rows 256 s2, ct := fup wc.ct 256 L2 } x → FP W wc x := by
              rintro x (e | e | ⟨j, hj, e⟩ | ⟨j, hj, e⟩)
              · exact .inl e
              · exact .inr (.inl e)
              · simp only [fup] at e
                by_cases e' : j = 256
                · rw [if_pos e'] at e; exact .inr (.inr (.inl ⟨256, by omega, hs2 ▸ e⟩))
                · rw [if_neg e'] at e; exact .inr (.inr (.inl ⟨j, hj, e⟩))
              · exact .inr (.inr (.inr ⟨j, hj, sub2 j hj x e⟩))
            refine c28 M2 (by simpa [fup] using heap2) hb2 nb2 z0 (by show wc.now ≤ _; rw [mv.now]; exact hto1) z2 tb.2 lc2 ?_
            intro h3 w3 M3 bs ot pm3 heap3 x3 fp3
            have now3 : w3.now = to := bs.now.trans mv.now
            have hslot : slotOf ({ wc with rows := fup wc.rows 256 s2, ct := fup wc.ct 256 L2 } : WS).now (tm b).tim = slotOf to (tm b).tim := by show slotOf wc.now _ = _; rw [mv.now]
            rw [hslot] at ot pm3
            have hlt := slotOf_lt to (tm b).tim
            have ct256 : w3.ct 256 = L2 := by rw [ot 256 (fun e => hlv e.symm)]; simp [fup]
            have mem3 : ∀ j, j < 257 → ∀ x, x ∈ w3.ct j ↔ x ∈ fup wc.ct 256 L2 j ∨ x = b ∧ j = slotOf to (tm b).tim := by
              intro j hj x
              by_cases e : j = slotOf to (tm b).tim
              · subst e
                rw [pm3.mem_iff]; simp
              · rw [ot j e]; simp [e]
            have FPb : FP W wc b := .inr (.inr (.inr ⟨256, by omega, hbm⟩))
            have toW : ∀ x o, hc x = some o → FP W wc x → ∀ o', h x = some o' → FP W w x := by
              intro x o _ hx o' ho'
              rcases hfp x hx with e | e
              · exact e
              · rw [ho'] at e; cases e
            have ex2 : Ext (FP W wc) hc h3 := by
              refine (x2.mono ?_).then x3 ?_
              · rintro x o _ (e | e | ⟨e, _⟩)
                · exact .inl e
                · exact .inr (.inr (.inl ⟨256, by omega, e⟩))
                · exact .inr (.inr (.inr ⟨256, by omega, e⟩))
              · rintro x o _ (e | e)
                · exact fp2 x e
                · rw [e]; exact FPb
            have hex3 : Ext (FP W w) h h3 := by
              intro x o ho hn
              have h' := hex x o ho hn
              refine ex2 x o h' (fun hx => hn (toW x o h' hx o ho))
            have nn2 : ∀ x, h2 x = none → h x = none ∨ FP W w x := by
              intro x hx
              by_cases hfx : FP W w x
              · exact .inr hfx
              · left
                cases hq : h x with
                | none => rfl
                | some o =>
                  have hx1 := hex x o hq hfx
                  have : h2 x = some o := by
                    refine x2 x o hx1 ?_
                    intro hs
                    have hfpx : FP W wc x := by
                      rcases hs with e | e | ⟨e, _⟩
                      · exact .inl e
                      · exact .inr (.inr (.inl ⟨256, by omega, e⟩))
                      · exact .inr (.inr (.inr ⟨256, by omega, e⟩))
                    exact hfx (toW x o hx1 hfpx o hq)
                  rw [hx] at this; cases this
            refine ⟨⟨w3, M3, heap3, ⟨now3, bs.last.trans mv.last, bs.mb.trans mv.mb, bs.es.trans mv.es, bs.clk.trans mv.clk, ?_⟩, ?_, hex3, ?_⟩, ?_⟩
            · intro x
              rw [← mv.all x]
              constructor
              · rintro ⟨j, hj, hx⟩
                rcases (mem3 j hj x).1 hx with e | ⟨e, _⟩
                · exact ⟨j, hj, sub2 j hj x e⟩
                · exact ⟨256, by omega, e ▸ hbm⟩
              · rintro ⟨j, hj, hx⟩
                by_cases e : x = b
                · exact ⟨_, hlt, (mem3 _ hlt x).2 (.inr ⟨e, rfl⟩)⟩
                · refine ⟨j, hj, (mem3 j hj x).2 (.inl ?_)⟩
                  simp only [fup]
                  by_cases e' : j = 256
                  · rw [if_pos e']; subst e'; exact (memL2 x).2 ⟨hx, e⟩
                  · rw [if_neg e']; exact hx
            · intro j hj x hx
              rcases (mem3 j (by omega) x).1 hx with e | ⟨e1, e2⟩
              · simp only [fup] at e
                rw [if_neg (by omega)] at e
                exact hsl j hj x e
              · subst e1; exact e2.symm
            · intro x hx
              rcases fp3 x hx with e | e | e
              · exact hfp x (fp2 x e)
              · subst e; exact hfp x FPb
              · exact (nn2 x e).symm
            · have n3 := M3.len (show 256 < 257 by omega)
              have c3 : cell h3 ⟨W, 258, none⟩ = some (.slice (w3.rows 256).p (w3.rows 256).n (w3.rows 256).c) := by rw [M3.hW.cell, wl_258]; rfl
              simp only [c3, c258]
              rw [n3, ct256, hn]; omega
      · intro j hj b hb
        have := far j (by omega) b hb
        omega
    · have : (lev w.now to == -1) = false := by simpa using hlf
      rw [this, cond_false]
      have hlb := lev_bd w.now to
      have hd := dg_bd to (lev w.now to)
      obtain ⟨j, hjdef⟩ : ∃ j, slotOf w.now to = j := ⟨_, rfl⟩
      have hjeq : j = (lev w.now to).toNat * 64 + (dg to (lev w.now to)).toNat := by rw [← hjdef]; unfold slotOf; rw [if_neg hlf]
      refine idx_of (by omega) (by omega) ?_
      refine c37 (by omega) (by omega) (by omega) (by omega) ?_
      refine idx_of (by omega) (by omega) ?_
      have hj : j < 256 := by omega
      have hoff : 2 + (lev w.now to).toNat * 64 + (dg to (lev w.now to)).toNat = 2 + j := by omega
      have hrow0 : (wl W { w with now := to })[2 + j]? = some (w.rows j).v := wl_row (by omega)
      simp only [add_bk, add_mk, Nat.mul_one, hoff, M1.hW.cell, hrow0, xL_v]
      refine M1.hW.st (by rw [wl_len]; omega) rfl ?_
      have hset : (wl W { w with now := to }).set (2 + j) (.slice none 0 0) = wl W { w with now := to, rows := fup w.rows j ⟨none, 0, 0⟩, ct := fup w.ct j [] } := wl_setrow (s := ⟨none, 0, 0⟩) (by omega)
      rw [hset]
      have x2 : Ext (fun x => x = W) h1 (upd h1 W (.cells ⟨wl W { w with now := to, rows := fup w.rows j ⟨none, 0, 0⟩, ct := fup w.ct j [] }⟩ 58 (0, 0))) := Ext.upd rfl
      have M2 : Mem (upd h1 W (.cells ⟨wl W { w with now := to, rows := fup w.rows j ⟨none, 0, 0⟩, ct := fup w.ct j [] }⟩ 58 (0, 0))) W tm { w with now := to, rows := fup w.rows j ⟨none, 0, 0⟩, ct := fup w.ct j [] } := by
        refine M1.row (j := j) (by omega) (s' := ⟨none, 0, 0⟩) (L' := []) rfl rfl Blk.upd_same ?_ Own.nil ?_ List.nodup_nil ?_ x2 ?_ ?_ ?_
        · exact x2 _ _ M1.hm (fun e => map_ne M1.hW M1.hm e.symm)
        · intro p hp'; cases hp'
        · intro x hx; cases hx
        · intro k hk _ x hx; obtain ⟨pl, hbx⟩ := M1.tblk hk hx; exact hbx.ne M1.hW (by decide)
        · intro k hk _ x hx; obtain ⟨l, hbx⟩ := M1.rblk hk hx; exact hbx.ne M1.hW (by decide)
        · intro x hx; cases hx
      revert M2 x2
      generalize upd h1 W _ = h2
      intro x2 M2
      have hjL : j < 257 := by omega
      have own0 : Own h2 62 1 (w.rows j) ((w.ct j).map ptr) := (M1.own j hjL).ext x2 (fun x hx e => M1.notRow hjL M1.hW (by decide) (e ▸ hx))
      have hn := M.len hjL
      have inL : ∀ q, q < (w.ct j).length → (w.ct j).getD q 0 ∈ w.ct j := fun q hq => mem_getD hq
      have memfup : ∀ k x, x ∈ fup w.ct j [] k ↔ k ≠ j ∧ x ∈ w.ct k := by
        intro k x
        simp only [fup]
        by_cases e : k = j
        · simp [e]
        · simp [e]
      have notFP : ∀ (hc : Hp) (wc : WS), Mem hc W tm wc → ∀ x l, Blk hc x 65 l → (∀ k, k < 257 → x ∉ wc.ct k) → ¬ FP W wc x := by
        intro hc wc Mc x l hx hn
        rintro (e | e | ⟨k, hk, e⟩ | ⟨k, hk, e⟩)
        · exact hx.ne Mc.hW (by decide) e
        · exact map_ne hx Mc.hm e
        · exact Mc.notRow hk hx (by decide) e
        · exact hn k hk e
      unfold N31_l1
      refine loopP_inv (fun (x : Int) hc => ∃ (i : Nat) (wc : WS), x = i ∧ i ≤ (w.ct j).length ∧ Mem hc W tm wc ∧ Pq.Heap (ltT tm) (wc.ct 256) ∧ Beside { w with now := to } wc ∧
          (∀ k, k < 257 → ∀ x, x ∈ wc.ct k ↔ x ∈ fup w.ct j [] k ∨ x ∈ (w.ct j).take i ∧ k = slotOf to (tm x).tim) ∧ Own hc 62 1 (w.rows j) ((w.ct j).map ptr) ∧
          (∀ q, i ≤ q → q < (w.ct j).length → ∃ lv pl, Blk hc ((w.ct j).getD q 0) 65 (tc (tm ((w.ct j).getD q 0)) lv pl)) ∧ (∀ x, (w.rows j).p = some (bk x) → ¬ FP W wc x) ∧ Ext (FP W w) h hc ∧ (∀ x, FP W wc x → FP W w x ∨ h x = none))
        (fun x _ => (w.ct j).length - x.toNat) ?_ ⟨0, _, rfl, Nat.zero_le _, M2, ?_, ⟨rfl, rfl, rfl, rfl, rfl⟩, ?_, own0, ?_, ?_, (x1.mono fpW).then x2 fpW', ?_⟩
      · rintro x hc ⟨i, wc, rfl, hi, Mc, hhc, bs, hmem, hown, hrest, hrow, hex, hfp⟩
        have now_c : wc.now = to := bs.now
        have subw : ∀ k, k < 257 → ∀ x ∈ wc.ct k, ∃ k', k' < 257 ∧ x ∈ w.ct k' := by
          intro k hk x hx
          rcases (hmem k hk x).1 hx with e | ⟨e, _⟩
          · exact ⟨k, hk, ((memfup k x).1 e).2⟩
          · exact ⟨j, hjL, List.mem_of_mem_take e⟩
        have lc := lenb hc wc Mc (fun k hk b hb => by obtain ⟨k', hk', hb'⟩ := subw k hk b hb; exact hbl k' hk' b hb')
        unfold N31_l1_B N31_l1_b
        by_cases hi2 : i < (w.ct j).length
        · have : decide ((i : Int) < (((w.rows j).n : Nat) : Int)) = true := by rw [hn]; simp; omega
          simp only [this, cond_true]
          refine idx_of (by omega) (by omega) ?_
          obtain ⟨r, hr, hcell⟩ := Own.ptr hown (k := i) hi2
          rw [hr]
          simp only [nn_some', add_bk, Int.toNat_natCast, Nat.mul_one, hcell, xP_some]
          obtain ⟨lv, pl, hb⟩ := hrest i (Nat.le_refl _) hi2
          have hbL := inL i hi2
          obtain ⟨l62, hr62⟩ := M.rblk hjL hr
          have hr62c : ∃ l, Blk hc r 62 l := by
            have := hown.2.2
            rw [hr] at this
            obtain ⟨_, cs, hb', _⟩ := this
            exact ⟨cs, hb'⟩
          have notin : ∀ q, i ≤ q → q < (w.ct j).length → ∀ k, k < 257 → (w.ct j).getD q 0 ∉ wc.ct k := by
            intro q hq1 hq2 k hk hx
            rcases (hmem k hk _).1 hx with e | ⟨e, _⟩
            · obtain ⟨e1, e2⟩ := (memfup k _).1 e
              exact e1 (M.one hk hjL e2 (inL q hq2))
            · obtain ⟨q', hq', e'⟩ := mem_getD' e
              have hq'' : q' < i := by simp at hq'; omega
              rw [List.getD_eq_getElem?_getD, List.getElem?_take, if_pos hq'', ← List.getD_eq_getElem?_getD] at e'
              have := (M.nd j j q' q hjL hjL (by omega) hq2 e').2
              omega
          have tb := tim' j hjL _ hbL
          generalize hbq : (w.ct j).getD i 0 = b at *
          refine c28 Mc hhc hb (by have := notin i (Nat.le_refl _) hi2; rw [hbq] at this; exact this) (by rw [now_c]; omega) (by rw [now_c]; exact hto1) (by omega) tb.2 lc ?_
          intro h3 w3 M3 bs3 ot pm3 heap3 x3 fp3
          rw [now_c] at ot pm3
          have hLl : (w.ct j).length < 1099511627776 := Nat.lt_of_le_of_lt (nodup_le (M.nodup hjL) (hbl j hjL)) hlen
          have wi : IntKind.wrap .i64 ((i : Int) + 1) = ((i + 1 : Nat) : Int) := by rw [wrap64 (by omega) (by omega)]; omega
          rw [wi]
          have hlt := slotOf_lt to (tm b).tim
          have htk : ∀ x, x ∈ (w.ct j).take (i + 1) ↔ x ∈ (w.ct j).take i ∨ x = b := by
            intro x
            rw [List.take_succ_eq_append_getElem hi2]
            have : (w.ct j)[i] = b := by rw [← hbq, List.getD_eq_getElem?_getD, List.getElem?_eq_getElem hi2]; rfl
            rw [this]; simp
          have FPb : FP W w b := .inr (.inr (.inr ⟨j, hjL, hbL⟩))
          have hexc : ∀ x o, h x = some o → ¬ FP W w x → h3 x = some o := by
            intro x o ho hn'
            refine x3 x o (hex x o ho hn') ?_
            rintro (e | e)
            · rcases hfp x e with e' | e'
              · exact hn' e'
              · rw [ho] at e'; cases e'
            · exact hn' (e ▸ FPb)
          refine ⟨⟨i + 1, w3, rfl, by omega, M3, heap3, ⟨bs3.now.trans bs.now, bs3.last.trans bs.last, bs3.mb.trans bs.mb, bs3.es.trans bs.es, bs3.clk.trans bs.clk⟩, ?_, ?_, ?_, ?_, hexc, ?_⟩, by omega⟩
          · intro k hk x
            rw [htk x]
            by_cases e : k = slotOf to (tm b).tim
            · subst e
              rw [pm3.mem_iff, List.mem_append, hmem _ hlt x]
              simp only [List.mem_singleton]
              constructor
              · rintro ((e | ⟨e1, e2⟩) | e)
                · exact .inl e
                · exact .inr ⟨.inl e1, e2⟩
                · exact .inr ⟨.inr e, by rw [e]⟩
              · rintro (e | ⟨e | e, e2⟩)
                · exact .inl (.inl e)
                · exact .inl (.inr ⟨e, e2⟩)
                · exact .inr e
            · rw [ot k e, hmem k hk x]
              constructor
              · rintro (e | ⟨e1, e2⟩)
                · exact .inl e
                · exact .inr ⟨.inl e1, e2⟩
              · rintro (e' | ⟨e' | e', e2⟩)
                · exact .inl e'
                · exact .inr ⟨e', e2⟩
                · subst e'; exact (e e2).elim
          · refine hown.ext x3 ?_
            intro x hx
            rintro (e | e)
            · exact hrow x hx e
            · subst e
              rw [hr] at hx
              have : r = x := congrArg Addr.block (Option.some.inj hx)
              subst this
              obtain ⟨l, hl⟩ := hr62c
              exact hl.ne hb (by decide) rfl
          · intro q hq1 hq2
            obtain ⟨lv', pl', hbq'⟩ := hrest q (by omega) hq2
            refine ⟨lv', pl', x3.blk hbq' ?_⟩
            rintro (e | e)
            · exact notFP hc wc Mc _ _ hbq' (notin q (by omega) hq2) e
            · have := (M.nd j j q i hjL hjL hq2 hi2 (e.trans hbq.symm)).2
              omega
          · intro x hx hf
            have : r = x := congrArg Addr.block (Option.some.inj hx)
            subst this
            obtain ⟨l, hl⟩ := hr62c
            rcases fp3 r hf with e | e | e
            · exact hrow r hr e
            · subst e; exact hl.ne hb (by decide) rfl
            · unfold Blk at hl; rw [e] at hl; cases hl
          · intro x hx
            rcases fp3 x hx with e | e | e
            · exact hfp x e
            · subst e; exact .inl FPb
            · by_cases hfx : FP W w x
              · exact .inl hfx
              · right
                cases hq : h x with
                | none => rfl
                | some o => have := hex x o hq hfx; rw [e] at this; cases this
        · have : decide ((i : Int) < (((w.rows j).n : Nat) : Int)) = false := by rw [hn]; simp; omega
          simp only [this, cond_false]
          have hie : i = (w.ct j).length := by omega
          subst hie
          rw [List.take_length] at hmem
          refine hK hc wc Mc ⟨now_c, bs.last, bs.mb, bs.es, bs.clk, ?_⟩ ⟨?_, ?_⟩ hhc hex hfp
          · intro x
            constructor
            · rintro ⟨k, hk, hx⟩; exact subw k hk x hx
            · rintro ⟨k, hk, hx⟩
              by_cases e : k = j
              · subst e; exact ⟨_, slotOf_lt to (tm x).tim, (hmem _ (slotOf_lt _ _) x).2 (.inr ⟨hx, rfl⟩)⟩
              · exact ⟨k, hk, (hmem k hk x).2 (.inl ((memfup k x).2 ⟨e, hx⟩))⟩
          · intro k hk x hx
            rw [now_c]
            rcases (hmem k hk x).1 hx with e | ⟨_, e⟩
            · obtain ⟨e1, e2⟩ := (memfup k x).1 e
              have hs := hp.slot k hk x e2
              rw [slot_keep hn0 hto (hall k hk x e2) (by rw [hs, hjdef]; exact e1)]
              exact hs
            · exact e.symm
          · intro k hk x hx
            rw [now_c]
            obtain ⟨k', hk', hx'⟩ := subw k hk x hx
            exact tim' k' hk' x hx'
      · have : ¬ 256 = j := by omega
        simpa [fup, this] using hheap
      · intro k hk x
        simp [fup]
      · intro q _ hq
        refine ⟨lvl j, q, x2.blk (M1.tms j hjL q hq) ((M1.tms j hjL q hq).ne M1.hW (by decide))⟩
      · intro x hx
        obtain ⟨l, hl⟩ := M1.rblk hjL hx
        rintro (e | e | ⟨k, hk, e⟩ | ⟨k, hk, e⟩)
        · exact hl.ne M1.hW (by decide) e
        · exact map_ne hl M1.hm e
        · simp only [fup] at e
          by_cases e' : k = j
          · rw [if_pos e'] at e; cases e
          · rw [if_neg e'] at e; exact e' (M.rinj _ _ _ hk hjL e hx)
        · obtain ⟨pl, hb⟩ := M1.tblk hk ((memfup k x).1 e).2
          exact hl.ne hb (by decide) rfl
      · rintro x (e | e | ⟨k, hk, e⟩ | ⟨k, hk, e⟩)
        · exact .inl (.inl e)
        · exact .inl (.inr (.inl e))
        · simp only [fup] at e
          by_cases e' : k = j
          · rw [if_pos e'] at e; cases e
          · rw [if_neg e'] at e; exact .inl (.inr (.inr (.inl ⟨k, hk, e⟩)))
        · exact .inl (.inr (.inr (.inr ⟨k, hk, ((memfup k x).1 e).2⟩)))

end Go.Proofs.Ytfnlldbaplakoaa

/-
  The wheel's functions, as they answer.
-/
set_option linter.unusedSimpArgs false
set_option linter.unusedVariables false
set_option maxRecDepth 100000
namespace Go.Proofs.Ytfnlldbaplakoaa
open Go Go.Hw

/-- a wheel, without its memory -/
structure St where
  now : Int
  last : Int
  ts : List Tm

structure Wh (h : Hp) (W : Nat) (tm : Nat → Tm) (w : WS) (bl : List Nat) : Prop where
  M : Mem h W tm w
  heap : Pq.Heap (ltT tm) (w.ct 256)
  pl : Placed tm w
  n0 : 0 ≤ w.now
  n1 : w.now ≤ MaxT
  all : ∀ b, b ∈ bl ↔ ∃ j, j < 257 ∧ b ∈ w.ct j
  es : EsOk tm w.es.toList bl
  ids : bl.Pairwise (fun a b => (tm a).id < (tm b).id)
  idl : ∀ b ∈ bl, 1 ≤ (tm b).id ∧ (tm b).id ≤ w.last
  len : bl.length ≤ 1024
  l0 : 0 ≤ w.last

def Whl (h : Hp) (W : Nat) (a : St) (F : Nat → Prop) : Prop := ∃ tm w bl, Wh h W tm w bl ∧ a.now = w.now ∧ a.last = w.last ∧ a.ts = bl.map tm ∧ F = FP W w

theorem Wh.lens {h : Hp} {W : Nat} {tm : Nat → Tm} {w : WS} {bl : List Nat} (H : Wh h W tm w bl) : ∀ j, j < 257 → (w.ct j).length < 1099511627776 := by
  intro j hj
  have := nodup_le (H.M.nodup hj) (M := bl) (fun x hx => (H.all x).2 ⟨j, hj, hx⟩)
  have := H.len
  omega
theorem Whl.ext {S : Nat → Prop} {h h' : Hp} {W : Nat} {a : St} {F : Nat → Prop} (H : Whl h W a F) (he : Ext S h h') (hs : ∀ x, F x → ¬ S x) : Whl h' W a F := by
  obtain ⟨tm, w, bl, H, e1, e2, e3, rfl⟩ := H
  exact ⟨tm, w, bl, ⟨H.M.ext he hs, H.heap, H.pl, H.n0, H.n1, H.all, H.es, H.ids, H.idl, H.len, H.l0⟩, e1, e2, e3, rfl⟩
theorem Whl.there {h : Hp} {W : Nat} {a : St} {F : Nat → Prop} (H : Whl h W a F) : ∀ x, F x → h x ≠ none := by
  obtain ⟨tm, w, bl, H, e1, e2, e3, rfl⟩ := H
  intro x hx; exact H.M.there hx

/-- the first one: the least time, the least number -/
def pick (m x : Tm) : Tm := if x.tim < m.tim then x else m
def first : List Tm → Option Tm
  | [] => none
  | a :: l => some (l.foldl pick a)
theorem foldl_pick : ∀ {l : List Tm} {a : Tm}, (a :: l).Pairwise (fun a b => a.id < b.id) →
    l.foldl pick a ∈ a :: l ∧ ∀ x ∈ a :: l, (l.foldl pick a).tim < x.tim ∨ (l.foldl pick a).tim = x.tim ∧ (l.foldl pick a).id ≤ x.id := by
  intro l
  induction l with
  | nil => intro a _; exact ⟨by simp, by intro x hx; simp at hx; subst hx; exact .inr ⟨rfl, Int.le_refl _⟩⟩
  | cons b l ih =>
    intro a hp
    rw [List.foldl_cons]
    rw [List.pairwise_cons] at hp
    obtain ⟨h1, h2⟩ := hp
    rw [List.pairwise_cons] at h2
    unfold pick
    by_cases e : b.tim < a.tim
    · rw [if_pos e]
      obtain ⟨a1, a2⟩ := ih (a := b) (by rw [List.pairwise_cons]; exact h2)
      unfold pick at a1 a2
      refine ⟨List.mem_cons_of_mem _ a1, ?_⟩
      intro x hx
      rcases List.mem_cons.1 hx with e' | e'
      · subst e'; have := a2 b (by simp); left; omega
      · exact a2 x e'
    · rw [if_neg e]
      obtain ⟨a1, a2⟩ := ih (a := a) (by rw [List.pairwise_cons]; exact ⟨fun x hx => h1 x (by simp [hx]), h2.2⟩)
      unfold pick at a1 a2
      refine ⟨?_, ?_⟩
      · rcases List.mem_cons.1 a1 with e' | e'
        · rw [e']; simp
        · exact List.mem_cons_of_mem _ (List.mem_cons_of_mem _ e')
      · intro x hx
        rcases List.mem_cons.1 hx with e' | e'
        · exact a2 x (by rw [e']; simp)
        · rcases List.mem_cons.1 e' with e'' | e''
          · subst e''
            have := a2 a (by simp)
            have := h1 x (by simp)
            omega
          · exact a2 x (by simp [e''])
theorem first_eq {tm : Nat → Tm} {bl : List Nat} (hid : bl.Pairwise (fun a b => (tm a).id < (tm b).id)) {b : Nat} (hb : b ∈ bl) (hm : ∀ x ∈ bl, ltT tm x b = false) : first (bl.map tm) = some (tm b) := by
  have hp : (bl.map tm).Pairwise (fun a b => a.id < b.id) := by rw [List.pairwise_map]; exact hid
  cases bl with
  | nil => cases hb
  | cons c l =>
    simp only [List.map_cons, first] at hp ⊢
    obtain ⟨a1, a2⟩ := foldl_pick hp
    congr 1
    generalize List.foldl pick (tm c) (l.map tm) = m at a1 a2
    have hm1 : m ∈ (c :: l).map tm := by simpa using a1
    obtain ⟨x, hx, rfl⟩ := List.mem_map.1 hm1
    have h1 := hm x hx
    rw [ltT_false] at h1
    have h2 := a2 (tm b) (by have := List.mem_map_of_mem (f := tm) hb; simpa using this)
    have h3 : (tm x).id = (tm b).id := by omega
    have : x = b := by
      obtain ⟨i, hi, e1⟩ := List.getElem_of_mem hx
      obtain ⟨k, hk, e2⟩ := List.getElem_of_mem hb
      rw [List.pairwise_iff_getElem] at hid
      rcases Nat.lt_trichotomy i k with q | q | q
      · have := hid i k hi hk q; rw [e1, e2] at this; omega
      · subst q; rw [← e1, e2]
      · have := hid k i hk hi q; rw [e1, e2] at this; omega
    rw [this]

theorem erase_map {tm : Nat → Tm} : ∀ {bl : List Nat} {b : Nat}, bl.Pairwise (fun a b => (tm a).id < (tm b).id) → b ∈ bl → (bl.erase b).map tm = (bl.map tm).filter (fun x => x.id != (tm b).id) := by
  intro bl
  induction bl with
  | nil => intro b _ h; cases h
  | cons c l ih =>
    intro b hp hb
    rw [List.pairwise_cons] at hp
    by_cases e : b = c
    · subst e
      simp only [List.erase_cons_head, List.map_cons, List.filter_cons, bne_self_eq_false, Bool.false_eq_true, if_false]
      symm
      rw [List.filter_eq_self]
      intro x hx
      obtain ⟨y, hy, rfl⟩ := List.mem_map.1 hx
      have := hp.1 y hy
      simp; omega
    · have hm : b ∈ l := by simpa [e] using hb
      have h1 := hp.1 b hm
      have h2 : ((tm c).id != (tm b).id) = true := by simp; omega
      have h3 : (c == b) = false := by simpa using fun e' : c = b => e e'.symm
      simp [List.erase_cons, h3, h2, ih hp.2 hm]

/-! ### what is asked -/
theorem c17' {W : Nat} {a : St} {F : Nat → Prop} {h : Hp} {K : Int → Hp → Prop} (H : Whl h W a F) (hK : K a.now h) : C17 (some (bk W)) h K := by
  obtain ⟨tm, w, bl, H, e1, e2, e3, rfl⟩ := H
  apply S17; unfold N17
  have cb : cell h (bk W) = some (.int .i64 w.now) := by rw [H.M.hW.cell, wl_0]
  simp only [nn_some', cb, xI_some]
  rw [← e1]; exact hK
theorem c16' {W : Nat} {a : St} {F : Nat → Prop} {h : Hp} {K : Int → Hp → Prop} (H : Whl h W a F) (hK : K (a.ts.length : Int) h) : C16 (some (bk W)) h K := by
  obtain ⟨tm, w, bl, H, e1, e2, e3, rfl⟩ := H
  apply S16; unfold N16
  simp only [nn_some', add_bk, H.M.hW.cell, wl_260, xM_some]
  refine xMap_of H.M.hm ?_
  rw [H.es.len]; rw [e3, List.length_map] at hK; exact hK
theorem c30' {W : Nat} {tm : Nat → Tm} {w : WS} {bl : List Nat} {h : Hp} {K : Option Addr → Hp → Prop} (H : Wh h W tm w bl) (hN : ∀ h', bl = [] → Ext none' h h' → K none h')
    (hK : ∀ h' b, b ∈ bl → first (bl.map tm) = some (tm b) → Ext none' h h' → K (some (bk b)) h') : C30 (some (bk W)) h K := by
  refine c30 H.M H.heap H.pl H.n0 H.n1 H.lens ?_ ?_
  · intro h' he hx
    refine hN h' ?_ hx
    apply List.eq_nil_iff_forall_not_mem.2
    intro b hb
    obtain ⟨j, hj, hb'⟩ := (H.all b).1 hb
    rw [he j hj] at hb'; cases hb'
  · intro h' j b hj hb hmin hx
    have hbl := (H.all b).2 ⟨j, hj, hb⟩
    refine hK h' b hbl (first_eq H.ids hbl ?_) hx
    intro x hx
    obtain ⟨k, hk, hx'⟩ := (H.all x).1 hx
    exact hmin k hk x hx'
theorem c15' {W : Nat} {a : St} {F : Nat → Prop} {h : Hp} {K : Int → Bool → Hp → Prop} (H : Whl h W a F)
    (hK : ∀ h', Ext none' h h' → match first a.ts with | some t => K t.tim true h' | none => K 0 false h') : C15 (some (bk W)) h K := by
  obtain ⟨tm, w, bl, H, e1, e2, e3, rfl⟩ := H
  apply S15; unfold N15
  refine c30' H ?_ ?_
  · intro h' he hx
    have := hK h' hx
    rw [e3, he] at this
    simp only [peq_none, Option.isNone_none, cond_true]
    exact this
  · intro h' b hb hf hx
    have := hK h' hx
    rw [e3, hf] at this
    simp only [peq_none, Option.isNone_some, cond_false, nn_some']
    obtain ⟨j, hj, hb'⟩ := (H.all b).1 hb
    obtain ⟨pl, hbb⟩ := H.M.tblk hj hb'
    have cb : cell h' (bk b) = some (.int .i64 (tm b).tim) := by rw [(hx.blk hbb id).cell]; rfl
    rw [cb, xI_some]; exact this

/-! ### taken -/
theorem digit_of {now t : Int} {j : Nat} (hj : j < 256) (h : slotOf now t = j) : dg t (lvl j) = ((j % 64 : Nat) : Int) := by
  have hd := dg_bd t (lev now t)
  have hl := lev_bd now t
  unfold slotOf at h
  by_cases e : lev now t = -1
  · rw [if_pos e] at h; omega
  · rw [if_neg e] at h
    have : lvl j = lev now t := by unfold lvl; rw [if_neg (by omega)]; omega
    rw [this]; omega
theorem c29' {W b : Nat} {tm : Nat → Tm} {w : WS} {bl : List Nat} {h : Hp} {K : Hp → Prop} (H : Wh h W tm w bl) (hb : b ∈ bl)
    (hK : ∀ h' w', Wh h' W tm w' (bl.erase b) → w'.now = w.now → w'.last = w.last → Ext (FP W w) h h' → (∀ x, FP W w' x → FP W w x) → (∃ lv pl, Blk h' b 65 (tc (tm b) lv pl)) → K h') : C29 (some (bk W)) (some (bk b)) h K := by
  obtain ⟨j, hj, hbj⟩ := (H.all b).1 hb
  obtain ⟨p, hp, hpb⟩ := mem_getD' hbj
  have hs := H.pl.slot j hj b hbj
  have ht := H.pl.tim j hj b hbj
  have n0 := H.n0
  refine c29 H.M H.heap H.es hb H.ids hj hp hpb (fun hj2 => digit_of hj2 hs) (by omega) ht.2 H.lens ?_
  intro h' w' M' tk ot pm heap' ex fp hb'
  have mem' : ∀ k, k < 257 → ∀ x, x ∈ w'.ct k ↔ x ∈ w.ct k ∧ x ≠ b := by
    intro k hk x
    by_cases e : k = j
    · subst e; rw [pm.mem_iff, List.Nodup.mem_erase_iff (H.M.nodup hk)]; exact And.comm
    · rw [ot k e]
      constructor
      · intro hx; exact ⟨hx, fun e' => e (H.M.one hk hj (e' ▸ hx) hbj)⟩
      · exact fun hx => hx.1
  have nd : bl.Nodup := H.ids.imp (fun h e => by rw [e] at h; omega)
  refine hK h' w' ⟨M', heap', ⟨?_, ?_⟩, tk.now ▸ n0, tk.now ▸ H.n1, ?_, tk.es, H.ids.sublist List.erase_sublist, ?_, ?_, tk.last ▸ H.l0⟩ tk.now tk.last ex fp hb'
  · intro k hk x hx; rw [tk.now]; exact H.pl.slot k hk x ((mem' k hk x).1 hx).1
  · intro k hk x hx; rw [tk.now]; exact H.pl.tim k hk x ((mem' k hk x).1 hx).1
  · intro x
    rw [List.Nodup.mem_erase_iff nd, H.all x]
    constructor
    · rintro ⟨h1, k, hk, h2⟩; exact ⟨k, hk, (mem' k hk x).2 ⟨h2, h1⟩⟩
    · rintro ⟨k, hk, h2⟩; have := (mem' k hk x).1 h2; exact ⟨this.2, k, hk, this.1⟩
  · intro x hx; rw [tk.last]; exact H.idl x (List.mem_of_mem_erase hx)
  · have := List.length_erase_le (a := b) (l := bl); have := H.len; omega

def cancel (a : St) (id : Int) : St := { a with ts := a.ts.filter (fun x => x.id != id) }
theorem c13' {W : Nat} {id : Int} {a : St} {F : Nat → Prop} {h : Hp} {K : Bool → Hp → Prop} (H : Whl h W a F)
    (hK : ∀ h' F', Whl h' W (cancel a id) F' → Ext F h h' → (∀ x, F' x → F x) → K (a.ts.any (fun x => id == x.id)) h') : C13 (some (bk W)) id h K := by
  obtain ⟨tm, w, bl, H, e1, e2, e3, rfl⟩ := H
  apply S13; unfold N13
  simp only [nn_some', add_bk, H.M.hW.cell, wl_260, xM_some]
  refine xMap_of H.M.hm ?_
  unfold keyAt
  rw [find_es H.es]
  simp only []
  rw [e3] at hK
  by_cases hq : ∃ b ∈ bl, id = (tm b).id
  · obtain ⟨b, hb, rfl⟩ := hq
    obtain ⟨i, hi1, hi2, _, _⟩ := idx_of_mem H.ids hb
    rw [hi1]
    simp only [Option.map_some, rval, hi2, xP_some, Option.isSome_some, cond_true]
    refine c29' H hb ?_
    intro h' w' H' e4 e5 ex fp _
    have hany : (bl.map tm).any (fun x => (tm b).id == x.id) = true := by rw [List.any_eq_true]; exact ⟨tm b, List.mem_map_of_mem hb, by simp⟩
    have := hK h' (FP W w') ⟨tm, w', _, H', e1.trans e4.symm, e2.trans e5.symm, ?_, rfl⟩ ex fp
    · rw [hany] at this; exact this
    · show List.filter _ a.ts = _
      rw [e3]; exact (erase_map H.ids hb).symm
  · have hn : bl.findIdx? (fun b => id == (tm b).id) = none := by
      rw [List.findIdx?_eq_none_iff]
      intro x hx
      simpa using fun e : id = (tm x).id => hq ⟨x, hx, e⟩
    rw [hn]
    simp only [Option.map_none, rval, xP_some, Option.isSome_none, cond_false]
    have hany : (bl.map tm).any (fun x => id == x.id) = false := by
      rw [List.any_eq_false]
      intro x hx
      obtain ⟨y, hy, rfl⟩ := List.mem_map.1 hx
      simpa using fun e : id = (tm y).id => hq ⟨y, hy, e⟩
    have := hK h (FP W w) ⟨tm, w, bl, H, e1, e2, ?_, rfl⟩ Ext.refl (fun x hx => hx)
    · rw [hany] at this; exact this
    · show List.filter _ a.ts = _
      rw [e3, List.filter_eq_self]
      intro x hx
      obtain ⟨y, hy, rfl⟩ := List.mem_map.1 hx
      simpa using fun e : (tm y).id = id => hq ⟨y, hy, e.symm⟩

end Go.Proofs.Ytfnlldbaplakoaa

/-
  The wheel's functions: New, Arm, Advance.
-/
set_option linter.unusedSimpArgs false
set_option linter.unusedVariables false
set_option maxRecDepth 100000
namespace Go.Proofs.Ytfnlldbaplakoaa
open Go Go.Hw

/-! ### timers told otherwise -/
theorem Mem.tmc {h : Hp} {W : Nat} {tm tm' : Nat → Tm} {w : WS} (M : Mem h W tm w) (he : ∀ j, j < 257 → ∀ x ∈ w.ct j, tm' x = tm x) : Mem h W tm' w :=
  ⟨M.hW, M.hm, M.own, M.rinj, fun j hj p hp => by rw [he j hj _ (mem_getD hp)]; exact M.tms j hj p hp, M.nd⟩
theorem Heap_tmc {tm tm' : Nat → Tm} {L : List Nat} (hh : Pq.Heap (ltT tm) L) (he : ∀ x ∈ L, tm' x = tm x) : Pq.Heap (ltT tm') L := by
  intro j h0 hj
  have := hh j h0 hj
  unfold ltT at this ⊢
  rw [he _ (mem_getD hj), he _ (mem_getD (show (j - 1) / 2 < L.length by omega))]; exact this
theorem EsOk.tmc {tm tm' : Nat → Tm} {es : List MapEntry} {bl : List Nat} (h : EsOk tm es bl) (he : ∀ x ∈ bl, tm' x = tm x) : EsOk tm' es bl := by
  unfold EsOk at h ⊢
  rw [h]
  apply List.map_congr_left
  intro x hx
  rw [he x hx]

def armed (a : St) (t tag : Int) : St := { a with last := a.last + 1, ts := a.ts ++ [⟨clampT a.now t, a.last + 1, tag⟩] }
theorem clamp_bd {now t : Int} (h : now ≤ MaxT) : now ≤ clampT now t ∧ clampT now t ≤ MaxT := by
  unfold clampT; split
  · omega
  · split <;> omega
theorem c12' {W : Nat} {t tag : Int} {a : St} {F : Nat → Prop} {h : Hp} {K : Int → Int → Hp → Prop} (H : Whl h W a F) (hlast : a.last < 4611686018427387904)
    (h70 : 1024 ≤ a.ts.length → K 0 70 h)
    (hK : a.ts.length < 1024 → ∀ h' F', Whl h' W (armed a t tag) F' → Ext F h h' → (∀ x, F' x → F x ∨ h x = none) → K (a.last + 1) 0 h') : C12 (some (bk W)) t tag h K := by
  obtain ⟨tm, w, bl, H, e1, e2, e3, rfl⟩ := H
  apply S12; unfold N12
  have len0 : a.ts.length = bl.length := by rw [e3, List.length_map]
  have esl := H.es.len
  simp only [nn_some', add_bk, H.M.hW.cell, wl_260, wl_1, xM_some, xI_some]
  refine xMap_of H.M.hm ?_
  by_cases hf : 1024 ≤ a.ts.length
  · have : decide ((w.es.toList.length : Int) ≥ 1024) = true := by simp at esl ⊢; omega
    rw [this, cond_true]; exact h70 hf
  · have : decide ((w.es.toList.length : Int) ≥ 1024) = false := by simp at esl ⊢; omega
    rw [this, cond_false]
    have hK := hK (by omega)
    have l0 := H.l0
    have n0 := H.n0
    have n1 := H.n1
    have wl1 : IntKind.wrap .i64 (w.last + 1) = w.last + 1 := wrap64 (by omega) (by omega)
    rw [wl1]
    refine H.M.hW.st (by rw [wl_len]; omega) rfl ?_
    rw [wl_setlast]
    have M1 := H.M.setW (w' := { w with last := w.last + 1 }) rfl rfl rfl rfl rfl
    have x1 : Ext (fun x => x = W) h (upd h W (.cells ⟨wl W { w with last := w.last + 1 }⟩ 58 (0, 0))) := Ext.upd rfl
    revert M1 x1
    generalize upd h W _ = h1
    intro M1 x1
    simp only [M1.hW.cell, wl_1, xI_some]
    refine c27 M1.hW wl_0 n1 ?_
    have hcl := clamp_bd (t := t) n1
    show _ ∧ _
    simp only [M1.hW.cell, wl_1, xI_some, only_self, true_and]
    intro b0 e0
    have x2 : Ext none' h1 (upd h1 b0 (.cells ⟨[.int .i64 (clampT w.now t), .int .i64 (w.last + 1), .int .i64 tag, .int .i64 0, .int .i64 0]⟩ 65 (0, 0))) := Ext.new e0
    have hb2 : Blk (upd h1 b0 (.cells ⟨[.int .i64 (clampT w.now t), .int .i64 (w.last + 1), .int .i64 tag, .int .i64 0, .int .i64 0]⟩ 65 (0, 0))) b0 65 (tc ⟨clampT w.now t, w.last + 1, tag⟩ 0 0) := Blk.upd_same
    revert x2 hb2
    generalize upd h1 b0 _ = h2
    intro x2 hb2
    have M2 := M1.ext0 x2
    have hfr : h b0 = none := by
      cases hq : h b0 with
      | none => rfl
      | some o =>
        by_cases e : b0 = W
        · subst e; exact (M1.hW.ne_none e0 rfl).elim
        · have := x1 _ o hq e; rw [e0] at this; cases this
    have hnb : ∀ j, j < 257 → b0 ∉ w.ct j := fun j hj hx => H.M.there (.inr (.inr (.inr ⟨j, hj, hx⟩))) hfr
    have hnbl : b0 ∉ bl := fun hx => by obtain ⟨j, hj, h'⟩ := (H.all b0).1 hx; exact hnb j hj h'
    simp only [M2.hW.cell, wl_1, wl_260, xI_some, xM_some]
    refine mu50 M2.hm ?_
    unfold keyAt
    have hnf : bl.findIdx? (fun b => w.last + 1 == (tm b).id) = none := by
      rw [List.findIdx?_eq_none_iff]
      intro x hx
      have := H.idl x hx
      simp; omega
    rw [find_es H.es, hnf]
    simp only [Option.map_none, mset]
    have M3 := M2.map (w.es.push ⟨.int .i64 (w.last + 1), ptr b0, w.clk⟩) (w.clk + 1)
    have x3 : Ext (fun x => x = w.mb) h2 (upd h2 w.mb (.map (w.es.push ⟨.int .i64 (w.last + 1), ptr b0, w.clk⟩) (w.clk + 1))) := Ext.upd rfl
    have hb3 : Blk (upd h2 w.mb (.map (w.es.push ⟨.int .i64 (w.last + 1), ptr b0, w.clk⟩) (w.clk + 1))) b0 65 (tc ⟨clampT w.now t, w.last + 1, tag⟩ 0 0) := x3.blk hb2 (map_ne hb2 M2.hm)
    revert M3 x3 hb3
    generalize upd h2 w.mb _ = h3
    intro M3 x3 hb3
    obtain ⟨tm', htm⟩ : ∃ tm' : Nat → Tm, tm' = fun x => if x = b0 then ⟨clampT w.now t, w.last + 1, tag⟩ else tm x := ⟨_, rfl⟩
    have tb : tm' b0 = ⟨clampT w.now t, w.last + 1, tag⟩ := by rw [htm]; simp
    have to : ∀ x, x ≠ b0 → tm' x = tm x := by intro x hx; rw [htm]; simp [hx]
    have toj : ∀ j, j < 257 → ∀ x ∈ w.ct j, tm' x = tm x := fun j hj x hx => to x (fun e => hnb j hj (e ▸ hx))
    have tobl : ∀ x ∈ bl, tm' x = tm x := fun x hx => to x (fun e => hnbl (e ▸ hx))
    have hb3' : Blk h3 b0 65 (tc (tm' b0) 0 0) := by rw [tb]; exact hb3
    have M3' : Mem h3 W tm' { w with last := w.last + 1, es := w.es.push ⟨.int .i64 (w.last + 1), ptr b0, w.clk⟩, clk := w.clk + 1 } := M3.tmc toj
    refine c28 M3' (Heap_tmc H.heap (toj 256 (by omega))) hb3' hnb n0 n1 (by rw [tb]; show 0 ≤ clampT w.now t; omega) (by rw [tb]; exact hcl.2) H.lens ?_
    intro h4 w4 M4 bs ot pm heap4 x4 fp4
    simp only [M4.hW.cell, wl_1, xI_some]
    have l4 : w4.last = w.last + 1 := bs.last
    rw [l4, ← e2]
    have hsl : slotOf w.now (tm' b0).tim < 257 := slotOf_lt _ _
    change (∀ j, j ≠ slotOf w.now (tm' b0).tim → w4.ct j = w.ct j) at ot
    change (w4.ct (slotOf w.now (tm' b0).tim)).Perm (w.ct (slotOf w.now (tm' b0).tim) ++ [b0]) at pm
    have mem4 : ∀ k, k < 257 → ∀ x, x ∈ w4.ct k ↔ x ∈ w.ct k ∨ x = b0 ∧ k = slotOf w.now (tm' b0).tim := by
      intro k hk x
      by_cases e : k = slotOf w.now (tm' b0).tim
      · subst e; rw [pm.mem_iff]; simp
      · rw [ot k e]; simp [e]
    have now4 : w4.now = w.now := bs.now
    have x03 : Ext (FP W w) h h3 := ((x1.mono (fun x o _ e => .inl e)).then x2 (fun x o _ e => e.elim)).then x3 (fun x o _ e => .inr (.inl e))
    refine hK h4 (FP W w4) ⟨tm', w4, bl ++ [b0], ⟨M4, heap4, ⟨?_, ?_⟩, now4 ▸ n0, now4 ▸ n1, ?_, ?_, ?_, ?_, ?_, by rw [l4]; omega⟩, e1.trans now4.symm, ?_, ?_, rfl⟩ ?_ ?_
    · intro k hk x hx
      rw [now4]
      rcases (mem4 k hk x).1 hx with e | ⟨e, e'⟩
      · rw [toj k hk x e]; exact H.pl.slot k hk x e
      · rw [e]; exact e'.symm
    · intro k hk x hx
      rw [now4]
      rcases (mem4 k hk x).1 hx with e | ⟨e, e'⟩
      · rw [toj k hk x e]; exact H.pl.tim k hk x e
      · rw [e, tb]; exact hcl
    · intro x
      rw [List.mem_append, H.all x, List.mem_singleton]
      constructor
      · rintro (⟨k, hk, e⟩ | e)
        · exact ⟨k, hk, (mem4 k hk x).2 (.inl e)⟩
        · exact ⟨_, hsl, (mem4 _ hsl x).2 (.inr ⟨e, rfl⟩)⟩
      · rintro ⟨k, hk, e⟩
        rcases (mem4 k hk x).1 e with e | ⟨e, _⟩
        · exact .inl ⟨k, hk, e⟩
        · exact .inr e
    · rw [bs.es]
      show EsOk tm' (w.es.push _).toList _
      rw [Array.toList_push]
      have := (H.es.tmc tobl).push (b := b0) (c := w.clk)
      rw [tb] at this; exact this
    · rw [List.pairwise_append]
      refine ⟨H.ids.imp_of_mem (fun {x y} hx hy h => by rw [tobl x hx, tobl y hy]; exact h), by simp, ?_⟩
      intro x hx y hy
      rw [List.mem_singleton] at hy
      subst hy
      rw [tobl x hx, tb]
      have := H.idl x hx
      show (tm x).id < w.last + 1
      omega
    · intro x hx
      rw [l4]
      rcases List.mem_append.1 hx with e | e
      · rw [tobl x e]; have := H.idl x e; omega
      · rw [List.mem_singleton] at e; subst e; rw [tb]; show 1 ≤ w.last + 1 ∧ w.last + 1 ≤ w.last + 1; omega
    · rw [List.length_append]; simp; omega
    · rw [l4]; show a.last + 1 = _; rw [e2]
    · show a.ts ++ _ = _
      rw [List.map_append, e3, List.map_congr_left tobl, e1, e2]
      simp [tb]
    · refine Ext.then x03 x4 ?_
      rintro x o ho (e | e)
      · exact e
      · subst e; rw [hfr] at ho; cases ho
    · intro x hx
      rcases fp4 x hx with e | e | e
      · exact .inl e
      · subst e; exact .inr hfr
      · by_cases hfx : FP W w x
        · exact .inl hfx
        · right
          cases hq : h x with
          | none => rfl
          | some o => have := x03 x o hq hfx; rw [e] at this; cases this

/-! ### a new wheel -/
def w0 (m : Nat) : WS := ⟨0, 0, m, #[], 0, fun _ => ⟨none, 0, 0⟩, fun _ => []⟩
theorem c8' {h : Hp} {K : Option Addr → Hp → Prop} (hK : ∀ W h' F', Whl h' W ⟨0, 0, []⟩ F' → Ext none' h h' → (∀ x, F' x → h x = none) → K (some (bk W)) h') : C8 h K := by
  apply S8; unfold N8
  intro m em
  have x1 : Ext none' h (upd h m (.map #[] 0)) := Ext.new em
  have hm1 : upd h m (.map #[] 0) m = some (.map #[] 0) := Hw.upd_same
  revert x1 hm1
  generalize upd h m _ = h1
  intro x1 hm1
  intro W eW
  have hcells : ∀ l : List Value, l = (fl 261 (fun k => if k < 2 then .int .i64 0 else if k < 259 then .slice none 0 0 else if k = 259 then .nilFunc else .map (some m))) →
      st (upd h1 W (.cells ⟨l⟩ 58)) ((bk W).add 259) (.func (.func 19) ⟨[.pointer (some (bk W))]⟩ ⟨[]⟩) fun h2 => K (some (bk W)) h2 := by
    rintro l rfl
    have hb : Blk (upd h1 W (.cells ⟨fl 261 (fun k => if k < 2 then .int .i64 0 else if k < 259 then .slice none 0 0 else if k = 259 then .nilFunc else .map (some m))⟩ 58)) W 58 (fl 261 (fun k => if k < 2 then .int .i64 0 else if k < 259 then .slice none 0 0 else if k = 259 then .nilFunc else .map (some m))) := Blk.upd_same
    have x2 : Ext none' h1 (upd h1 W (.cells ⟨fl 261 (fun k => if k < 2 then .int .i64 0 else if k < 259 then .slice none 0 0 else if k = 259 then .nilFunc else .map (some m))⟩ 58)) := Ext.new eW
    have nW : h W = none := by
      cases hq : h W with
      | none => rfl
      | some o => have := x1 _ o hq id; rw [eW] at this; cases this
    revert hb x2
    generalize upd h1 W _ = h2
    intro hb x2
    rw [add_bk]
    refine hb.st (by rw [fl_len]; omega) rfl ?_
    rw [fl_set]
    have e : fl 261 (fup (fun k => if k < 2 then .int .i64 0 else if k < 259 then .slice none 0 0 else if k = 259 then .nilFunc else .map (some m)) 259 (.func (.func 19) ⟨[.pointer (some (bk W))]⟩ ⟨[]⟩)) = wl W (w0 m) := by
      unfold wl
      apply fl_congr
      intro k hk
      unfold fup wf w0 Sl.v
      by_cases h0 : k = 0
      · simp [h0]
      · by_cases h1 : k = 1
        · simp [h1]
        · by_cases h2 : k < 259
          · have : ¬ k = 259 := by omega
            have : ¬ k < 2 := by omega
            simp [*]
          · have : ¬ k < 2 := by omega
            by_cases h3 : k = 259 <;> simp [*]
    rw [e]
    have nm : m ≠ W := by rintro rfl; rw [hm1] at eW; cases eW
    have x3 : Ext (fun x => x = W) h2 (upd h2 W (.cells ⟨wl W (w0 m)⟩ 58 (0, 0))) := Ext.upd rfl
    refine hK W _ (FP W (w0 m)) ⟨fun _ => ⟨0, 0, 0⟩, w0 m, [], ⟨⟨Blk.upd_same, ?_, ?_, ?_, ?_, ?_⟩, ?_, ⟨?_, ?_⟩, Int.le_refl _, by show (0 : Int) ≤ MaxT; decide, ?_, rfl, List.Pairwise.nil, ?_, by simp, Int.le_refl _⟩, rfl, rfl, rfl, rfl⟩ ?_ ?_
    · exact x3 _ _ (x2 _ _ hm1 id) nm
    · intro j hj; exact Own.nil
    · intro j j' b _ _ hx; cases hx
    · intro j hj p hp; cases hp
    · intro j j' p p' _ _ hp; cases hp
    · intro j h0 hj; cases hj
    · intro j hj b hb; cases hb
    · intro j hj b hb; cases hb
    · intro b; constructor
      · intro hx; cases hx
      · rintro ⟨j, hj, hx⟩; cases hx
    · intro b hb; cases hb
    · refine ((x1.then x2 (fun x o _ e => e)).then x3 ?_)
      rintro x o ho rfl; rw [nW] at ho; cases ho
    · rintro x (e | e | ⟨j, hj, e⟩ | ⟨j, hj, e⟩)
      · subst e; exact nW
      · subst e; exact em
      · cases e
      · cases e
  exact hcells _ (by rfl)

end Go.Proofs.Ytfnlldbaplakoaa

/-
  The wheel's Advance.
-/
set_option linter.unusedSimpArgs false
set_option linter.unusedVariables false
namespace Go.Proofs.Ytfnlldbaplakoaa
open Go Go.Hw

/-! ### rows of what is fired -/
def frc (t : Tm) : List Value := [.int .i64 t.tim, .int .i64 t.id, .int .i64 t.tag]
abbrev frs (l : List Tm) : List Value := l.flatMap frc
theorem frs_len : ∀ l : List Tm, (frs l).length = l.length * 3 := by
  intro l
  induction l with
  | nil => rfl
  | cons a l ih => simp [frs, frc] at ih ⊢; omega
theorem frs_get : ∀ {l : List Tm} {k : Nat} {t : Tm}, l[k]? = some t → (frs l)[k * 3]? = some (.int .i64 t.tim) ∧ (frs l)[k * 3 + 1]? = some (.int .i64 t.id) ∧ (frs l)[k * 3 + 2]? = some (.int .i64 t.tag) := by
  intro l
  induction l with
  | nil => intro k t h; simp at h
  | cons a l ih =>
    intro k t h
    cases k with
    | zero => simp at h; subst h; simp [frs, frc]
    | succ k =>
      have := ih (k := k) (t := t) (by simpa using h)
      have e : ∀ j, (frs (a :: l))[(k + 1) * 3 + j]? = (frs l)[k * 3 + j]? := by
        intro j
        show (frc a ++ frs l)[_]? = _
        rw [List.getElem?_append_right (by simp [frc]; omega)]
        congr 1; simp [frc]; omega
      have e0 := e 0
      simp only [Nat.add_zero] at e0
      rw [e0, e 1, e 2]; exact this
theorem p44a : Try.prog.cellsOf 44 = 3 := by kernel_rfl
theorem p44z : (zc Try.prog 44).length = 3 := by kernel_rfl
theorem p44b : Try.prog.bytesOf 44 = 24 := by kernel_rfl
/-- append of one that is fired -/
theorem app3 {s : Sl} {vs : List Value} {h : Hp} {F : Sl → Hp → Prop} {t : Tm} {b0 : Nat} (ho : Own h 44 3 s vs) (hb : Blk h b0 44 (frc t)) (hlen : s.n ≤ 1099511627776)
    (hF : ∀ s' h', Own h' 44 3 s' (vs ++ frc t) → s'.n = s.n + 1 → Ext (fun b => s.p = some (bk b)) h h' → (∀ b, s'.p = some (bk b) → s.p = some (bk b) ∨ h b = none) → F s' h') :
    apK Try.prog 44 s (.slice (some (bk b0)) 1 1) h F := by
  refine apK_own (n := 1) (ns := frc t) ho p44a p44z (fun _ => rfl) ?_ rfl (by simp [frc, plain]) (by rw [p44b]; omega) hF
  intro G hG
  have : rdN h (bk b0) 0 (1 * 3) = some (frc t) := by
    have := rdN_blk hb 3 0 (by simp [frc])
    simpa [frc] using this
  unfold srcK
  simp only [this]; exact hG

/-! ### time goes on -/
theorem c31' {W : Nat} {to : Int} {tm : Nat → Tm} {w : WS} {bl : List Nat} {h : Hp} {K : Hp → Prop} (H : Wh h W tm w bl) (hto : w.now ≤ to) (hto1 : to ≤ MaxT) (hall : ∀ b ∈ bl, to ≤ (tm b).tim)
    (hK : ∀ h' w', Wh h' W tm w' bl → w'.now = to → w'.last = w.last → Ext (FP W w) h h' → (∀ x, FP W w' x → FP W w x ∨ h x = none) → K h') : C31 (some (bk W)) to h K := by
  have n0 := H.n0
  have hl := H.len
  refine c31 (bl := bl) H.M H.heap H.pl n0 hto hto1 (fun j hj b hb => hall b ((H.all b).2 ⟨j, hj, hb⟩)) (fun j hj b hb => (H.all b).2 ⟨j, hj, hb⟩) (by omega) ?_
  intro h' w' M' mv pl' heap' ex fp
  refine hK h' w' ⟨M', heap', pl', by rw [mv.now]; omega, by rw [mv.now]; exact hto1, fun b => by rw [H.all b, mv.all b], by rw [mv.es]; exact H.es, H.ids, fun b hb => by rw [mv.last]; exact H.idl b hb, H.len, by rw [mv.last]; exact H.l0⟩ mv.now mv.last ex fp

def fire (to : Int) : Nat → List Tm → List Tm × List Tm
  | 0, ts => ([], ts)
  | n + 1, ts => match first ts with
    | some t => if t.tim ≤ to then (t :: (fire to n (ts.filter (fun x => x.id != t.id))).1, (fire to n (ts.filter (fun x => x.id != t.id))).2) else ([], ts)
    | none => ([], ts)
def advTs (a : St) (t : Int) : List Tm × List Tm := fire (clampT a.now t) a.ts.length a.ts
def advanced (a : St) (t : Int) : St := ⟨clampT a.now t, a.last, (advTs a t).2⟩

theorem fire_end {to : Int} {n : Nat} {ts : List Tm} (h : ∀ t, first ts = some t → ¬ t.tim ≤ to) : fire to n ts = ([], ts) := by
  cases n with
  | zero => rfl
  | succ n =>
    simp only [fire]
    split
    · rename_i t ht; rw [if_neg (h t ht)]
    · rfl

theorem first_none {l : List Tm} (h : first l = none) : l = [] := by
  cases l with
  | nil => rfl
  | cons a l => simp [first] at h
theorem first_mem {tm : Nat → Tm} {bl : List Nat} {b : Nat} (hid : bl.Pairwise (fun a b => (tm a).id < (tm b).id)) (h : first (bl.map tm) = some (tm b)) : ∀ x ∈ bl, (tm b).tim ≤ (tm x).tim := by
  have hp : (bl.map tm).Pairwise (fun a b => a.id < b.id) := by rw [List.pairwise_map]; exact hid
  cases bl with
  | nil => intro x hx; cases hx
  | cons c l =>
    simp only [List.map_cons, first] at hp h
    obtain ⟨a1, a2⟩ := foldl_pick hp
    intro x hx
    have := a2 (tm x) (by have := List.mem_map_of_mem (f := tm) hx; simpa using this)
    simp only [Option.some.injEq] at h
    rw [h] at this; omega

theorem c14' {W : Nat} {t : Int} {a : St} {F : Nat → Prop} {h : Hp} {K : Sl → Hp → Prop} (H : Whl h W a F)
    (hK : ∀ h' F' s, Whl h' W (advanced a t) F' → Own h' 44 3 s (frs (advTs a t).1) → (∀ x, s.p = some (bk x) → ¬ F' x ∧ (F x ∨ h x = none)) → Ext F h h' → (∀ x, F' x → F x ∨ h x = none) → K s h') : C14 (some (bk W)) t h K := by
  obtain ⟨tm, w, bl, H, e1, e2, e3, rfl⟩ := H
  apply S14; unfold N14
  refine c27 H.M.hW wl_0 H.n1 ?_
  have hcl := clamp_bd (t := t) H.n1
  have adv : advTs a t = fire (clampT w.now t) (bl.map tm).length (bl.map tm) := by unfold advTs; rw [e1, e3]
  have hK2 : ∀ h' w' s, (∃ bl', Wh h' W tm w' bl' ∧ w'.now = clampT w.now t ∧ w'.last = w.last ∧ bl'.map tm = (fire (clampT w.now t) (bl.map tm).length (bl.map tm)).2) →
      Own h' 44 3 s (frs (fire (clampT w.now t) (bl.map tm).length (bl.map tm)).1) → (∀ x, s.p = some (bk x) → ¬ FP W w' x ∧ (FP W w x ∨ h x = none)) → Ext (FP W w) h h' → (∀ x, FP W w' x → FP W w x ∨ h x = none) → K s h' := by
    rintro h' w' s ⟨bl', H', f1, f2, f3⟩ ho hf ex fp
    refine hK h' (FP W w') s ⟨tm, w', bl', H', ?_, ?_, ?_, rfl⟩ (by rw [adv]; exact ho) hf ex fp
    · show clampT a.now t = _; rw [f1, e1]
    · show a.last = _; rw [f2, e2]
    · show (advTs a t).2 = _; rw [adv, f3]
  clear hK
  clear adv e3 e2 e1 a
  generalize clampT w.now t = to at *
  have lenb := H.len
  -- the loop's state
  have loop : ∀ (s : Sl) (p : Option Addr) (hc : Hp),
      (∃ wc blc out, Wh hc W tm wc blc ∧ wc.now ≤ to ∧ wc.last = w.last ∧ Own hc 44 3 s (frs out) ∧ (∀ x, s.p = some (bk x) → ¬ FP W wc x ∧ (FP W w x ∨ h x = none)) ∧ Ext (FP W w) h hc ∧ (∀ x, FP W wc x → FP W w x ∨ h x = none) ∧
        blc.length ≤ bl.length ∧ s.n + blc.length ≤ 1024 ∧ (out ++ (fire to blc.length (blc.map tm)).1 = (fire to (bl.map tm).length (bl.map tm)).1 ∧ (fire to blc.length (blc.map tm)).2 = (fire to (bl.map tm).length (bl.map tm)).2) ∧
        (p = none ∧ blc = [] ∨ ∃ b, p = some (bk b) ∧ b ∈ blc ∧ first (blc.map tm) = some (tm b))) →
      N14_l0 (some (bk W)) to s p hc (fun s0 h2 => C31 (some (bk W)) to h2 fun h3 => K s0 h3) := by
    intro s p hc h0
    unfold N14_l0
    refine loopP_inv (fun (x : Sl × Option Addr) hc => ∃ wc blc out, Wh hc W tm wc blc ∧ wc.now ≤ to ∧ wc.last = w.last ∧ Own hc 44 3 x.1 (frs out) ∧ (∀ b, x.1.p = some (bk b) → ¬ FP W wc b ∧ (FP W w b ∨ h b = none)) ∧ Ext (FP W w) h hc ∧ (∀ x, FP W wc x → FP W w x ∨ h x = none) ∧
        blc.length ≤ bl.length ∧ x.1.n + blc.length ≤ 1024 ∧ (out ++ (fire to blc.length (blc.map tm)).1 = (fire to (bl.map tm).length (bl.map tm)).1 ∧ (fire to blc.length (blc.map tm)).2 = (fire to (bl.map tm).length (bl.map tm)).2) ∧
        (x.2 = none ∧ blc = [] ∨ ∃ b, x.2 = some (bk b) ∧ b ∈ blc ∧ first (blc.map tm) = some (tm b)))
      (fun x _ => 1024 - x.1.n) ?_ h0
    clear h0 s p hc
    rintro ⟨s, p⟩ hc ⟨wc, blc, out, Hc, hnow, hlast, hown, hfr, hex, hfp, hle, hn, ⟨hf1, hf2⟩, hp⟩
    simp only at hown hfr hn hp
    have stop : (∀ u, first (blc.map tm) = some u → ¬ u.tim ≤ to) → C31 (some (bk W)) to hc fun h3 => K s h3 := by
      intro hs
      have hend : fire to blc.length (blc.map tm) = ([], blc.map tm) := fire_end hs
      rw [hend] at hf1 hf2
      have hall : ∀ b ∈ blc, to ≤ (tm b).tim := by
        intro b hb
        rcases hp with ⟨_, e⟩ | ⟨c, _, hc', hfc⟩
        · rw [e] at hb; cases hb
        · have h1 := hs _ hfc
          have h2 := first_mem Hc.ids hfc b hb
          omega
      refine c31' Hc hnow hcl.2 hall ?_
      intro h3 w3 H3 n3 l3 x3 fp3
      have own3 : Own h3 44 3 s (frs out) := hown.ext x3 (fun b hb => (hfr b hb).1)
      rw [List.append_nil] at hf1
      refine hK2 h3 w3 s ⟨blc, H3, n3, l3.trans hlast, hf2⟩ (by rw [← hf1]; exact own3) ?_ ?_ ?_
      · intro x hx
        refine ⟨?_, (hfr x hx).2⟩
        intro hx3
        rcases fp3 x hx3 with e | e
        · exact (hfr x hx).1 e
        · have h4 := hown.2.2
          rw [hx] at h4
          obtain ⟨_, cs, hb, _⟩ := h4
          unfold Blk at hb
          have hb' : hc x = _ := hb
          rw [e] at hb'; cases hb'
      · intro x o ho hn'
        refine x3 x o (hex x o ho hn') ?_
        intro hx
        rcases hfp x hx with e | e
        · exact hn' e
        · rw [ho] at e; cases e
      · intro x hx
        rcases fp3 x hx with e | e
        · exact hfp x e
        · by_cases hfx : FP W w x
          · exact .inl hfx
          · right
            cases hq : h x with
            | none => rfl
            | some o => have := hex x o hq hfx; rw [e] at this; cases this
    unfold N14_l0_B N14_l0_b
    rcases hp with ⟨rfl, rfl⟩ | ⟨b, rfl, hb, hfb⟩
    · simp only [peq_none, Option.isNone_none, Bool.not_true, cond_false]
      refine stop ?_
      intro u hu; simp [first] at hu
    · obtain ⟨j, hj, hbj⟩ := (Hc.all b).1 hb
      obtain ⟨pl, hbb⟩ := Hc.M.tblk hj hbj
      have cb : cell hc (bk b) = some (.int .i64 (tm b).tim) := by rw [hbb.cell]; rfl
      simp only [peq_none, Option.isNone_some, Bool.not_false, cond_true, nn_some', cb, xI_some]
      by_cases hle2 : (tm b).tim ≤ to
      · have : decide ((tm b).tim ≤ to) = true := by simpa using hle2
        rw [this, cond_true]
        have htb := Hc.pl.tim j hj b hbj
        refine c31' Hc htb.1 htb.2 (first_mem Hc.ids hfb) ?_
        intro h1 w1 H1 n1 l1 x1 fp1
        refine c29' H1 hb ?_
        rintro h2 w2 H2 n2 l2 x2 fp2 ⟨lv, pl2, hb2⟩
        have cb2 : cell h2 (bk b) = some (.int .i64 (tm b).tim) := by rw [hb2.cell]; rfl
        simp only [add_bk, cb2, hb2.cell, tc, List.getElem?_cons_succ, List.getElem?_cons_zero, xI_some]
        intro b0 e0
        have x3 : Ext none' h2 (upd h2 b0 (.cells ⟨frc (tm b)⟩ 44)) := Ext.new e0
        have hb3 : Blk (upd h2 b0 (.cells ⟨frc (tm b)⟩ 44)) b0 44 (frc (tm b)) := Blk.upd_same
        change apK Try.prog 44 s (.slice (some (bk b0)) 1 1) (upd h2 b0 (.cells ⟨frc (tm b)⟩ 44)) _
        revert x3 hb3
        generalize upd h2 b0 _ = h3
        intro x3 hb3
        have rowc : ∀ x, s.p = some (bk x) → hc x ≠ none := by
          intro x hx
          have h4 := hown.2.2
          rw [hx] at h4
          obtain ⟨_, cs, hb', _⟩ := h4
          unfold Blk at hb'
          have hb'' : hc x = _ := hb'
          rw [hb'']; intro e; cases e
        have row1 : ∀ x, s.p = some (bk x) → ¬ FP W w1 x := by
          intro x hx hx1
          rcases fp1 x hx1 with e | e
          · exact (hfr x hx).1 e
          · exact rowc x hx e
        have row2 : ∀ x, s.p = some (bk x) → ¬ FP W w2 x := fun x hx hx2 => row1 x hx (fp2 x hx2)
        have own3 : Own h3 44 3 s (frs out) := ((hown.ext x1 (fun x hx => (hfr x hx).1)).ext x2 (fun x hx => row1 x hx)).ext x3 (fun _ _ => id)
        have W3 : Wh h3 W tm w2 (blc.erase b) := ⟨H2.M.ext0 x3, H2.heap, H2.pl, H2.n0, H2.n1, H2.all, H2.es, H2.ids, H2.idl, H2.len, H2.l0⟩
        refine app3 own3 hb3 (by omega) ?_
        intro s' h4 own4 hn4 x4 hrow4
        have W4 : Wh h4 W tm w2 (blc.erase b) := ⟨W3.M.ext x4 (fun x hx e => row2 x e hx), H2.heap, H2.pl, H2.n0, H2.n1, H2.all, H2.es, H2.ids, H2.idl, H2.len, H2.l0⟩
        have lene : (blc.erase b).length + 1 = blc.length := by
          have := List.length_erase_of_mem hb
          have := List.length_pos_of_mem hb
          omega
        have ex3 : ∀ x o, h x = some o → ¬ FP W w x → h3 x = some o := by
          intro x o ho hn'
          have q1 := hex x o ho hn'
          have nfc : ¬ FP W wc x := by
            intro hx
            rcases hfp x hx with e | e
            · exact hn' e
            · rw [ho] at e; cases e
          have q2 := x1 x o q1 nfc
          have nf1 : ¬ FP W w1 x := by
            intro hx
            rcases fp1 x hx with e | e
            · exact nfc e
            · rw [q1] at e; cases e
          exact x3 x o (x2 x o q2 nf1) id
        have ex4 : ∀ x o, h x = some o → ¬ FP W w x → h4 x = some o := by
          intro x o ho hn'
          refine x4 x o (ex3 x o ho hn') ?_
          intro hx
          rcases (hfr x hx).2 with e | e
          · exact hn' e
          · rw [ho] at e; cases e
        have hfp2 : ∀ x, FP W w2 x → FP W w x ∨ h x = none := by
          intro x hx
          rcases fp1 x (fp2 x hx) with e | e
          · exact hfp x e
          · by_cases hfx : FP W w x
            · exact .inl hfx
            · right
              cases hq : h x with
              | none => rfl
              | some o => have := hex x o hq hfx; rw [e] at this; cases this
        have hfr4 : ∀ x, s'.p = some (bk x) → ¬ FP W w2 x ∧ (FP W w x ∨ h x = none) := by
          intro x hx
          rcases hrow4 x hx with e | e
          · exact ⟨row2 x e, (hfr x e).2⟩
          · refine ⟨fun hx2 => W3.M.there hx2 e, ?_⟩
            by_cases hfx : FP W w x
            · exact .inl hfx
            · right
              cases hq : h x with
              | none => rfl
              | some o => have := ex3 x o hq hfx; rw [e] at this; cases this
        have fl4 : frs out ++ frc (tm b) = frs (out ++ [tm b]) := by simp [frs]
        rw [fl4] at own4
        have step1 : fire to blc.length (blc.map tm) = (tm b :: (fire to (blc.erase b).length ((blc.erase b).map tm)).1, (fire to (blc.erase b).length ((blc.erase b).map tm)).2) := by
          rw [← lene]
          simp only [fire, hfb]
          rw [if_pos hle2, erase_map Hc.ids hb]
        rw [step1] at hf1 hf2
        have hf1' : (out ++ [tm b]) ++ (fire to (blc.erase b).length ((blc.erase b).map tm)).1 = (fire to (bl.map tm).length (bl.map tm)).1 := by rw [← hf1]; simp
        refine c30' W4 ?_ ?_
        · intro h5 he x5
          refine ⟨⟨w2, blc.erase b, out ++ [tm b], ⟨W4.M.ext0 x5, H2.heap, H2.pl, H2.n0, H2.n1, H2.all, H2.es, H2.ids, H2.idl, H2.len, H2.l0⟩, by rw [n2, n1]; exact hle2, l2.trans (l1.trans hlast), own4.ext x5 (fun _ _ => id), hfr4, Ext.trans ex4 (x5.mono (fun _ _ _ => False.elim)), hfp2, by omega, by show s'.n + _ ≤ _; omega, ⟨hf1', hf2⟩, .inl ⟨rfl, he⟩⟩, by show 1024 - s'.n < 1024 - s.n; omega⟩
        · intro h5 c hc' hfc x5
          refine ⟨⟨w2, blc.erase b, out ++ [tm b], ⟨W4.M.ext0 x5, H2.heap, H2.pl, H2.n0, H2.n1, H2.all, H2.es, H2.ids, H2.idl, H2.len, H2.l0⟩, by rw [n2, n1]; exact hle2, l2.trans (l1.trans hlast), own4.ext x5 (fun _ _ => id), hfr4, Ext.trans ex4 (x5.mono (fun _ _ _ => False.elim)), hfp2, by omega, by show s'.n + _ ≤ _; omega, ⟨hf1', hf2⟩, .inr ⟨c, rfl, hc', hfc⟩⟩, by show 1024 - s'.n < 1024 - s.n; omega⟩
      · have : decide ((tm b).tim ≤ to) = false := by simpa using hle2
        rw [this, cond_false]
        refine stop ?_
        intro u hu
        rw [hfb] at hu
        simp only [Option.some.injEq] at hu
        subst hu; exact hle2
  refine c30' H ?_ ?_
  · intro h1 he x1
    refine loop _ _ _ ⟨w, bl, [], ⟨H.M.ext0 x1, H.heap, H.pl, H.n0, H.n1, H.all, H.es, H.ids, H.idl, H.len, H.l0⟩, hcl.1, rfl, Own.nil, (by intro x hx; cases hx), x1.mono (fun _ _ _ => False.elim), fun x hx => .inl hx, Nat.le_refl _, by show 0 + _ ≤ _; omega, by simp, .inl ⟨rfl, he⟩⟩
  · intro h1 b hb hfb x1
    refine loop _ _ _ ⟨w, bl, [], ⟨H.M.ext0 x1, H.heap, H.pl, H.n0, H.n1, H.all, H.es, H.ids, H.idl, H.len, H.l0⟩, hcl.1, rfl, Own.nil, (by intro x hx; cases hx), x1.mono (fun _ _ _ => False.elim), fun x hx => .inl hx, Nat.le_refl _, by show 0 + _ ≤ _; omega, by simp, .inr ⟨b, rfl, hb, hfb⟩⟩

end Go.Proofs.Ytfnlldbaplakoaa
