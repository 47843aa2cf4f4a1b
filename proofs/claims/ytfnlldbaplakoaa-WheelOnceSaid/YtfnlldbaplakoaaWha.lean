/-
  The wheel's small functions: comparisons, digits, levels.
-/
import Derived.Test.YtfnlldbaplakoaaGen
import Derived.Test.YtfnlldbaplakoaaFwb
set_option linter.unusedSimpArgs false
set_option linter.unusedVariables false
namespace Go.Proofs.Ytfnlldbaplakoaa
open Go Go.Hw

def cmpI (x y : Int) : Int := if x < y then -1 else if y < x then 1 else 0
/-- the order of two timers: by time, then by number -/
def ordI (a i b j : Int) : Int := if cmpI a b = 0 then cmpI i j else cmpI a b

theorem c46 {x : Int} {h : Hp} {K : Bool → Hp → Prop} (hk : K false h) : C46 x h K := by
  apply S46; unfold N46; simpa using hk
theorem c42 {x y : Int} {h : Hp} {K : Int → Hp → Prop} (hk : K (cmpI x y) h) : C42 x y h K := by
  apply S42; unfold N42
  refine c46 ?_
  refine c46 ?_
  unfold cmpI at hk
  simp only [cond_false]
  by_cases h1 : x < y
  · simp only [h1, decide_true, cond_true, if_true] at hk ⊢; exact hk
  · by_cases h2 : y < x
    · simp only [h1, h2, gt_iff_lt, decide_true, decide_false, cond_true, cond_false, if_true, if_false] at hk ⊢; exact hk
    · simp only [h1, h2, gt_iff_lt, decide_false, cond_false, if_false] at hk ⊢; exact hk

theorem c41 {b : Nat} {x y : Int} {h : Hp} {K : Int → Hp → Prop} (hb : Blk h b 3 [.int .i64 x, .int .i64 y]) (hk : K (if x = 0 then y else x) h) :
    C41 ⟨some (bk b), 2, 2⟩ h K := by
  apply S41; unfold N41 N41_l0
  refine loopP_step ?_
  unfold N41_l0_B N41_l0_b
  simp only [show decide ((0 : Int) < ((2 : Nat) : Int)) = true from rfl, cond_true]
  refine idx_of (by omega) (by omega) ?_
  simp only [nn_some', add_bk, hb.cell, xI_some, List.getElem?_cons_zero, show (0 : Int).toNat * 1 = 0 from rfl]
  by_cases h1 : x = 0
  · subst h1
    simp only [bne_self_eq_false, cond_false, if_true] at hk ⊢
    refine loopP_step ?_
    have w1 : IntKind.wrap .i64 (0 + 1) = 1 := rfl
    simp only [w1]
    simp only [show decide ((1 : Int) < ((2 : Nat) : Int)) = true from rfl, cond_true]
    refine idx_of (by omega) (by omega) ?_
    simp only [nn_some', add_bk, hb.cell, xI_some, List.getElem?_cons_succ, List.getElem?_cons_zero, show (1 : Int).toNat * 1 = 1 from rfl]
    by_cases h2 : y = 0
    · subst h2
      simp only [bne_self_eq_false, cond_false]
      refine loopP_step ?_
      have w2 : IntKind.wrap .i64 (1 + 1) = 2 := rfl
      simp only [w2]
      simp only [show decide ((2 : Int) < ((2 : Nat) : Int)) = false from rfl, cond_false]
      exact hk
    · have : (y != 0) = true := by simpa using h2
      simp only [this, cond_true]; exact hk
  · have : (x != 0) = true := by simpa using h1
    simp only [this, cond_true]
    rw [if_neg h1] at hk; exact hk

theorem c32 {a i t b j u : Int} {h : Hp} {K : Int → Hp → Prop} (hk : ∀ h', Ext none' h h' → K (ordI a i b j) h') : C32 a i t b j u h K := by
  apply S32; unfold N32
  intro b0 e0 b1 e1
  have n01 : b0 ≠ b1 := by rintro rfl; rw [upd_same] at e1; cases e1
  have hb1 : Blk (upd (upd h b0 (.cells ⟨[.int .i64 a, .int .i64 i, .int .i64 t]⟩ 44 (0, 0))) b1 (.cells ⟨[.int .i64 b, .int .i64 j, .int .i64 u]⟩ 44 (0, 0))) b1 44 [.int .i64 b, .int .i64 j, .int .i64 u] := Blk.upd_same
  have hb0 : Blk (upd (upd h b0 (.cells ⟨[.int .i64 a, .int .i64 i, .int .i64 t]⟩ 44 (0, 0))) b1 (.cells ⟨[.int .i64 b, .int .i64 j, .int .i64 u]⟩ 44 (0, 0))) b0 44 [.int .i64 a, .int .i64 i, .int .i64 t] := Blk.upd_same.upd_ne n01
  have ex : Ext none' h (upd (upd h b0 (.cells ⟨[.int .i64 a, .int .i64 i, .int .i64 t]⟩ 44 (0, 0))) b1 (.cells ⟨[.int .i64 b, .int .i64 j, .int .i64 u]⟩ 44 (0, 0))) := (Ext.new e0).trans (Ext.new e1)
  revert hb1 hb0 ex
  generalize upd (upd h b0 _) b1 _ = h1
  intro hb1 hb0 ex
  simp only [add_bk, hb0.cell, hb1.cell, xI_some, List.getElem?_cons_zero, List.getElem?_cons_succ]
  refine c42 ?_
  simp only [hb0.cell, hb1.cell, xI_some, List.getElem?_cons_zero, List.getElem?_cons_succ, both_only, only_self, true_and]
  refine c42 ?_
  intro b2 e2
  refine c41 Blk.upd_same ?_
  exact hk _ (ex.trans (Ext.new e2))


/-! ### digits and levels -/
def dg (t k : Int) : Int := (t / 64 ^ k.toNat) % 64
theorem and63 (x : Int) (h0 : 0 ≤ x) (h1 : x ≤ 9223372036854775807) : ((BitVec.ofInt 64 x &&& BitVec.ofInt 64 63).toNat : Int) = x % 64 := by
  obtain ⟨n, rfl⟩ := Int.eq_ofNat_of_zero_le h0
  have h2 : n < 2 ^ 64 := by omega
  have e1 : BitVec.ofInt 64 (n : Int) = BitVec.ofNat 64 n := by simp
  have e2 : BitVec.ofInt 64 63 = BitVec.ofNat 64 63 := rfl
  rw [e1, e2]
  simp only [BitVec.toNat_and, BitVec.toNat_ofNat]
  rw [Nat.mod_eq_of_lt h2, show 63 % 2 ^ 64 = 2 ^ 6 - 1 from rfl, Nat.and_two_pow_sub_one_eq_mod]
  omega

theorem c37 {t k : Int} {h : Hp} {K : Int → Hp → Prop} (hk0 : 0 ≤ k) (hk3 : k ≤ 3) (h0 : 0 ≤ t) (h1 : t ≤ 9223372036854775807) (hk : K (dg t k) h) : C37 t k h K := by
  apply S37; unfold N37
  have e0 : IntKind.wrap .i64 (6 * k) = 6 * k := wrap64 (by omega) (by omega)
  rw [e0]
  have e1 : decide (6 * k < 0) = false := by simp; omega
  rw [e1, cond_false]
  have e2 : min (6 * k).toNat 64 = 6 * k.toNat := by omega
  have hp : (2 : Int) ^ (6 * k.toNat) = 64 ^ k.toNat := by rw [Int.pow_mul]; rfl
  have hpos : (0 : Int) < 64 ^ k.toNat := Int.pow_pos (by omega)
  have hd0 : 0 ≤ t / 64 ^ k.toNat := Int.ediv_nonneg h0 (by omega)
  have hd1 : t / 64 ^ k.toNat ≤ t := Int.ediv_le_self _ h0
  rw [e2, hp, Int.fdiv_eq_ediv_of_nonneg _ (by omega), and63 _ hd0 (by omega)]
  rw [wrap64 (by omega) (by omega)]
  exact hk

/-- the level of a time; -1: beyond the levels -/
def lev (now t : Int) : Int :=
  if t / 16777216 ≠ now / 16777216 then -1 else if dg t 3 ≠ dg now 3 then 3 else if dg t 2 ≠ dg now 2 then 2 else if dg t 1 ≠ dg now 1 then 1 else 0

theorem c35 {W : Nat} {l : List Value} {now t : Int} {h : Hp} {K : Int → Hp → Prop} (hW : Blk h W 58 l) (hl : l[0]? = some (.int .i64 now)) (hn0 : 0 ≤ now) (hn1 : now ≤ 1125899906842624)
    (h0 : 0 ≤ t) (h1 : t ≤ 1125899906842624) (hk : K (lev now t) h) : C35 (some (bk W)) t h K := by
  have hc : cell h (bk W) = some (.int .i64 now) := by rw [hW.cell, hl]
  apply S35; unfold N35
  simp only [nn_some', hc, xI_some]
  have f1 : Int.fdiv t (2 ^ 24) = t / 16777216 := by rw [Int.fdiv_eq_ediv_of_nonneg _ (by omega)]; rfl
  have f2 : Int.fdiv now (2 ^ 24) = now / 16777216 := by rw [Int.fdiv_eq_ediv_of_nonneg _ (by omega)]; rfl
  rw [f1, f2]
  unfold lev at hk
  by_cases e : t / 16777216 = now / 16777216
  · rw [e] at hk ⊢
    simp only [bne_self_eq_false, cond_false, ne_eq, not_true_eq_false, if_false] at hk ⊢
    have round : ∀ (k : Int) (Ke : Hp → Prop) (Kr : Int → Hp → Prop), 1 ≤ k → k ≤ 3 →
        (if dg t k ≠ dg now k then Kr k h else N35_l0 (some (bk W)) t (k - 1) h Ke Kr) → N35_l0 (some (bk W)) t k h Ke Kr := by
      intro k Ke Kr hk1 hk3 hh
      unfold N35_l0 at hh ⊢
      refine loopP_step ?_
      unfold N35_l0_B N35_l0_b
      have : decide (k > 0) = true := by simp; omega
      simp only [this, cond_true, nn_some', hc, xI_some]
      refine c37 (by omega) hk3 h0 (by omega) ?_
      simp only [hc, xI_some, both_only, only_self, true_and]
      refine c37 (by omega) hk3 hn0 (by omega) ?_
      by_cases hd : dg t k = dg now k
      · rw [hd] at hh ⊢
        simp only [bne_self_eq_false, cond_false, ne_eq, not_true_eq_false, if_false] at hh ⊢
        rw [wrap64 (by omega) (by omega)]
        exact hh
      · have : (dg t k != dg now k) = true := by simpa using hd
        simp only [this, cond_true]
        rw [if_pos hd] at hh; exact hh
    have last : ∀ (Ke : Hp → Prop) (Kr : Int → Hp → Prop), Ke h → N35_l0 (some (bk W)) t 0 h Ke Kr := by
      intro Ke Kr hh
      unfold N35_l0
      refine loopP_step ?_
      unfold N35_l0_B N35_l0_b
      exact hh
    refine round 3 _ _ (by omega) (by omega) ?_
    by_cases h3 : dg t 3 = dg now 3
    · rw [h3] at hk ⊢
      simp only [ne_eq, not_true_eq_false, if_false] at hk ⊢
      refine round 2 _ _ (by omega) (by omega) ?_
      by_cases h2 : dg t 2 = dg now 2
      · rw [h2] at hk ⊢
        simp only [ne_eq, not_true_eq_false, if_false] at hk ⊢
        refine round 1 _ _ (by omega) (by omega) ?_
        by_cases h1 : dg t 1 = dg now 1
        · rw [h1] at hk ⊢
          simp only [ne_eq, not_true_eq_false, if_false] at hk ⊢
          exact last _ _ hk
        · rw [if_pos h1] at hk ⊢; exact hk
      · rw [if_pos h2] at hk ⊢; exact hk
    · rw [if_pos h3] at hk ⊢; exact hk
  · have : (t / 16777216 != now / 16777216) = true := by simpa using e
    simp only [this, cond_true]
    rw [if_pos e] at hk; exact hk

def MaxT : Int := 1125899906842624
/-- what a time counts as -/
def clampT (now t : Int) : Int := if t < now then now else if MaxT < t then MaxT else t
theorem c27 {W : Nat} {l : List Value} {now t : Int} {h : Hp} {K : Int → Hp → Prop} (hW : Blk h W 58 l) (hl : l[0]? = some (.int .i64 now)) (hn1 : now ≤ MaxT)
    (hk : K (clampT now t) h) : C27 (some (bk W)) t h K := by
  apply S27; unfold N27
  have hc : cell h (bk W) = some (.int .i64 now) := by rw [hW.cell, hl]
  simp only [nn_some', hc, xI_some]
  have : mn (mx t now) 1125899906842624 = clampT now t := by
    unfold mn mx clampT MaxT at *
    repeat' split
    all_goals omega
  rw [this]; exact hk

theorem c19 {W : Option Addr} {b c : Nat} {p q : List Value} {a i t a' i' t' : Int} {h : Hp} {K : Bool → Hp → Prop} (hb : Blk h b 65 ([.int .i64 a, .int .i64 i, .int .i64 t] ++ p)) (hc : Blk h c 65 ([.int .i64 a', .int .i64 i', .int .i64 t'] ++ q))
    (hk : ∀ h', Ext none' h h' → K (decide (ordI a i a' i' < 0)) h') : C19 W (some (bk b)) (some (bk c)) h K := by
  apply S19; unfold N19
  simp only [nn_some', add_bk, hb.cell, hc.cell, List.cons_append, List.getElem?_cons_zero, List.getElem?_cons_succ, xI_some]
  exact c32 fun h' he => hk h' he
theorem c40 {b c : Nat} {p q : List Value} {a i t a' i' t' : Int} {h : Hp} {K : Int → Hp → Prop} (hb : Blk h b 65 ([.int .i64 a, .int .i64 i, .int .i64 t] ++ p)) (hc : Blk h c 65 ([.int .i64 a', .int .i64 i', .int .i64 t'] ++ q))
    (hk : ∀ h', Ext none' h h' → K (ordI a i a' i') h') : C40 (some (bk b)) (some (bk c)) h K := by
  apply S40; unfold N40
  simp only [nn_some', add_bk, hb.cell, hc.cell, List.cons_append, List.getElem?_cons_zero, List.getElem?_cons_succ, xI_some]
  exact c32 fun h' he => hk h' he

end Go.Proofs.Ytfnlldbaplakoaa

/-
  Heaps asy lists: a hole that moves up or down. No program here.
-/
namespace Go.Hw.Pq

section
variable {lt : Nat → Nat → Bool}

/-- what a hole at i leaves, when t comes there: all else is a heap -/
structure Hole (lt : Nat → Nat → Bool) (L : List Nat) (i t : Nat) : Prop where
  rest : ∀ j, 0 < j → j < L.length → j ≠ i → (j - 1) / 2 ≠ i → lt (L.getD j 0) (L.getD ((j - 1) / 2) 0) = false
  over : ∀ j, 0 < j → j < L.length → (j - 1) / 2 = i → 0 < i → lt (L.getD j 0) (L.getD ((i - 1) / 2) 0) = false
/-- the hole's children do not come ahead of t -/
def Kids (lt : Nat → Nat → Bool) (L : List Nat) (i t : Nat) : Prop := ∀ j, 0 < j → j < L.length → (j - 1) / 2 = i → lt (L.getD j 0) t = false
def Heap (lt : Nat → Nat → Bool) (L : List Nat) : Prop := ∀ j, 0 < j → j < L.length → lt (L.getD j 0) (L.getD ((j - 1) / 2) 0) = false

theorem getD_set {L : List Nat} {i j v d : Nat} : (L.set i v).getD j d = if i = j ∧ j < L.length then v else L.getD j d := by
  rw [List.getD_eq_getElem?_getD, List.getElem?_set, List.getD_eq_getElem?_getD]
  by_cases h : i = j
  · subst h
    by_cases h2 : i < L.length
    · simp [h2]
    · simp [h2]
  · simp [h]

theorem Hole.done {L : List Nat} {i t : Nat} (h : Hole lt L i t) (hk : Kids lt L i t) (hi : i < L.length) (he : i = 0 ∨ lt t (L.getD ((i - 1) / 2) 0) = false) : Heap lt (L.set i t) := by
  intro j h0 hj
  simp only [List.length_set] at hj
  simp only [getD_set]
  by_cases e1 : i = j
  · subst e1
    have e2 : ¬ i = (i - 1) / 2 := by omega
    simp only [hj, e2, and_self, if_true, false_and, if_false]
    rcases he with he | he
    · omega
    · exact he
  · by_cases e2 : (j - 1) / 2 = i
    · have e3 : i = (j - 1) / 2 ∧ (j - 1) / 2 < L.length := by omega
      have e4 : ¬ (i = j ∧ j < L.length) := by omega
      rw [if_neg e4, if_pos e3]; exact hk j h0 hj e2
    · have e3 : ¬ (i = (j - 1) / 2 ∧ (j - 1) / 2 < L.length) := by omega
      have e4 : ¬ (i = j ∧ j < L.length) := by omega
      rw [if_neg e4, if_neg e3]; exact h.rest j h0 hj (fun e => e1 e.symm) e2

theorem Hole.up {L : List Nat} {i t : Nat} (tr : ∀ a b c, lt a b = true → lt b c = true → lt a c = true) (asy : ∀ a b, lt a b = true → lt b a = false)
    (tot : ∀ a b c, lt b a = false → lt c b = false → lt c a = false)
    (h : Hole lt L i t) (hk : Kids lt L i t) (hi : i < L.length) (h0 : 0 < i) (hlt : lt t (L.getD ((i - 1) / 2) 0) = true) :
    Hole lt (L.set i (L.getD ((i - 1) / 2) 0)) ((i - 1) / 2) t ∧ Kids lt (L.set i (L.getD ((i - 1) / 2) 0)) ((i - 1) / 2) t := by
  have hp : (i - 1) / 2 < i := by omega
  refine ⟨⟨?_, ?_⟩, ?_⟩
  · intro j j0 hj hne hpe
    simp only [List.length_set] at hj
    simp only [getD_set]
    have e1 : ¬ i = j := by rintro rfl; exact hpe rfl
    rw [if_neg (by omega : ¬ (i = j ∧ j < L.length))]
    by_cases e2 : i = (j - 1) / 2
    · rw [if_pos (by omega : i = (j - 1) / 2 ∧ (j - 1) / 2 < L.length)]
      exact h.over j j0 hj e2.symm h0
    · rw [if_neg (by omega : ¬ (i = (j - 1) / 2 ∧ (j - 1) / 2 < L.length))]
      exact h.rest j j0 hj (fun e => e1 e.symm) (fun e => e2 e.symm)
  · intro j j0 hj hpe hpp
    simp only [List.length_set] at hj
    simp only [getD_set]
    have hgp : lt (L.getD ((i - 1) / 2) 0) (L.getD (((i - 1) / 2 - 1) / 2) 0) = false := by
      by_cases e : ((i - 1) / 2 - 1) / 2 = i
      · omega
      · exact h.rest _ hpp (by omega) (by omega) e
    rw [if_neg (by omega : ¬ (i = ((i - 1) / 2 - 1) / 2 ∧ ((i - 1) / 2 - 1) / 2 < L.length))]
    by_cases e1 : i = j
    · rw [if_pos ⟨e1, hj⟩]; exact hgp
    · rw [if_neg (by omega : ¬ (i = j ∧ j < L.length))]
      have := h.rest j j0 hj (fun e => e1 e.symm) (by omega)
      rw [hpe] at this
      exact tot _ _ _ hgp this
  · intro j j0 hj hpe
    simp only [List.length_set] at hj
    simp only [getD_set]
    by_cases e1 : i = j
    · rw [if_pos ⟨e1, hj⟩]; exact asy _ _ hlt
    · rw [if_neg (by omega : ¬ (i = j ∧ j < L.length))]
      have := h.rest j j0 hj (fun e => e1 e.symm) (by omega)
      rw [hpe] at this
      exact tot _ _ _ (asy _ _ hlt) this

/-- a hole that goes down to its least child c -/
theorem Hole.down {L : List Nat} {i t c : Nat} (asy : ∀ a b, lt a b = true → lt b a = false) (tot : ∀ a b c, lt b a = false → lt c b = false → lt c a = false)
    (h : Hole lt L i t) (hc0 : 0 < c) (hc : c < L.length) (hpc : (c - 1) / 2 = i) (hleast : ∀ j, 0 < j → j < L.length → (j - 1) / 2 = i → lt (L.getD j 0) (L.getD c 0) = false) :
    Hole lt (L.set i (L.getD c 0)) c t := by
  have hi : i < c := by omega
  refine ⟨?_, ?_⟩
  · intro j j0 hj hne hpe
    simp only [List.length_set] at hj
    simp only [getD_set]
    by_cases e1 : i = j
    · subst e1
      rw [if_pos ⟨rfl, hj⟩, if_neg (by omega)]
      exact h.over c hc0 hc hpc j0
    · rw [if_neg (by omega : ¬ (i = j ∧ j < L.length))]
      by_cases e2 : (j - 1) / 2 = i
      · rw [if_pos ⟨e2.symm, by omega⟩]; exact hleast j j0 hj e2
      · rw [if_neg (by omega)]; exact h.rest j j0 hj (fun e => e1 e.symm) e2
  · intro j j0 hj hpe hpp
    simp only [List.length_set] at hj
    simp only [getD_set]
    rw [hpc]
    rw [if_neg (by omega : ¬ (i = j ∧ j < L.length)), if_pos ⟨rfl, by omega⟩]
    have := h.rest j j0 hj (by omega) (by omega)
    rw [hpe] at this; exact this

theorem set_perm {L : List Nat} {i c t : Nat} (hi : i < L.length) (hc : c < L.length) (hne : i ≠ c) : ((L.set i (L.getD c 0)).set c t).Perm (L.set i t) := by
  rw [List.perm_iff_count]
  intro x
  have hcl : c < (L.set i (L.getD c 0)).length := by simpa using hc
  rw [List.count_set hcl, List.count_set hi, List.count_set hi]
  have e1 : (L.set i (L.getD c 0))[c] = L[c] := by rw [List.getElem_set]; simp [hne]
  have e2 : L.getD c 0 = L[c] := by rw [List.getD_eq_getElem?_getD, List.getElem?_eq_getElem hc]; rfl
  rw [e1, e2]
  have p1 : (if L[i] == x then 1 else 0) ≤ L.count x := by
    split
    · rename_i h; have : L[i] = x := by simpa using h
      exact List.count_pos_iff.2 (this ▸ List.getElem_mem hi)
    · omega
  have p2 : (if L[c] == x then 1 else 0) ≤ L.count x := by
    split
    · rename_i h; have : L[c] = x := by simpa using h
      exact List.count_pos_iff.2 (this ▸ List.getElem_mem hc)
    · omega
  omega
end
end Go.Hw.Pq

/-
  The wheel's heap in memory: put, up, down, add, drop.
-/
set_option linter.unusedSimpArgs false
set_option linter.unusedVariables false
namespace Go.Proofs.Ytfnlldbaplakoaa
open Go Go.Hw

abbrev ptr (b : Nat) : Value := .pointer (some (bk b))
structure Tm where
  tim : Int
  id : Int
  tag : Int
def tc (t : Tm) (lv pl : Int) : List Value := [.int .i64 t.tim, .int .i64 t.id, .int .i64 t.tag, .int .i64 lv, .int .i64 pl]
abbrev fa (W : Nat) : Value := .func (.func 19) ⟨[ptr W]⟩ ⟨[]⟩

theorem c44 {W u i : Nat} {wl : List Value} {s : Sl} {L : List Nat} {t : Tm} {lv pl : Int} {h : Hp} {K : Hp → Prop} (hW : Blk h W 58 wl) (h258 : wl[258]? = some s.v)
    (ho : Own h 62 1 s (L.map ptr)) (hi : i < L.length) (hu : Blk h u 65 (tc t lv pl))
    (hK : ∀ h', Own h' 62 1 s ((L.set i u).map ptr) → Blk h' u 65 (tc t lv i) → Ext (fun b => s.p = some (bk b) ∨ b = u) h h' → K h') :
    C44 (some ⟨W, 258, none⟩) i (some (bk u)) h K := by
  apply S44; unfold N44
  have hn : s.n = L.length := by have := ho.1; simpa using this.symm
  simp only [nn_some', hW.cell, h258, xL_v]
  refine idx_of (by omega) (by omega) ?_
  obtain ⟨r, hp, ⟨cs, hr⟩, hst⟩ := ho.st (k := i) (by simpa using hi)
  rw [hp]
  simp only [nn_some', add_bk, Int.toNat_natCast, Nat.mul_one]
  refine hst _ _ rfl ?_
  intro h1 ho1 he1
  have hne : u ≠ r := hu.ne hr (by decide)
  have hu1 : Blk h1 u 65 (tc t lv pl) := he1.blk hu hne
  refine hu1.st (by simp [tc]) rfl ?_
  refine hK _ ?_ ?_ ?_
  · rw [List.map_set]
    exact ho1.ext (S := fun b => b = u) (Ext.upd rfl) (by intro b hb; rw [hp] at hb; intro e; subst e; simp only [Option.some.injEq] at hb; exact hne (congrArg Addr.block hb).symm)
  · exact Blk.upd_same
  · exact (he1.mono (fun b o _ hb => .inl (by rw [hb]; exact hp))).trans (Ext.upd (.inr rfl))

theorem hv19 {w x y : Option Addr} {h : Hp} {F : Value → Hp → Prop} (hc : C19 w x y h fun b h' => F (.bool b) h') :
    HCallV Try.prog E (.func (.func 19) ⟨[.pointer w]⟩ ⟨[]⟩) [.pointer x, .pointer y] h F := by
  refine HCalls.mono (K := fun v h' => VT.on (.c (.bool)) (some v) fun r => F (.bool r) h') hc ?_
  intro v h' hv
  obtain ⟨b, e, hF⟩ := VT.on_some hv
  cases e; exact hF

/-- which of two timers comes first -/
def ltT (tm : Nat → Tm) (a b : Nat) : Bool := decide (ordI (tm a).tim (tm a).id (tm b).tim (tm b).id < 0)

theorem ordI_lt {a i b j : Int} : ordI a i b j < 0 ↔ a < b ∨ a = b ∧ i < j := by
  unfold ordI cmpI
  by_cases h1 : a < b
  · simp [h1]
  · by_cases h2 : b < a
    · simp [h1, h2]; omega
    · have : a = b := by omega
      subst this
      simp
      by_cases h3 : i < j
      · simp [h3]
      · by_cases h4 : j < i
        · simp [h3, h4]
        · simp [h3, h4]
theorem ltT_iff {tm : Nat → Tm} {a b : Nat} : ltT tm a b = true ↔ (tm a).tim < (tm b).tim ∨ (tm a).tim = (tm b).tim ∧ (tm a).id < (tm b).id := by
  unfold ltT; rw [decide_eq_true_iff]; exact ordI_lt
theorem ltT_false {tm : Nat → Tm} {a b : Nat} : ltT tm a b = false ↔ (tm b).tim < (tm a).tim ∨ (tm b).tim = (tm a).tim ∧ (tm b).id ≤ (tm a).id := by
  rw [← Bool.not_eq_true, ltT_iff]; omega
theorem lt_trans' {tm : Nat → Tm} (a b c : Nat) (h1 : ltT tm a b = true) (h2 : ltT tm b c = true) : ltT tm a c = true := by rw [ltT_iff] at *; omega
theorem lt_as {tm : Nat → Tm} (a b : Nat) (h1 : ltT tm a b = true) : ltT tm b a = false := by rw [ltT_iff] at h1; rw [ltT_false]; omega
theorem lt_tot {tm : Nat → Tm} (a b c : Nat) (h1 : ltT tm b a = false) (h2 : ltT tm c b = false) : ltT tm c a = false := by rw [ltT_false] at *; omega

/-- the heap in memory with a hole at i, to which t is to come -/
structure Hol (h : Hp) (W : Nat) (wl : List Value) (s : Sl) (tm : Nat → Tm) (L : List Nat) (i t : Nat) : Prop where
  hW : Blk h W 58 wl
  h258 : wl[258]? = some s.v
  h259 : wl[259]? = some (fa W)
  own : Own h 62 1 s (L.map ptr)
  hi : i < L.length
  tms : ∀ j, j < L.length → j ≠ i → Blk h (L.getD j 0) 65 (tc (tm (L.getD j 0)) (-1) j)
  nt : ∀ j, j < L.length → j ≠ i → L.getD j 0 ≠ t
  nd : ∀ j k, j < L.length → k < L.length → j ≠ i → k ≠ i → j ≠ k → L.getD j 0 ≠ L.getD k 0
  ht : ∃ pl, Blk h t 65 (tc (tm t) (-1) pl)
/-- the heap in memory -/
structure Hea (h : Hp) (W : Nat) (wl : List Value) (s : Sl) (tm : Nat → Tm) (L : List Nat) : Prop where
  hW : Blk h W 58 wl
  h258 : wl[258]? = some s.v
  h259 : wl[259]? = some (fa W)
  own : Own h 62 1 s (L.map ptr)
  tms : ∀ j, j < L.length → Blk h (L.getD j 0) 65 (tc (tm (L.getD j 0)) (-1) j)
  nd : ∀ j k, j < L.length → k < L.length → j ≠ k → L.getD j 0 ≠ L.getD k 0

theorem Hol.len {h : Hp} {W : Nat} {wl : List Value} {s : Sl} {tm : Nat → Tm} {L : List Nat} {i t : Nat} (H : Hol h W wl s tm L i t) : s.n = L.length := by
  have := H.own.1; simpa using this.symm
theorem Own.ptr {h : Hp} {s : Sl} {L : List Nat} (ho : Own h 62 1 s (L.map ptr)) {k : Nat} (hk : k < L.length) : ∃ r, s.p = some (bk r) ∧ cell h ⟨r, k, none⟩ = some (ptr (L.getD k 0)) := by
  refine ho.get (k := k) (v := Go.Proofs.Ytfnlldbaplakoaa.ptr (L.getD k 0)) ?_
  rw [List.getElem?_map, List.getD_eq_getElem?_getD, List.getElem?_eq_getElem hk]; rfl

/-- all that was not of the heap's is as it was -/
theorem Hol.ext {h h' : Hp} {W : Nat} {wl : List Value} {s : Sl} {tm : Nat → Tm} {L : List Nat} {i t : Nat} (H : Hol h W wl s tm L i t) (he : Ext none' h h') : Hol h' W wl s tm L i t :=
  ⟨he.blk H.hW id, H.h258, H.h259, H.own.ext he (fun _ _ => id), H.hi, fun j hj hn => he.blk (H.tms j hj hn) id, H.nt, H.nd, let ⟨pl, hp⟩ := H.ht; ⟨pl, he.blk hp id⟩⟩


theorem wpar {j : Nat} (h0 : 0 < j) (h1 : j ≤ 1099511627776) : IntKind.wrap .i64 (Int.tdiv (IntKind.wrap .i64 ((j : Int) - 1)) 2) = (((j - 1) / 2 : Nat) : Int) := by
  rw [wrap64 (n := (j : Int) - 1) (by omega) (by omega), Int.tdiv_eq_ediv_of_nonneg (by omega), wrap64 (by omega) (by omega)]
  omega

abbrev HS (s : Sl) (L : List Nat) : Nat → Prop := fun b => s.p = some (bk b) ∨ b ∈ L

theorem mem_getD {L : List Nat} {k : Nat} (hk : k < L.length) : L.getD k 0 ∈ L := by
  rw [List.getD_eq_getElem?_getD, List.getElem?_eq_getElem hk]; exact List.getElem_mem hk

/-- the last step: t comes to the hole -/
theorem Hol.put {h : Hp} {W : Nat} {wl : List Value} {s : Sl} {tm : Nat → Tm} {L : List Nat} {i t : Nat} {K : Hp → Prop} (H : Hol h W wl s tm L i t)
    (hK : ∀ h', Hea h' W wl s tm (L.set i t) → Ext (fun b => s.p = some (bk b) ∨ b = t) h h' → K h') : C44 (some ⟨W, 258, none⟩) i (some (bk t)) h K := by
  obtain ⟨pl, ht⟩ := H.ht
  refine c44 H.hW H.h258 H.own H.hi ht ?_
  intro h' ho' ht' he
  have nr : ∀ b l, Blk h b 65 l → ¬ s.p = some (bk b) := by
    intro b l hb hp
    obtain ⟨r, hp', hc⟩ := Own.ptr H.own H.hi
    rw [hp] at hp'; simp only [Option.some.injEq] at hp'
    have : b = r := congrArg Addr.block hp'
    subst this
    obtain ⟨b', cs, hp2, hb2, _⟩ := H.own.row (by intro e; have := H.hi; simp at e; subst e; simp at this)
    rw [hp] at hp2; simp only [Option.some.injEq] at hp2
    have : b = b' := congrArg Addr.block hp2
    subst this
    exact (hb.ne hb2 (by decide)) rfl
  refine hK h' ⟨?_, H.h258, H.h259, ho', ?_, ?_⟩ he
  · refine he.blk H.hW ?_
    rintro (hp | hp)
    · obtain ⟨b', cs, hp2, hb2, _⟩ := H.own.row (by intro e; have := H.hi; simp at e; subst e; simp at this)
      rw [hp] at hp2; simp only [Option.some.injEq] at hp2
      have : W = b' := congrArg Addr.block hp2
      subst this; exact (H.hW.ne hb2 (by decide)) rfl
    · subst hp; exact (H.hW.ne ht (by decide)) rfl
  · intro j hj
    simp only [List.length_set] at hj
    rw [Pq.getD_set]
    by_cases e : i = j
    · subst e; rw [if_pos ⟨rfl, hj⟩]; exact ht'
    · rw [if_neg (fun q => e q.1)]
      refine he.blk (H.tms j hj (fun q => e q.symm)) ?_
      rintro (hp | hp)
      · exact nr _ _ (H.tms j hj (fun q => e q.symm)) hp
      · exact H.nt j hj (fun q => e q.symm) hp
  · intro j k hj hk hne
    simp only [List.length_set] at hj hk
    rw [Pq.getD_set, Pq.getD_set]
    by_cases e1 : i = j
    · subst e1
      rw [if_pos ⟨rfl, hj⟩, if_neg (fun q => hne q.1)]
      exact fun q => H.nt k hk (fun q => hne q.symm) q.symm
    · rw [if_neg (fun q => e1 q.1)]
      by_cases e2 : i = k
      · subst e2; rw [if_pos ⟨rfl, hk⟩]; exact H.nt j hj (fun q => e1 q.symm)
      · rw [if_neg (fun q => e2 q.1)]; exact H.nd j k hj hk (fun q => e1 q.symm) (fun q => e2 q.symm) hne

/-- one step of a hole: what stands at p comes to i, the hole is at p then -/
theorem Hol.move {h : Hp} {W : Nat} {wl : List Value} {s : Sl} {tm : Nat → Tm} {L : List Nat} {i p t : Nat} {K : Hp → Prop} (H : Hol h W wl s tm L i t) (hp : p < L.length) (hne : p ≠ i)
    (hK : ∀ h', Hol h' W wl s tm (L.set i (L.getD p 0)) p t → Ext (HS s L) h h' → K h') : C44 (some ⟨W, 258, none⟩) i (some (bk (L.getD p 0))) h K := by
  have hrow := H.own.row (by intro e; have := H.hi; simp at e; subst e; simp at this)
  obtain ⟨r, cs, hpr, hr, _⟩ := hrow
  have nr : ∀ b l, Blk h b 65 l → ¬ s.p = some (bk b) := by
    intro b l hb hp
    rw [hp] at hpr; simp only [Option.some.injEq] at hpr
    have : b = r := congrArg Addr.block hpr
    subst this
    exact (hb.ne hr (by decide)) rfl
  have hu := H.tms p hp hne
  refine c44 H.hW H.h258 H.own H.hi hu ?_
  intro h' ho' hu' he
  obtain ⟨pl, ht⟩ := H.ht
  have keep : ∀ b l, Blk h b 65 l → b ≠ L.getD p 0 → Blk h' b 65 l := by
    intro b l hb hb'
    refine he.blk hb ?_
    rintro (hq | hq)
    · exact nr _ _ hb hq
    · exact hb' hq
  refine hK h' ⟨?_, H.h258, H.h259, ho', by simpa using hp, ?_, ?_, ?_, ?_⟩ (he.mono ?_)
  · refine he.blk H.hW ?_
    rintro (hq | hq)
    · rw [hq] at hpr; simp only [Option.some.injEq] at hpr
      have : W = r := congrArg Addr.block hpr
      subst this; exact (H.hW.ne hr (by decide)) rfl
    · exact (H.hW.ne hu (by decide)) hq
  · intro j hj hjp
    simp only [List.length_set] at hj
    rw [Pq.getD_set]
    by_cases e : i = j
    · subst e; rw [if_pos ⟨rfl, hj⟩]; exact hu'
    · rw [if_neg (fun q => e q.1)]
      exact keep _ _ (H.tms j hj (fun q => e q.symm)) (H.nd j p hj hp (fun q => e q.symm) hne hjp)
  · intro j hj hjp
    simp only [List.length_set] at hj
    rw [Pq.getD_set]
    by_cases e : i = j
    · subst e; rw [if_pos ⟨rfl, hj⟩]; exact H.nt p hp hne
    · rw [if_neg (fun q => e q.1)]; exact H.nt j hj (fun q => e q.symm)
  · intro j k hj hk hjp hkp hjk
    simp only [List.length_set] at hj hk
    rw [Pq.getD_set, Pq.getD_set]
    by_cases e1 : i = j
    · subst e1
      rw [if_pos ⟨rfl, hj⟩, if_neg (fun q => hjk q.1)]
      exact H.nd p k hp hk hne (fun q => hjk q.symm) (fun q => hkp q.symm)
    · rw [if_neg (fun q => e1 q.1)]
      by_cases e2 : i = k
      · subst e2; rw [if_pos ⟨rfl, hk⟩]; exact H.nd j p hj hp (fun q => e1 q.symm) hne hjp
      · rw [if_neg (fun q => e2 q.1)]; exact H.nd j k hj hk (fun q => e1 q.symm) (fun q => e2 q.symm) hjk
  · exact ⟨pl, keep _ _ ht (fun e => H.nt p hp hne e.symm)⟩
  · rintro b o _ (hq | hq)
    · exact .inl hq
    · rw [hq]; exact .inr (mem_getD hp)

theorem c43 {W t i : Nat} {wl : List Value} {s : Sl} {tm : Nat → Tm} {L : List Nat} {h : Hp} {K : Hp → Prop} (H : Hol h W wl s tm L i t) (hpl : Blk h t 65 (tc (tm t) (-1) i)) (hlen : L.length ≤ 1099511627776)
    (hho : Pq.Hole (ltT tm) L i t) (hki : Pq.Kids (ltT tm) L i t)
    (hK : ∀ h' L', Hea h' W wl s tm L' → L'.Perm (L.set i t) → Pq.Heap (ltT tm) L' → Ext (fun b => HS s L b ∨ b = t) h h' → K h') : C43 (some ⟨W, 258, none⟩) (some (bk t)) h K := by
  apply S43; unfold N43
  simp only [nn_some', add_bk, hpl.cell, tc, List.getElem?_cons_zero, List.getElem?_cons_succ, xI_some]
  unfold N43_l0
  refine loopP_inv (fun (x : Int) hc => ∃ (j : Nat) (Lc : List Nat), x = j ∧ Hol hc W wl s tm Lc j t ∧ Pq.Hole (ltT tm) Lc j t ∧ Pq.Kids (ltT tm) Lc j t ∧ (Lc.set j t).Perm (L.set i t) ∧ Ext (fun b => HS s L b ∨ b = t) h hc ∧ (∀ b ∈ Lc, b ∈ L))
    (fun x _ => x.toNat) ?_ ⟨i, L, rfl, H, hho, hki, List.Perm.refl _, Ext.refl, fun b hb => hb⟩
  rintro x hc ⟨j, Lc, rfl, Hc, hh, hk, hperm, he, hsub⟩
  have hl : Lc.length = L.length := by have := hperm.length_eq; simpa using this
  have fin : (j = 0 ∨ ltT tm t (Lc.getD ((j - 1) / 2) 0) = false) → ∀ h2, Ext none' hc h2 → C44 (some ⟨W, 258, none⟩) j (some (bk t)) h2 K := by
    intro hj h2 he2
    refine (Hc.ext he2).put ?_
    intro h' He' he'
    refine hK h' _ He' hperm (hh.done hk Hc.hi hj) ((he.trans (he2.mono (fun _ _ _ => False.elim))).trans (he'.mono ?_))
    rintro b o _ (hq | hq)
    · exact .inl (.inl hq)
    · exact .inr hq
  unfold N43_l0_B N43_l0_b
  by_cases hj : 0 < j
  · have : decide ((j : Int) > 0) = true := by simp; omega
    rw [this, cond_true]
    have hlt : (j - 1) / 2 < Lc.length := by have := Hc.hi; omega
    have hpi := Hc.hi
    simp only [nn_some', add_mk, Hc.hW.cell, Hc.h258, Hc.h259, xA_some, xL_v, wpar hj (by omega), Int.toNat_natCast, Nat.mul_one]
    refine idx_of (by omega) (by rw [Hc.len]; omega) ?_
    obtain ⟨r, hp, hcell⟩ := Own.ptr Hc.own hlt
    rw [hp]
    simp only [nn_some', add_bk, hcell, xP_some]
    refine hv19 ?_
    obtain ⟨pl, ht⟩ := Hc.ht
    have hq := Hc.tms _ hlt (by omega)
    refine c19 (p := [.int .i64 (-1), .int .i64 pl]) (q := [.int .i64 (-1), .int .i64 (((j - 1) / 2 : Nat) : Int)]) ht hq ?_
    intro h2 he2
    have H2 := Hc.ext he2
    simp only [xB_some]
    change (bif ltT tm t (Lc.getD ((j - 1) / 2) 0) then _ else _)
    cases hb : ltT tm t (Lc.getD ((j - 1) / 2) 0) with
    | false =>
      rw [cond_false]
      exact fin (.inr hb) h2 he2
    | true =>
      rw [cond_true]
      simp only [nn_some', H2.hW.cell, H2.h258, xL_v]
      refine idx_of (by omega) (by rw [H2.len]; omega) ?_
      obtain ⟨r2, hp2, hcell2⟩ := Own.ptr H2.own hlt
      rw [hp2]
      simp only [nn_some', add_bk, hcell2, xP_some]
      refine H2.move hlt (by omega) ?_
      intro h3 H3 he3
      obtain ⟨g1, g2⟩ := hh.up lt_trans' lt_as lt_tot hk Hc.hi hj hb
      refine ⟨⟨(j - 1) / 2, _, rfl, H3, g1, g2, ?_, ?_, ?_⟩, by show ((((j - 1) / 2 : Nat)) : Int).toNat < ((j : Nat) : Int).toNat; omega⟩
      · exact (Pq.set_perm Hc.hi hlt (by omega)).trans hperm
      · refine (he.trans (he2.mono (fun _ _ _ => False.elim))).trans (he3.mono ?_)
        rintro b o _ (hq | hq)
        · exact .inl (.inl hq)
        · exact .inl (.inr (hsub b hq))
      · intro b hb
        rcases List.mem_or_eq_of_mem_set hb with h' | h'
        · exact hsub b h'
        · rw [h']; exact hsub _ (mem_getD hlt)
  · have hj0 : j = 0 := by omega
    subst hj0
    have : decide (((0 : Nat) : Int) > 0) = false := by simp
    rw [this, cond_false]
    exact fin (.inl rfl) hc Ext.refl


theorem Hole_set {lt : Nat → Nat → Bool} {L : List Nat} {i t v : Nat} (h : Pq.Hole lt L i t) : Pq.Hole lt (L.set i v) i t := by
  refine ⟨?_, ?_⟩
  · intro j h0 hj hne hp
    simp only [List.length_set] at hj
    rw [Pq.getD_set, Pq.getD_set, if_neg (fun q => hne q.1.symm), if_neg (fun q => hp q.1.symm)]
    exact h.rest j h0 hj hne hp
  · intro j h0 hj hp hi
    simp only [List.length_set] at hj
    rw [Pq.getD_set, Pq.getD_set, if_neg (by omega), if_neg (by omega)]
    exact h.over j h0 hj hp hi
theorem Kids_set {lt : Nat → Nat → Bool} {L : List Nat} {i t v : Nat} (h : Pq.Kids lt L i t) : Pq.Kids lt (L.set i v) i t := by
  intro j h0 hj hp
  simp only [List.length_set] at hj
  rw [Pq.getD_set, if_neg (by omega)]
  exact h j h0 hj hp
theorem Hea.hol {h : Hp} {W : Nat} {wl : List Value} {s : Sl} {tm : Nat → Tm} {L : List Nat} (H : Hea h W wl s tm L) {i t : Nat} (hi : i < L.length) (ht : L.getD i 0 = t) :
    Hol h W wl s tm L i t ∧ Blk h t 65 (tc (tm t) (-1) i) := by
  have hb := H.tms i hi
  rw [ht] at hb
  refine ⟨⟨H.hW, H.h258, H.h259, H.own, hi, fun j hj _ => H.tms j hj, ?_, fun j k hj hk _ _ hjk => H.nd j k hj hk hjk, ⟨_, hb⟩⟩, hb⟩
  intro j hj hne
  rw [← ht]; exact H.nd j i hj hi hne
theorem Hol.len' {h : Hp} {W : Nat} {wl : List Value} {s : Sl} {tm : Nat → Tm} {L : List Nat} {i t : Nat} (H : Hol h W wl s tm L i t) : ((s.n : Nat) : Int) = (L.length : Int) := by rw [H.len]

theorem c45 {W t i : Nat} {wl : List Value} {s : Sl} {tm : Nat → Tm} {L : List Nat} {h : Hp} {K : Hp → Prop} (H : Hol h W wl s tm L i t) (hpl : Blk h t 65 (tc (tm t) (-1) i)) (hlen : L.length ≤ 1099511627776)
    (hho : Pq.Hole (ltT tm) L i t)
    (hK : ∀ h' L' j, Hea h' W wl s tm L' → L'.Perm (L.set i t) → j < L'.length → L'.getD j 0 = t → Pq.Hole (ltT tm) L' j t → Pq.Kids (ltT tm) L' j t → Ext (fun b => HS s L b ∨ b = t) h h' → K h') :
    C45 (some ⟨W, 258, none⟩) (some (bk t)) h K := by
  apply S45; unfold N45
  have hin := H.hi
  simp only [nn_some', add_bk, hpl.cell, tc, List.getElem?_cons_zero, List.getElem?_cons_succ, xI_some]
  have hw0 : ∀ j : Nat, j ≤ 1099511627776 → IntKind.wrap .i64 (IntKind.wrap .i64 (2 * (j : Int)) + 1) = ((2 * j + 1 : Nat) : Int) := by
    intro j hj; rw [wrap64 (n := 2 * (j : Int)) (by omega) (by omega), wrap64 (by omega) (by omega)]; omega
  rw [hw0 i (by omega)]
  unfold N45_l0
  refine loopP_inv (fun (x : Int × Int) hc => ∃ (j : Nat) (Lc : List Nat), x = ((j : Int), ((2 * j + 1 : Nat) : Int)) ∧ Hol hc W wl s tm Lc j t ∧ Pq.Hole (ltT tm) Lc j t ∧ (Lc.set j t).Perm (L.set i t) ∧ Ext (fun b => HS s L b ∨ b = t) h hc ∧ (∀ b ∈ Lc, b ∈ L))
    (fun x _ => (L.length - x.1.toNat)) ?_ ⟨i, L, rfl, H, hho, List.Perm.refl _, Ext.refl, fun b hb => hb⟩
  rintro x hc ⟨j, Lc, rfl, Hc, hh, hperm, he, hsub⟩
  have hl : Lc.length = L.length := by have := hperm.length_eq; simpa using this
  have hji := Hc.hi
  have fin : Pq.Kids (ltT tm) Lc j t → ∀ h2, Ext none' hc h2 → C44 (some ⟨W, 258, none⟩) j (some (bk t)) h2 K := by
    intro hk h2 he2
    refine (Hc.ext he2).put ?_
    intro h' He' he'
    refine hK h' _ j He' hperm (by simpa using hji) (by rw [Pq.getD_set, if_pos ⟨rfl, hji⟩]) (Hole_set hh) (Kids_set hk) ((he.trans (he2.mono (fun _ _ _ => False.elim))).trans (he'.mono ?_))
    rintro b o _ (hq | hq)
    · exact .inl (.inl hq)
    · exact .inr hq
  -- the hole's least child is found: c
  have rest : ∀ (c : Nat) (h2 : Hp), Ext none' hc h2 → c < Lc.length → 0 < c → (c - 1) / 2 = j → (∀ k, 0 < k → k < Lc.length → (k - 1) / 2 = j → ltT tm (Lc.getD k 0) (Lc.getD c 0) = false) →
      N45_j2 (some ⟨W, 258, none⟩) (some (bk t)) j c h2 (fun n1 h0 => C44 (some ⟨W, 258, none⟩) n1 (some (bk t)) h0 fun h1 => K h1)
        (fun n2 h3 => (fun (s' : Int × Int) h' => (∃ (j : Nat) (Lc : List Nat), s' = ((j : Int), ((2 * j + 1 : Nat) : Int)) ∧ Hol h' W wl s tm Lc j t ∧ Pq.Hole (ltT tm) Lc j t ∧ (Lc.set j t).Perm (L.set i t) ∧ Ext (fun b => HS s L b ∨ b = t) h h' ∧ (∀ b ∈ Lc, b ∈ L)) ∧ L.length - s'.1.toNat < L.length - (j : Int).toNat)
          (n2, IntKind.wrap .i64 (IntKind.wrap .i64 (2 * n2) + 1)) h3) := by
    intro c h2 he2 hc1 hc0 hcp hleast
    have H2 := Hc.ext he2
    unfold N45_j2
    simp only [nn_some', add_mk, H2.hW.cell, H2.h258, H2.h259, xA_some, xL_v, Int.toNat_natCast, Nat.mul_one]
    refine idx_of (by omega) (by rw [H2.len]; omega) ?_
    obtain ⟨r, hp, hcell⟩ := Own.ptr H2.own hc1
    rw [hp]
    simp only [nn_some', add_bk, hcell, xP_some]
    refine hv19 ?_
    obtain ⟨pl, ht⟩ := H2.ht
    have hq := H2.tms _ hc1 (by omega)
    refine c19 (p := [.int .i64 (-1), .int .i64 (c : Nat)]) (q := [.int .i64 (-1), .int .i64 pl]) hq ht ?_
    intro h3 he3
    have H3 := H2.ext he3
    simp only [xB_some]
    change (bif !(ltT tm (Lc.getD c 0) t) then _ else _)
    cases hb : ltT tm (Lc.getD c 0) t with
    | false =>
      simp only [Bool.not_false, cond_true]
      refine fin ?_ h3 (he2.trans he3)
      intro k k0 hk hkp
      exact lt_tot _ _ _ hb (hleast k k0 hk hkp)
    | true =>
      simp only [Bool.not_true, cond_false, nn_some', H3.hW.cell, H3.h258, xL_v]
      refine idx_of (by omega) (by rw [H3.len]; omega) ?_
      obtain ⟨r2, hp2, hcell2⟩ := Own.ptr H3.own hc1
      rw [hp2]
      simp only [nn_some', add_bk, hcell2, xP_some]
      refine H3.move hc1 (by omega) ?_
      intro h4 H4 he4
      refine ⟨⟨c, _, by rw [hw0 c (by omega)], H4, hh.down lt_as lt_tot hc0 hc1 hcp hleast, ?_, ?_, ?_⟩, ?_⟩
      · exact (Pq.set_perm Hc.hi hc1 (by omega)).trans hperm
      · refine ((he.trans (he2.mono (fun _ _ _ => False.elim))).trans (he3.mono (fun _ _ _ => False.elim))).trans (he4.mono ?_)
        rintro b o _ (hq | hq)
        · exact .inl (.inl hq)
        · exact .inl (.inr (hsub b hq))
      · intro b hb
        rcases List.mem_or_eq_of_mem_set hb with h' | h'
        · exact hsub b h'
        · rw [h']; exact hsub _ (mem_getD hc1)
      · show L.length - ((c : Nat) : Int).toNat < L.length - ((j : Nat) : Int).toNat
        omega
  unfold N45_l0_B N45_l0_b
  simp only [nn_some', add_mk, Hc.hW.cell, Hc.h258, xL_v]
  by_cases hk : 2 * j + 1 < Lc.length
  · have d1 : decide (((2 * j + 1 : Nat) : Int) < ((s.n : Nat) : Int)) = true := by rw [Hc.len']; simp; omega
    rw [d1, cond_true]
    have w1 : IntKind.wrap .i64 (((2 * j + 1 : Nat) : Int) + 1) = ((2 * j + 2 : Nat) : Int) := by rw [wrap64 (by omega) (by omega)]; omega
    simp only [w1]
    by_cases hk2 : 2 * j + 2 < Lc.length
    · have d2 : decide (((2 * j + 2 : Nat) : Int) < ((s.n : Nat) : Int)) = true := by rw [Hc.len']; simp; omega
      rw [d2, cond_true]
      simp only [Hc.h259, xA_some, Int.toNat_natCast, Nat.mul_one]
      refine idx_of (by omega) (by rw [Hc.len]; omega) ?_
      obtain ⟨r, hp, hcell⟩ := Own.ptr Hc.own hk2
      obtain ⟨r2, hp2, hcell2⟩ := Own.ptr Hc.own hk
      rw [hp] at hp2; simp only [Option.some.injEq] at hp2
      have : r = r2 := congrArg Addr.block hp2
      subst this
      rw [hp]
      simp only [nn_some', add_bk, hcell, xP_some]
      refine idx_of (by omega) (by rw [Hc.len]; omega) ?_
      simp only [hcell2, xP_some]
      refine hv19 ?_
      have ha := Hc.tms _ hk2 (by omega)
      have hb := Hc.tms _ hk (by omega)
      refine c19 (p := [.int .i64 (-1), .int .i64 ((2 * j + 2 : Nat) : Int)]) (q := [.int .i64 (-1), .int .i64 ((2 * j + 1 : Nat) : Int)]) ha hb ?_
      intro h2 he2
      simp only [xB_some]
      unfold N45_j1
      change (bif ltT tm (Lc.getD (2 * j + 2) 0) (Lc.getD (2 * j + 1) 0) then _ else _)
      cases hlt : ltT tm (Lc.getD (2 * j + 2) 0) (Lc.getD (2 * j + 1) 0) with
      | true =>
        rw [cond_true, w1]
        refine rest (2 * j + 2) h2 he2 hk2 (by omega) (by omega) ?_
        intro k k0 hk' hkp
        have : k = 2 * j + 1 ∨ k = 2 * j + 2 := by omega
        rcases this with rfl | rfl
        · exact lt_as _ _ hlt
        · rw [ltT_false]; omega
      | false =>
        rw [cond_false]
        refine rest (2 * j + 1) h2 he2 hk (by omega) (by omega) ?_
        intro k k0 hk' hkp
        have : k = 2 * j + 1 ∨ k = 2 * j + 2 := by omega
        rcases this with rfl | rfl
        · rw [ltT_false]; omega
        · exact hlt
    · have d2 : decide (((2 * j + 2 : Nat) : Int) < ((s.n : Nat) : Int)) = false := by rw [Hc.len']; simp; omega
      rw [d2, cond_false]
      unfold N45_j1
      rw [cond_false]
      refine rest (2 * j + 1) hc Ext.refl hk (by omega) (by omega) ?_
      intro k k0 hk' hkp
      have : k = 2 * j + 1 := by omega
      subst this
      rw [ltT_false]; omega
  · have d1 : decide (((2 * j + 1 : Nat) : Int) < ((s.n : Nat) : Int)) = false := by rw [Hc.len']; simp; omega
    rw [d1, cond_false]
    refine fin ?_ hc Ext.refl
    intro k k0 hk' hkp
    omega


theorem p62a : Try.prog.cellsOf 62 = 1 := by kernel_rfl
theorem p62z : (zc Try.prog 62).length = 1 := by kernel_rfl
theorem p62b : Try.prog.bytesOf 62 = 8 := by kernel_rfl

theorem Hea.len {h : Hp} {W : Nat} {wl : List Value} {s : Sl} {tm : Nat → Tm} {L : List Nat} (H : Hea h W wl s tm L) : s.n = L.length := by
  have := H.own.1; simpa using this.symm
/-- the row of the heap's slice is neither the wheel nor a timer -/
theorem Own.notRow {h : Hp} {s : Sl} {vs : List Value} (ho : Own h 62 1 s vs) {b : Nat} {T : TypeId} {l : List Value} (hb : Blk h b T l) (hT : T ≠ 62) : ¬ s.p = some (bk b) := by
  intro hp
  obtain ⟨_, _, h3⟩ := ho
  rw [hp] at h3
  obtain ⟨_, cs, hr, _⟩ := h3
  exact (hb.ne hr hT) rfl
theorem Hea.keep {S : Nat → Prop} {h h' : Hp} {W : Nat} {wl wl' : List Value} {s : Sl} {tm : Nat → Tm} {L : List Nat} (H : Hea h W wl s tm L) (he : Ext S h h') (hW : Blk h' W 58 wl')
    (h258 : wl'[258]? = some s.v) (h259 : wl'[259]? = some (fa W)) (hs : ∀ b, s.p = some (bk b) → ¬ S b) (hL : ∀ b ∈ L, ¬ S b) : Hea h' W wl' s tm L :=
  ⟨hW, h258, h259, H.own.ext he hs, fun j hj => he.blk (H.tms j hj) (hL _ (mem_getD hj)), H.nd⟩

/-- append of one pointer -/
theorem app1 {s : Sl} {vs : List Value} {h : Hp} {F : Sl → Hp → Prop} {v : Value} {b0 : Nat} (ho : Own h 62 1 s vs) (hb : Blk h b0 62 [v]) (hv : plain v = true) (hlen : s.n ≤ 1099511627776)
    (hF : ∀ s' h', Own h' 62 1 s' (vs ++ [v]) → s'.n = s.n + 1 → Ext (fun b => s.p = some (bk b)) h h' → (∀ b, s'.p = some (bk b) → s.p = some (bk b) ∨ h b = none) → F s' h') :
    apK Try.prog 62 s (.slice (some (bk b0)) 1 1) h F := by
  refine apK_own (n := 1) (ns := [v]) ho p62a p62z (fun _ => rfl) ?_ rfl (by simpa using hv) (by rw [p62b]; omega) hF
  intro G hG
  have : rdN h (bk b0) 0 (1 * 1) = some [v] := by
    have := rdN_blk hb 1 0 (by simp)
    simpa using this
  unfold srcK
  simp only [this]; exact hG

theorem c36 {W t : Nat} {wl : List Value} {s : Sl} {tm : Nat → Tm} {L : List Nat} {lv pl : Int} {h : Hp} {K : Hp → Prop} (H : Hea h W wl s tm L) (hheap : Pq.Heap (ltT tm) L)
    (ht : Blk h t 65 (tc (tm t) lv pl)) (hnt : t ∉ L) (hlen : L.length < 1099511627776) (hwl : wl.length = 261)
    (hK : ∀ h' s' L', Hea h' W (wl.set 258 s'.v) s' tm L' → L'.Perm (L ++ [t]) → Pq.Heap (ltT tm) L' → Ext (fun b => b = W ∨ HS s L b ∨ b = t) h h' →
      (∀ b, s'.p = some (bk b) → s.p = some (bk b) ∨ h b = none) → K h') : C36 (some ⟨W, 258, none⟩) (some (bk t)) h K := by
  apply S36; unfold N36
  simp only [nn_some', H.hW.cell, H.h258, xL_v]
  intro b0 e0
  have n0W : b0 ≠ W := fun e => by subst e; exact (H.hW.ne_none e0) rfl
  have n0t : b0 ≠ t := fun e => by subst e; exact (ht.ne_none e0) rfl
  have e1 : Ext none' h (upd h b0 (.cells ⟨[ptr t]⟩ 62)) := Ext.new e0
  have ho1 := H.own.ext e1 (fun _ _ => id)
  have hlen' := H.len
  refine app1 ho1 Blk.upd_same rfl (by omega) ?_
  intro s' h1 ho' hn' he1 hrow
  have nW : ¬ s.p = some (bk W) := Own.notRow H.own H.hW (by decide)
  have nt : ¬ s.p = some (bk t) := Own.notRow H.own ht (by decide)
  have hW1 : Blk h1 W 58 wl := he1.blk (e1.blk H.hW id) nW
  have ht1 : Blk h1 t 65 (tc (tm t) lv pl) := he1.blk (e1.blk ht id) nt
  have hWt : W ≠ t := H.hW.ne ht (by decide)
  refine hW1.st (by omega) rfl ?_
  have hW2 : Blk (upd h1 W (.cells ⟨wl.set 258 s'.v⟩ 58 (0, 0))) W 58 (wl.set 258 s'.v) := Blk.upd_same
  have ht2 : Blk (upd h1 W (.cells ⟨wl.set 258 s'.v⟩ 58 (0, 0))) t 65 (tc (tm t) lv pl) := ht1.upd_ne hWt.symm
  have g258 : (wl.set 258 s'.v)[258]? = some s'.v := by rw [List.getElem?_set_self (by omega)]
  have g259 : (wl.set 258 s'.v)[259]? = some (fa W) := by rw [List.getElem?_set_ne (by omega)]; exact H.h259
  change xL (cell (upd h1 W (.cells ⟨wl.set 258 s'.v⟩ 58 (0, 0))) ⟨W, 258, none⟩) _
  rw [show Hw.cell (upd h1 W (.cells ⟨wl.set 258 s'.v⟩ 58 (0, 0))) ⟨W, 258, none⟩ = some s'.v by rw [hW2.cell, g258], xL_v]
  simp only [add_bk]
  refine ht2.st (by simp [tc]) rfl ?_
  have ht3 := @Blk.upd_same (upd h1 W (.cells ⟨wl.set 258 s'.v⟩ 58 (0, 0))) t 65 ((tc (tm t) lv pl).set 3 (.int .i64 (-1)))
  refine ht3.st (by simp [tc]) rfl ?_
  have wn : IntKind.wrap .i64 (((s'.n : Nat) : Int) - 1) = ((L.length : Nat) : Int) := by rw [wrap64 (by omega) (by omega)]; omega
  rw [wn]
  have hcells : ((tc (tm t) lv pl).set 3 (.int .i64 (-1))).set 4 (.int .i64 ((L.length : Nat) : Int)) = tc (tm t) (-1) (L.length : Nat) := rfl
  rw [hcells]
  generalize hh4 : upd (upd (upd h1 W (.cells ⟨wl.set 258 s'.v⟩ 58 (0, 0))) t _) t (.cells ⟨tc (tm t) (-1) (L.length : Nat)⟩ 65 (0, 0)) = h4
  have x4 : Ext (fun b => b = W ∨ b = t) h1 h4 := by
    rw [← hh4]
    exact ((Ext.upd (.inl rfl)).trans (Ext.upd (.inr rfl))).trans (Ext.upd (.inr rfl))
  have hW4 : Blk h4 W 58 (wl.set 258 s'.v) := by rw [← hh4]; exact (hW2.upd_ne hWt).upd_ne hWt
  have ht4 : Blk h4 t 65 (tc (tm t) (-1) (L.length : Nat)) := by rw [← hh4]; exact Blk.upd_same
  have ho4 : Own h4 62 1 s' ((L ++ [t]).map ptr) := by
    rw [List.map_append]
    refine ho'.ext x4 ?_
    intro b hb
    rintro (rfl | rfl)
    · exact Own.notRow ho' hW1 (by decide) hb
    · exact Own.notRow ho' ht1 (by decide) hb
  have hmem : ∀ j, j < L.length → (L ++ [t]).getD j 0 = L.getD j 0 := by
    intro j hj; rw [List.getD_eq_getElem?_getD, List.getElem?_append_left hj, ← List.getD_eq_getElem?_getD]
  have hlast : (L ++ [t]).getD L.length 0 = t := by rw [List.getD_eq_getElem?_getD, List.getElem?_append_right (Nat.le_refl _)]; simp
  have Hol4 : Hol h4 W (wl.set 258 s'.v) s' tm (L ++ [t]) L.length t := by
    refine ⟨hW4, g258, g259, ho4, by simp, ?_, ?_, ?_, ⟨_, ht4⟩⟩
    · intro j hj hne
      simp only [List.length_append, List.length_cons, List.length_nil] at hj
      have hj' : j < L.length := by omega
      rw [hmem j hj']
      have hb := H.tms j hj'
      have hb1 := he1.blk (e1.blk hb id) (Own.notRow H.own hb (by decide))
      refine x4.blk hb1 ?_
      rintro (hq | hq)
      · exact (hb.ne H.hW (by decide)) hq
      · exact hnt (hq ▸ mem_getD hj')
    · intro j hj hne
      simp only [List.length_append, List.length_cons, List.length_nil] at hj
      have hj' : j < L.length := by omega
      rw [hmem j hj']; exact fun q => hnt (q ▸ mem_getD hj')
    · intro j k hj hk hjn hkn hjk
      simp only [List.length_append, List.length_cons, List.length_nil] at hj hk
      rw [hmem j (by omega), hmem k (by omega)]; exact H.nd j k (by omega) (by omega) hjk
  refine c43 Hol4 ht4 (by simp; omega) ?_ ?_ ?_
  · refine ⟨?_, ?_⟩
    · intro j h0 hj hne hp
      simp only [List.length_append, List.length_cons, List.length_nil] at hj
      rw [hmem j (by omega), hmem _ (by omega)]; exact hheap j h0 (by omega)
    · intro j h0 hj hp _
      simp only [List.length_append, List.length_cons, List.length_nil] at hj
      omega
  · intro j h0 hj hp
    simp only [List.length_append, List.length_cons, List.length_nil] at hj
    omega
  · intro h' L' H' hperm hheap' he'
    refine hK h' s' L' H' ?_ hheap' ?_ ?_
    · refine hperm.trans ?_
      have : (L ++ [t]).set L.length t = L ++ [t] := by simp
      rw [this]
    · refine (((Ext.refl.then e1 (fun _ _ _ => False.elim)).then he1 ?_).then x4 ?_).then he' ?_
      · intro b o _ hq; exact .inr (.inl (.inl hq))
      · rintro b o _ (hq | hq)
        · exact .inl hq
        · exact .inr (.inr hq)
      · rintro b o hbo ((hq | hq) | hq)
        · rcases hrow b hq with hq' | hq'
          · exact .inr (.inl (.inl hq'))
          · exfalso
            by_cases hbb : b = b0
            · subst hbb; rw [e0] at hbo; cases hbo
            · rw [upd_ne hbb] at hq'; rw [hq'] at hbo; cases hbo
        · rcases List.mem_append.1 hq with hq' | hq'
          · exact .inr (.inl (.inr hq'))
          · simp only [List.mem_singleton] at hq'; exact .inr (.inr hq')
        · exact .inr (.inr hq)
    · intro b hb
      rcases hrow b hb with hq | hq
      · exact .inl hq
      · refine .inr ?_
        by_cases hbb : b = b0
        · subst hbb; exact e0
        · rw [upd_ne hbb] at hq; exact hq

end Go.Proofs.Ytfnlldbaplakoaa

/-
  The wheel's heap in memory: a timer is taken out.
-/
set_option linter.unusedSimpArgs false
set_option linter.unusedVariables false
namespace Go.Proofs.Ytfnlldbaplakoaa
open Go Go.Hw

theorem count_dropLast {L : List Nat} {k : Nat} (hk : L.length = k + 1) : L = L.take k ++ [L.getD k 0] := by
  have h1 : L.drop k = [L.getD k 0] := by
    rw [List.drop_eq_getElem_cons (by omega)]
    have : L.drop (k + 1) = [] := List.drop_eq_nil_of_le (by omega)
    rw [this, List.getD_eq_getElem?_getD, List.getElem?_eq_getElem (by omega)]; rfl
  have h2 := List.take_append_drop k L
  rw [h1] at h2
  exact h2.symm

theorem erase_set_perm {M : List Nat} {i a t : Nat} (hi : i < M.length) (ht : M.getD i 0 = t) : (M.set i a).Perm ((M ++ [a]).erase t) := by
  rw [List.perm_iff_count]
  intro x
  have hget : M[i] = t := by rw [← ht, List.getD_eq_getElem?_getD, List.getElem?_eq_getElem hi]; rfl
  have htm : t ∈ M := hget ▸ List.getElem_mem hi
  rw [List.count_set hi, List.count_erase, List.count_append, List.count_singleton, hget]
  have p1 : 1 ≤ M.count t := List.count_pos_iff.2 htm
  by_cases e1 : t = x
  · subst e1; simp; omega
  · have f1 : (t == x) = false := by simpa using e1
    have f2 : (x == t) = false := by simpa using fun e : x = t => e1 e.symm
    simp [f1, f2]

theorem nodup_of {L : List Nat} (h : ∀ j k, j < L.length → k < L.length → j ≠ k → L.getD j 0 ≠ L.getD k 0) : L.Nodup := by
  unfold List.Nodup
  rw [List.pairwise_iff_getElem]
  intro i j hi hj hij
  have := h i j hi hj (by omega)
  rw [List.getD_eq_getElem?_getD, List.getElem?_eq_getElem hi, List.getD_eq_getElem?_getD, List.getElem?_eq_getElem hj] at this
  exact this
theorem Hea.nodup {h : Hp} {W : Nat} {wl : List Value} {s : Sl} {tm : Nat → Tm} {L : List Nat} (H : Hea h W wl s tm L) : L.Nodup := nodup_of H.nd

theorem c38 {W t i : Nat} {wl : List Value} {s : Sl} {tm : Nat → Tm} {L : List Nat} {h : Hp} {K : Hp → Prop} (H : Hea h W wl s tm L) (hheap : Pq.Heap (ltT tm) L)
    (hi : i < L.length) (hit : L.getD i 0 = t) (hlen : L.length < 1099511627776) (hwl : wl.length = 261)
    (hK : ∀ h' s' L', Hea h' W (wl.set 258 s'.v) s' tm L' → L'.Perm (L.erase t) → Pq.Heap (ltT tm) L' → Ext (fun b => b = W ∨ s.p = some (bk b) ∨ b ∈ L ∧ b ≠ t) h h' → s'.p = s.p → K h') :
    C38 (some ⟨W, 258, none⟩) (some (bk t)) h K := by
  apply S38; unfold N38
  obtain ⟨k, hk⟩ : ∃ k, L.length = k + 1 := ⟨L.length - 1, by omega⟩
  have hn := H.len
  have wn : IntKind.wrap .i64 (((s.n : Nat) : Int) - 1) = ((k : Nat) : Int) := by rw [wrap64 (by omega) (by omega)]; omega
  simp only [nn_some', H.hW.cell, H.h258, xL_v, wn, Int.toNat_natCast, Nat.mul_one]
  refine idx_of (by omega) (by omega) ?_
  obtain ⟨r, hp, hcell⟩ := Own.ptr H.own (k := k) (by omega)
  rw [hp]
  simp only [nn_some', add_bk, hcell, xP_some]
  refine bd_nat (by have := H.own.2.1; omega) ?_
  simp only [sadr_zero]
  refine H.hW.st (by omega) rfl ?_
  have hW1 : Blk (upd h W (.cells ⟨wl.set 258 (.slice s.p k s.c)⟩ 58 (0, 0))) W 58 (wl.set 258 (.slice s.p k s.c)) := Blk.upd_same
  rw [hp] at hW1
  have x1 : Ext (fun b => b = W) h (upd h W (.cells ⟨wl.set 258 (.slice (some (bk r)) k s.c)⟩ 58 (0, 0))) := Ext.upd rfl
  revert hW1 x1
  generalize hh1 : upd h W (.cells ⟨wl.set 258 (.slice (some (bk r)) k s.c)⟩ 58 (0, 0)) = h1
  intro hW1 x1
  have nWr : ∀ b, s.p = some (bk b) → ¬ b = W := fun b hb e => Own.notRow H.own H.hW (by decide) (e ▸ hb)
  have tms1 : ∀ j, j < L.length → Blk h1 (L.getD j 0) 65 (tc (tm (L.getD j 0)) (-1) j) := fun j hj => x1.blk (H.tms j hj) ((H.tms j hj).ne H.hW (by decide))
  have g258 : (wl.set 258 (.slice (some (bk r)) k s.c))[258]? = some (Sl.mk (some (bk r)) k s.c).v := by rw [List.getElem?_set_self (by omega)]; rfl
  have g259 : (wl.set 258 (.slice (some (bk r)) k s.c))[259]? = some (fa W) := by rw [List.getElem?_set_ne (by omega)]; exact H.h259
  have ho1 : Own h1 62 1 ⟨some (bk r), k, s.c⟩ ((L.take k).map ptr) := by
    have := (H.own.ext x1 nWr).cut (k := k) (by omega)
    rw [hp, Nat.mul_one, ← List.map_take] at this; exact this
  have htk : ∀ j, j < k → (L.take k).getD j 0 = L.getD j 0 := by
    intro j hj; rw [List.getD_eq_getElem?_getD, List.getElem?_take, if_pos hj, ← List.getD_eq_getElem?_getD]
  have hlk : (L.take k).length = k := by simp; omega
  have hsplit := count_dropLast hk
  have H1 : Hea h1 W (wl.set 258 (Sl.mk (some (bk r)) k s.c).v) ⟨some (bk r), k, s.c⟩ tm (L.take k) := by
    refine ⟨hW1, g258, g259, ho1, ?_, ?_⟩
    · intro j hj; rw [htk j (by omega)]; exact tms1 j (by omega)
    · intro a b ha hb hab; rw [htk a (by omega), htk b (by omega)]; exact H.nd a b (by omega) (by omega) hab
  have heap1 : Pq.Heap (ltT tm) (L.take k) := by
    intro j h0 hj; rw [htk j (by omega), htk _ (by omega)]; exact hheap j h0 (by omega)
  have hbl := tms1 k (by omega)
  have hbt := tms1 i hi
  rw [hit] at hbt
  refine peq_blk hbl hbt ?_
  by_cases e : L.getD k 0 = t
  · have : decide (L.getD k 0 = t) = true := by simpa using e
    rw [this]
    simp only [Bool.not_true, cond_false]
    refine hK h1 _ (L.take k) H1 ?_ heap1 (x1.mono (fun b o _ hb => .inl hb)) hp.symm
    have hnt : t ∉ L.take k := by
      intro hm
      obtain ⟨a, ha, hat⟩ := List.getElem_of_mem hm
      have ha' : a < k := by omega
      have : (L.take k).getD a 0 = t := by rw [List.getD_eq_getElem?_getD, List.getElem?_eq_getElem ha]; exact hat
      rw [htk a ha'] at this
      exact H.nd a k (by omega) (by omega) (by omega) (this.trans e.symm)
    have : L.erase t = L.take k := by
      conv => lhs; rw [hsplit]
      rw [e, List.erase_append_right _ hnt]; simp
    rw [this]
  · have : decide (L.getD k 0 = t) = false := by simpa using e
    rw [this]
    simp only [Bool.not_false, cond_true, nn_some', add_bk, hbt.cell, tc, List.getElem?_cons_succ, List.getElem?_cons_zero, xI_some]
    have hik : i < k := by
      rcases Nat.lt_or_ge i k with h' | h'
      · exact h'
      · exfalso; have : i = k := by omega
        subst this; exact e hit
    have Hl : Hol h1 W (wl.set 258 (Sl.mk (some (bk r)) k s.c).v) ⟨some (bk r), k, s.c⟩ tm (L.take k) i (L.getD k 0) := by
      refine ⟨hW1, g258, g259, ho1, by omega, fun j hj _ => H1.tms j hj, ?_, fun a b ha hb _ _ hab => H1.nd a b ha hb hab, ⟨_, hbl⟩⟩
      intro j hj _
      rw [htk j (by omega)]; exact H.nd j k (by omega) (by omega) (by omega)
    have hole1 : Pq.Hole (ltT tm) (L.take k) i (L.getD k 0) := by
      refine ⟨fun j h0 hj _ _ => heap1 j h0 hj, ?_⟩
      intro j h0 hj hp' hi0
      have a1 := heap1 j h0 hj
      rw [hp'] at a1
      exact lt_tot _ _ _ (heap1 i hi0 (by omega)) a1
    refine Hl.put ?_
    intro h2 H2 x2
    have hij : ((L.take k).set i (L.getD k 0)).getD i 0 = L.getD k 0 := by rw [Pq.getD_set, if_pos ⟨rfl, by omega⟩]
    obtain ⟨H2h, H2p⟩ := H2.hol (i := i) (by simp; omega) hij
    refine c45 H2h H2p (by simp; omega) (Hole_set hole1) ?_
    intro h3 L3 j H3 perm3 hj3 hjt hole3 kids3 x3
    obtain ⟨H3h, H3p⟩ := H3.hol hj3 hjt
    have hl3 : L3.length = k := by have := perm3.length_eq; simp at this; omega
    refine c43 H3h H3p (by omega) hole3 kids3 ?_
    intro h4 L4 H4 perm4 heap4 x4
    have pm : L4.Perm (L.erase t) := by
      refine perm4.trans ?_
      have e3 : L3.set j (L.getD k 0) = L3 := by
        rw [← hjt, List.getD_eq_getElem?_getD, List.getElem?_eq_getElem hj3]; simp
      rw [e3]
      refine perm3.trans ?_
      rw [List.set_set]
      have : (L.take k).getD i 0 = t := by rw [htk i hik]; exact hit
      have := erase_set_perm (M := L.take k) (i := i) (a := L.getD k 0) (by omega) this
      rw [← hsplit] at this; exact this
    have pm2 : ((L.take k).set i (L.getD k 0)).Perm (L.erase t) := by
      have : (L.take k).getD i 0 = t := by rw [htk i hik]; exact hit
      have := erase_set_perm (M := L.take k) (i := i) (a := L.getD k 0) (by omega) this
      rw [← hsplit] at this; exact this
    have memE : ∀ b, b ∈ L.erase t → b ∈ L ∧ b ≠ t := fun b hb => ⟨List.mem_of_mem_erase hb, fun e => by subst e; exact (List.Nodup.not_mem_erase H.nodup) hb⟩
    have lastL : L.getD k 0 ∈ L ∧ L.getD k 0 ≠ t := ⟨mem_getD (by omega), e⟩
    have mem2 : ∀ b, b ∈ (L.take k).set i (L.getD k 0) → b ∈ L ∧ b ≠ t := fun b hb => memE b (pm2.mem_iff.1 hb)
    have mem3 : ∀ b, b ∈ L3 → b ∈ L ∧ b ≠ t := by
      intro b hb
      have := perm3.mem_iff.1 hb
      rw [List.set_set] at this
      exact mem2 b this
    refine hK h4 _ L4 H4 pm heap4 ?_ hp.symm
    refine (((x1.mono (fun b o _ hb => .inl hb)).then x2 ?_).then x3 ?_).then x4 ?_
    · rintro b o _ (hq | hq)
      · exact .inr (.inl (hp.trans hq))
      · exact .inr (.inr (hq ▸ lastL))
    · rintro b o _ ((hq | hq) | hq)
      · exact .inr (.inl (hp.trans hq))
      · exact .inr (.inr (mem2 b hq))
      · exact .inr (.inr (hq ▸ lastL))
    · rintro b o _ ((hq | hq) | hq)
      · exact .inr (.inl (hp.trans hq))
      · exact .inr (.inr (mem3 b hq))
      · exact .inr (.inr (hq ▸ lastL))

end Go.Proofs.Ytfnlldbaplakoaa

/-
  The wheel in memory.
-/
set_option linter.unusedSimpArgs false
set_option linter.unusedVariables false
namespace Go.Proofs.Ytfnlldbaplakoaa
open Go Go.Hw

/-! ### lists told by a function -/
def fl (n : Nat) (f : Nat → Value) : List Value := (List.range n).map f
def fup {α : Type} (f : Nat → α) (k : Nat) (v : α) : Nat → α := fun x => if x = k then v else f x
@[simp] theorem fl_len {n : Nat} {f : Nat → Value} : (fl n f).length = n := by simp [fl]
theorem fl_get {n k : Nat} {f : Nat → Value} (hk : k < n) : (fl n f)[k]? = some (f k) := by simp [fl, hk]
theorem fl_set {n k : Nat} {f : Nat → Value} {v : Value} : (fl n f).set k v = fl n (fup f k v) := by
  apply List.ext_getElem?
  intro i
  rw [List.getElem?_set]
  by_cases hi : i < n
  · rw [fl_get hi, fl_get hi]
    by_cases h : k = i
    · subst h; rw [if_pos rfl, if_pos (by simpa using hi)]; simp [fup]
    · rw [if_neg h]
      have h' : ¬ i = k := fun e => h e.symm
      simp [fup, h']
  · have hn : ∀ g, (fl n g)[i]? = none := fun g => List.getElem?_eq_none (by simp; omega)
    rw [hn, hn]
    by_cases h : k = i
    · subst h; rw [if_pos rfl, if_neg (by simpa using hi)]
    · rw [if_neg h]
theorem fl_congr {n : Nat} {f g : Nat → Value} (h : ∀ k, k < n → f k = g k) : fl n f = fl n g := by
  unfold fl; apply List.map_congr_left; intro k hk; exact h k (by simpa using hk)

/-- the wheel, as it is told -/
structure WS where
  now : Int
  last : Int
  mb : Nat
  es : Array MapEntry
  clk : Nat
  rows : Nat → Sl
  ct : Nat → List Nat
def wf (W : Nat) (w : WS) (k : Nat) : Value :=
  if k = 0 then .int .i64 w.now else if k = 1 then .int .i64 w.last else if k < 259 then (w.rows (k - 2)).v else if k = 259 then fa W else .map (some w.mb)
def wl (W : Nat) (w : WS) : List Value := fl 261 (wf W w)

@[simp] theorem wl_len {W : Nat} {w : WS} : (wl W w).length = 261 := fl_len
@[simp] theorem wl_0 {W : Nat} {w : WS} : (wl W w)[0]? = some (.int .i64 w.now) := fl_get (by omega)
@[simp] theorem wl_1 {W : Nat} {w : WS} : (wl W w)[1]? = some (.int .i64 w.last) := fl_get (by omega)
theorem wl_row {W : Nat} {w : WS} {j : Nat} (hj : j < 257) : (wl W w)[2 + j]? = some (w.rows j).v := by
  unfold wl; rw [fl_get (by omega)]
  have e : 2 + j - 2 = j := by omega
  unfold wf
  rw [if_neg (by omega), if_neg (by omega), if_pos (by omega), e]
@[simp] theorem wl_258 {W : Nat} {w : WS} : (wl W w)[258]? = some (w.rows 256).v := wl_row (j := 256) (by omega)
@[simp] theorem wl_259 {W : Nat} {w : WS} : (wl W w)[259]? = some (fa W) := fl_get (by omega)
@[simp] theorem wl_260 {W : Nat} {w : WS} : (wl W w)[260]? = some (.map (some w.mb)) := fl_get (by omega)
theorem wl_setrow {W : Nat} {w : WS} {j : Nat} {s : Sl} (hj : j < 257) : (wl W w).set (2 + j) s.v = wl W { w with rows := fup w.rows j s } := by
  unfold wl; rw [fl_set]
  apply fl_congr
  intro k hk
  unfold fup wf
  by_cases h : k = 2 + j
  · subst h
    have e : 2 + j - 2 = j := by omega
    rw [if_pos rfl, if_neg (by omega), if_neg (by omega), if_pos (by omega), e]; simp
  · rw [if_neg h]
    by_cases h0 : k = 0
    · simp [h0]
    · by_cases h1 : k = 1
      · simp [h1]
      · have : ¬ k - 2 = j := by omega
        simp [h0, h1, this]
theorem wl_setnow {W : Nat} {w : WS} {t : Int} : (wl W w).set 0 (.int .i64 t) = wl W { w with now := t } := by
  unfold wl; rw [fl_set]
  apply fl_congr
  intro k hk
  unfold fup wf
  by_cases h : k = 0 <;> simp [h]
theorem wl_setlast {W : Nat} {w : WS} {t : Int} : (wl W w).set 1 (.int .i64 t) = wl W { w with last := t } := by
  unfold wl; rw [fl_set]
  apply fl_congr
  intro k hk
  unfold fup wf
  by_cases h : k = 1 <;> simp [h]

/-- the level that stands in a timer of a row -/
def lvl (j : Nat) : Int := if j = 256 then -1 else ((j / 64 : Nat) : Int)

/-- the memory is as it is told -/
structure Mem (h : Hp) (W : Nat) (tm : Nat → Tm) (w : WS) : Prop where
  hW : Blk h W 58 (wl W w)
  hm : h w.mb = some (.map w.es w.clk)
  own : ∀ j, j < 257 → Own h 62 1 (w.rows j) ((w.ct j).map ptr)
  rinj : ∀ j j' b, j < 257 → j' < 257 → (w.rows j).p = some (bk b) → (w.rows j').p = some (bk b) → j = j'
  tms : ∀ j, j < 257 → ∀ p, p < (w.ct j).length → Blk h ((w.ct j).getD p 0) 65 (tc (tm ((w.ct j).getD p 0)) (lvl j) p)
  nd : ∀ j j' p p', j < 257 → j' < 257 → p < (w.ct j).length → p' < (w.ct j').length → (w.ct j).getD p 0 = (w.ct j').getD p' 0 → j = j' ∧ p = p'

/-- the blocks of a wheel -/
def FP (W : Nat) (w : WS) : Nat → Prop := fun b => b = W ∨ b = w.mb ∨ (∃ j, j < 257 ∧ (w.rows j).p = some (bk b)) ∨ ∃ j, j < 257 ∧ b ∈ w.ct j

theorem mem_getD' {L : List Nat} {b : Nat} (hb : b ∈ L) : ∃ p, p < L.length ∧ L.getD p 0 = b := by
  obtain ⟨p, hp, e⟩ := List.getElem_of_mem hb
  exact ⟨p, hp, by rw [List.getD_eq_getElem?_getD, List.getElem?_eq_getElem hp]; exact e⟩

theorem Mem.ext {S : Nat → Prop} {h h' : Hp} {W : Nat} {tm : Nat → Tm} {w : WS} (M : Mem h W tm w) (he : Ext S h h') (hs : ∀ b, FP W w b → ¬ S b) : Mem h' W tm w :=
  ⟨he.blk M.hW (hs _ (.inl rfl)), he _ _ M.hm (hs _ (.inr (.inl rfl))), fun j hj => (M.own j hj).ext he (fun b hb => hs b (.inr (.inr (.inl ⟨j, hj, hb⟩)))), M.rinj,
   fun j hj p hp => he.blk (M.tms j hj p hp) (hs _ (.inr (.inr (.inr ⟨j, hj, mem_getD hp⟩)))), M.nd⟩
theorem Mem.ext0 {h h' : Hp} {W : Nat} {tm : Nat → Tm} {w : WS} (M : Mem h W tm w) (he : Ext none' h h') : Mem h' W tm w := M.ext he (fun _ _ => id)
theorem Mem.len {h : Hp} {W : Nat} {tm : Nat → Tm} {w : WS} (M : Mem h W tm w) {j : Nat} (hj : j < 257) : (w.rows j).n = (w.ct j).length := by
  have := (M.own j hj).1; simpa using this.symm
theorem Mem.notRow {h : Hp} {W : Nat} {tm : Nat → Tm} {w : WS} (M : Mem h W tm w) {j b : Nat} (hj : j < 257) {T : TypeId} {l : List Value} (hb : Blk h b T l) (hT : T ≠ 62) : ¬ (w.rows j).p = some (bk b) :=
  Own.notRow (M.own j hj) hb hT
theorem map_ne {h : Hp} {b m : Nat} {T : TypeId} {l : List Value} {es : Array MapEntry} {c : Nat} (hb : Blk h b T l) (hm : h m = some (.map es c)) : b ≠ m := by
  rintro rfl; unfold Blk at hb; rw [hb] at hm; cases hm
/-- the blocks of a wheel are there -/
theorem Mem.there {h : Hp} {W : Nat} {tm : Nat → Tm} {w : WS} (M : Mem h W tm w) {b : Nat} (hb : FP W w b) : h b ≠ none := by
  rcases hb with rfl | rfl | ⟨j, hj, hp⟩ | ⟨j, hj, hp⟩
  · intro e; have := M.hW; unfold Blk at this; rw [e] at this; cases this
  · rw [M.hm]; intro e; cases e
  · have := (M.own j hj).2.2
    rw [hp] at this
    obtain ⟨_, cs, hb, _⟩ := this
    intro e; unfold Blk at hb; rw [e] at hb; cases hb
  · obtain ⟨p, hp', rfl⟩ := mem_getD' hp
    intro e; have := M.tms j hj p hp'; unfold Blk at this; rw [e] at this; cases this

/-- the heap of the wheel, as the heap's own laws have it -/
theorem Mem.hea {h : Hp} {W : Nat} {tm : Nat → Tm} {w : WS} (M : Mem h W tm w) : Hea h W (wl W w) (w.rows 256) tm (w.ct 256) :=
  ⟨M.hW, wl_258, wl_259, M.own 256 (by omega), fun j hj => M.tms 256 (by omega) j hj, fun j k hj hk hjk e => hjk (M.nd 256 256 j k (by omega) (by omega) hj hk e).2⟩

/-- and back: what the heap's laws leave is a wheel again -/
theorem Mem.ofHea {h h' : Hp} {W : Nat} {tm : Nat → Tm} {w : WS} (M : Mem h W tm w) {s' : Sl} {L' : List Nat} {S : Nat → Prop} (H : Hea h' W (wl W { w with rows := fup w.rows 256 s' }) s' tm L') (he : Ext S h h')
    (hS : ∀ b, S b → b = W ∨ (w.rows 256).p = some (bk b) ∨ (∀ j, j < 256 → b ∉ w.ct j) ∧ ∃ l, Blk h b 65 l)
    (hrow : ∀ b, s'.p = some (bk b) → (w.rows 256).p = some (bk b) ∨ h b = none)
    (hL : ∀ b ∈ L', ∀ j, j < 256 → b ∉ w.ct j) : Mem h' W tm { w with rows := fup w.rows 256 s', ct := fup w.ct 256 L' } := by
  have keep : ∀ j, j < 256 → ∀ p, p < (w.ct j).length → Blk h' ((w.ct j).getD p 0) 65 (tc (tm ((w.ct j).getD p 0)) (lvl j) p) := by
    intro j hj p hp
    have hb := M.tms j (by omega) p hp
    refine he.blk hb ?_
    intro hs
    rcases hS _ hs with e | e | ⟨e, _⟩
    · exact (hb.ne M.hW (by decide)) e
    · exact M.notRow (by omega) hb (by decide) e
    · exact e j hj (mem_getD hp)
  have rowk : ∀ j b, j < 256 → (w.rows j).p = some (bk b) → ¬ S b := by
    intro j b hj hp hs
    have hr := (M.own j (by omega)).2.2
    rw [hp] at hr
    obtain ⟨_, cs, hb, _⟩ := hr
    rcases hS _ hs with e | e | ⟨_, l, e⟩
    · exact (hb.ne M.hW (by decide)) e
    · have := M.rinj _ _ _ (by omega) (by omega) hp e; omega
    · exact (hb.ne e (by decide)) rfl
  refine ⟨H.hW, ?_, ?_, ?_, ?_, ?_⟩
  · refine he _ _ M.hm ?_
    intro hs
    rcases hS _ hs with e | e | ⟨_, l, e⟩
    · exact (map_ne M.hW M.hm) e.symm
    · have hr := (M.own 256 (by omega)).2.2
      rw [e] at hr
      obtain ⟨_, cs, hb, _⟩ := hr
      exact (map_ne hb M.hm) rfl
    · exact (map_ne e M.hm) rfl
  · intro j hj
    simp only [fup]
    by_cases e : j = 256
    · subst e; simp only [if_true]; exact H.own
    · simp only [e, if_false]
      exact (M.own j hj).ext he (fun b hb => rowk j b (by omega) hb)
  · intro j j' b hj hj' h1 h2
    simp only [fup] at h1 h2
    have new : ∀ k, k < 257 → k ≠ 256 → (w.rows k).p = some (bk b) → s'.p = some (bk b) → False := by
      intro k hk hne h3 h4
      rcases hrow b h4 with e | e
      · exact hne (M.rinj _ _ _ hk (by omega) h3 e)
      · exact M.there (.inr (.inr (.inl ⟨k, hk, h3⟩))) e
    by_cases e1 : j = 256
    · by_cases e2 : j' = 256
      · omega
      · simp only [e1, if_true] at h1; simp only [e2, if_false] at h2
        exact (new j' hj' e2 h2 h1).elim
    · by_cases e2 : j' = 256
      · simp only [e1, if_false] at h1; simp only [e2, if_true] at h2
        exact (new j hj e1 h1 h2).elim
      · simp only [e1, if_false] at h1; simp only [e2, if_false] at h2
        exact M.rinj _ _ _ hj hj' h1 h2
  · intro j hj p hp
    simp only [fup] at hp ⊢
    by_cases e : j = 256
    · subst e; simp only [if_true] at hp ⊢; exact H.tms p hp
    · simp only [e, if_false] at hp ⊢; exact keep j (by omega) p hp
  · intro j j' p p' hj hj' hp hp' heq
    simp only [fup] at hp hp' heq
    by_cases e1 : j = 256
    · by_cases e2 : j' = 256
      · simp only [e1, e2, if_true] at hp hp' heq
        refine ⟨by omega, ?_⟩
        by_cases e3 : p = p'
        · exact e3
        · exact (H.nd p p' hp hp' e3 heq).elim
      · simp only [e1, if_true] at hp heq; simp only [e2, if_false] at hp' heq
        exact (hL _ (mem_getD hp) j' (by omega) (heq ▸ mem_getD hp')).elim
    · by_cases e2 : j' = 256
      · simp only [e1, if_false] at hp heq; simp only [e2, if_true] at hp' heq
        exact (hL _ (mem_getD hp') j (by omega) (heq ▸ mem_getD hp)).elim
      · simp only [e1, if_false] at hp heq; simp only [e2, if_false] at hp' heq
        exact M.nd j j' p p' hj hj' hp hp' heq

end Go.Proofs.Ytfnlldbaplakoaa

/-
  The wheel: a timer is laid, a timer is taken.
-/
set_option linter.unusedSimpArgs false
set_option linter.unusedVariables false
namespace Go.Proofs.Ytfnlldbaplakoaa
open Go Go.Hw

/-- the row where a time belongs -/
def slotOf (now t : Int) : Nat := if lev now t = -1 then 256 else (lev now t).toNat * 64 + (dg t (lev now t)).toNat
theorem lev_bd (now t : Int) : lev now t = -1 ∨ lev now t = 0 ∨ lev now t = 1 ∨ lev now t = 2 ∨ lev now t = 3 := by
  unfold lev; split
  · exact .inl rfl
  · split
    · exact .inr (.inr (.inr (.inr rfl)))
    · split
      · exact .inr (.inr (.inr (.inl rfl)))
      · split
        · exact .inr (.inr (.inl rfl))
        · exact .inr (.inl rfl)
theorem dg_bd (t k : Int) : 0 ≤ dg t k ∧ dg t k < 64 := by unfold dg; omega
theorem slotOf_far {now t : Int} : slotOf now t = 256 ↔ lev now t = -1 := by
  unfold slotOf
  have h1 := lev_bd now t
  have h2 := dg_bd t (lev now t)
  split
  · rename_i h; simp [h]
  · rename_i h; constructor
    · intro h'; omega
    · intro h'; exact (h h').elim
theorem slotOf_lt (now t : Int) : slotOf now t < 257 := by
  unfold slotOf
  have h1 := lev_bd now t
  have h2 := dg_bd t (lev now t)
  split <;> omega

/-- a row with one more timer -/
theorem Mem.push {h h' : Hp} {W : Nat} {tm : Nat → Tm} {w : WS} (M : Mem h W tm w) {j b : Nat} (hj : j < 256) {s' : Sl} (hW : Blk h' W 58 (wl W { w with rows := fup w.rows j s' }))
    (ho : Own h' 62 1 s' ((w.ct j ++ [b]).map ptr)) (hb : Blk h' b 65 (tc (tm b) (lvl j) (w.ct j).length)) (hb0 : ∃ l, Blk h b 65 l) (hnb : ∀ j, j < 257 → b ∉ w.ct j) (he : Ext (fun x => x = W ∨ (w.rows j).p = some (bk x) ∨ x = b) h h')
    (hrow : ∀ b, s'.p = some (bk b) → (w.rows j).p = some (bk b) ∨ h b = none) : Mem h' W tm { w with rows := fup w.rows j s', ct := fup w.ct j (w.ct j ++ [b]) } := by
  obtain ⟨lb, hb0⟩ := hb0
  have nrow : ∀ x T l, Blk h x T l → T ≠ 62 → ¬ (w.rows j).p = some (bk x) := fun x T l hx hT => M.notRow (by omega) hx hT
  have rowk : ∀ k x, k < 257 → k ≠ j → (w.rows k).p = some (bk x) → ¬ (x = W ∨ (w.rows j).p = some (bk x) ∨ x = b) := by
    intro k x hk hne hp
    rintro (e | e | e)
    · subst e; exact M.notRow hk M.hW (by decide) hp
    · exact hne (M.rinj _ _ _ hk (by omega) hp e)
    · subst e; exact M.notRow hk hb0 (by decide) hp
  refine ⟨hW, ?_, ?_, ?_, ?_, ?_⟩
  · refine he _ _ M.hm ?_
    rintro (e | e | e)
    · exact (map_ne M.hW M.hm) e.symm
    · have hr := (M.own j (by omega)).2.2
      rw [e] at hr
      obtain ⟨_, cs, hr, _⟩ := hr
      exact (map_ne hr M.hm) rfl
    · exact (map_ne hb0 M.hm) e.symm
  · intro k hk
    simp only [fup]
    by_cases e : k = j
    · subst e; simp only [if_true]; exact ho
    · simp only [e, if_false]; exact (M.own k hk).ext he (fun x hx => rowk k x hk e hx)
  · intro k k' x hk hk' h1 h2
    simp only [fup] at h1 h2
    have new : ∀ k, k < 257 → k ≠ j → (w.rows k).p = some (bk x) → s'.p = some (bk x) → False := by
      intro k hk hne h3 h4
      rcases hrow x h4 with e | e
      · exact hne (M.rinj _ _ _ hk (by omega) h3 e)
      · exact M.there (.inr (.inr (.inl ⟨k, hk, h3⟩))) e
    by_cases e1 : k = j
    · by_cases e2 : k' = j
      · omega
      · simp only [e1, if_true] at h1; simp only [e2, if_false] at h2; exact (new k' hk' e2 h2 h1).elim
    · by_cases e2 : k' = j
      · simp only [e1, if_false] at h1; simp only [e2, if_true] at h2; exact (new k hk e1 h1 h2).elim
      · simp only [e1, if_false] at h1; simp only [e2, if_false] at h2; exact M.rinj _ _ _ hk hk' h1 h2
  · intro k hk p hp
    simp only [fup] at hp ⊢
    have old : ∀ k, k < 257 → ∀ p, p < (w.ct k).length → Blk h' ((w.ct k).getD p 0) 65 (tc (tm ((w.ct k).getD p 0)) (lvl k) p) := by
      intro k hk p hp
      have hx := M.tms k hk p hp
      refine he.blk hx ?_
      rintro (e | e | e)
      · exact (hx.ne M.hW (by decide)) e
      · exact nrow _ _ _ hx (by decide) e
      · exact hnb k hk (e ▸ mem_getD hp)
    by_cases e : k = j
    · subst e
      simp only [if_true] at hp ⊢
      simp only [List.length_append, List.length_cons, List.length_nil] at hp
      by_cases hpl : p < (w.ct k).length
      · have : (w.ct k ++ [b]).getD p 0 = (w.ct k).getD p 0 := by rw [List.getD_eq_getElem?_getD, List.getElem?_append_left hpl, ← List.getD_eq_getElem?_getD]
        rw [this]; exact old k hk p hpl
      · have hpe : p = (w.ct k).length := by omega
        subst hpe
        have : (w.ct k ++ [b]).getD (w.ct k).length 0 = b := by rw [List.getD_eq_getElem?_getD, List.getElem?_append_right (Nat.le_refl _)]; simp
        rw [this]; exact hb
    · simp only [e, if_false] at hp ⊢; exact old k hk p hp
  · have gl : ∀ p, p < (w.ct j).length → (w.ct j ++ [b]).getD p 0 = (w.ct j).getD p 0 := fun p hp => by
      rw [List.getD_eq_getElem?_getD, List.getElem?_append_left hp, ← List.getD_eq_getElem?_getD]
    have gb : (w.ct j ++ [b]).getD (w.ct j).length 0 = b := by rw [List.getD_eq_getElem?_getD, List.getElem?_append_right (Nat.le_refl _)]; simp
    intro k k' p p' hk hk' hp hp' heq
    simp only [fup] at hp hp' heq
    by_cases e1 : k = j
    · subst e1
      simp only [if_true, List.length_append, List.length_cons, List.length_nil] at hp heq
      by_cases e2 : k' = k
      · subst e2
        simp only [if_true, List.length_append, List.length_cons, List.length_nil] at hp' heq
        by_cases h1 : p < (w.ct k').length
        · by_cases h2 : p' < (w.ct k').length
          · rw [gl p h1, gl p' h2] at heq; exact M.nd _ _ _ _ hk hk h1 h2 heq
          · have : p' = (w.ct k').length := by omega
            subst this
            rw [gl p h1, gb] at heq; exact (hnb k' hk (heq ▸ mem_getD h1)).elim
        · have hpe : p = (w.ct k').length := by omega
          by_cases h2 : p' < (w.ct k').length
          · rw [hpe, gb, gl p' h2] at heq; exact (hnb k' hk (heq ▸ mem_getD h2)).elim
          · exact ⟨rfl, by omega⟩
      · simp only [e2, if_false] at hp' heq
        by_cases h1 : p < (w.ct k).length
        · rw [gl p h1] at heq; exact M.nd _ _ _ _ hk hk' h1 hp' heq
        · have hpe : p = (w.ct k).length := by omega
          rw [hpe, gb] at heq; exact (hnb k' hk' (heq ▸ mem_getD hp')).elim
    · simp only [e1, if_false] at hp heq
      by_cases e2 : k' = j
      · subst e2
        simp only [if_true, List.length_append, List.length_cons, List.length_nil] at hp' heq
        by_cases h2 : p' < (w.ct k').length
        · rw [gl p' h2] at heq; exact M.nd _ _ _ _ hk hk' hp h2 heq
        · have hpe : p' = (w.ct k').length := by omega
          rw [hpe, gb] at heq; exact (hnb k hk (heq ▸ mem_getD hp)).elim
      · simp only [e2, if_false] at hp' heq
        exact M.nd _ _ _ _ hk hk' hp hp' heq

/-- what laying or taking leaves of a wheel beside its rows -/
structure Beside (w w' : WS) : Prop where
  now : w'.now = w.now
  last : w'.last = w.last
  mb : w'.mb = w.mb
  es : w'.es = w.es
  clk : w'.clk = w.clk

theorem c28 {W b : Nat} {tm : Nat → Tm} {w : WS} {lv pl : Int} {h : Hp} {K : Hp → Prop} (M : Mem h W tm w) (hheap : Pq.Heap (ltT tm) (w.ct 256)) (hb : Blk h b 65 (tc (tm b) lv pl)) (hnb : ∀ j, j < 257 → b ∉ w.ct j)
    (hn0 : 0 ≤ w.now) (hn1 : w.now ≤ MaxT) (ht0 : 0 ≤ (tm b).tim) (ht1 : (tm b).tim ≤ MaxT) (hlen : ∀ j, j < 257 → (w.ct j).length < 1099511627776)
    (hK : ∀ h' w', Mem h' W tm w' → Beside w w' → (∀ j, j ≠ slotOf w.now (tm b).tim → w'.ct j = w.ct j) → (w'.ct (slotOf w.now (tm b).tim)).Perm (w.ct (slotOf w.now (tm b).tim) ++ [b]) → Pq.Heap (ltT tm) (w'.ct 256) →
      Ext (fun x => FP W w x ∨ x = b) h h' → (∀ x, FP W w' x → FP W w x ∨ x = b ∨ h x = none) → K h') : C28 (some (bk W)) (some (bk b)) h K := by
  apply S28; unfold N28
  have hb0 : cell h (bk b) = some (.int .i64 (tm b).tim) := by rw [hb.cell]; rfl
  unfold MaxT at hn1 ht1
  simp only [nn_some', hb0, xI_some]
  refine c35 M.hW wl_0 hn0 hn1 ht0 ht1 ?_
  have hlv := lev_bd w.now (tm b).tim
  by_cases hf : lev w.now (tm b).tim = -1
  · have : (lev w.now (tm b).tim == -1) = true := by simpa using hf
    rw [this, cond_true]
    simp only [add_bk]
    have hs : slotOf w.now (tm b).tim = 256 := slotOf_far.2 hf
    rw [hs] at hK
    refine c36 M.hea hheap hb (hnb 256 (by omega)) (hlen 256 (by omega)) wl_len ?_
    intro h' s' L' H' hperm hheap' he hrow
    rw [wl_setrow (j := 256) (by omega)] at H'
    have M' : Mem h' W tm { w with rows := fup w.rows 256 s', ct := fup w.ct 256 L' } := by
      refine M.ofHea H' he ?_ hrow ?_
      · rintro x (e | (e | e) | e)
        · exact .inl e
        · exact .inr (.inl e)
        · refine .inr (.inr ⟨?_, ?_⟩)
          · intro j hj hx
            obtain ⟨p, hp, e1⟩ := mem_getD' e
            obtain ⟨p', hp', e2⟩ := mem_getD' hx
            have := (M.nd 256 j p p' (by omega) (by omega) hp hp' (e1.trans e2.symm)).1
            omega
          · obtain ⟨p, hp, e1⟩ := mem_getD' e
            exact ⟨_, e1 ▸ M.tms 256 (by omega) p hp⟩
        · subst e; exact .inr (.inr ⟨fun j hj => hnb j (by omega), _, hb⟩)
      · intro x hx j hj
        have := hperm.mem_iff.1 hx
        rcases List.mem_append.1 this with e | e
        · intro hxj
          obtain ⟨p, hp, e1⟩ := mem_getD' e
          obtain ⟨p', hp', e2⟩ := mem_getD' hxj
          have := (M.nd 256 j p p' (by omega) (by omega) hp hp' (e1.trans e2.symm)).1
          omega
        · simp only [List.mem_singleton] at e; subst e; exact hnb j (by omega)
    refine hK h' _ M' ⟨rfl, rfl, rfl, rfl, rfl⟩ ?_ ?_ ?_ (he.mono ?_) ?_
    · intro j hj; simp [fup, hj]
    · simpa [fup] using hperm
    · simpa [fup] using hheap'
    · rintro x o _ (e | (e | e) | e)
      · exact .inl (.inl e)
      · exact .inl (.inr (.inr (.inl ⟨256, by omega, e⟩)))
      · exact .inl (.inr (.inr (.inr ⟨256, by omega, e⟩)))
      · exact .inr e
    · rintro x (e | e | ⟨j, hj, e⟩ | ⟨j, hj, e⟩)
      · exact .inl (.inl e)
      · exact .inl (.inr (.inl e))
      · simp only [fup] at e
        by_cases hj2 : j = 256
        · simp only [hj2, if_true] at e
          rcases hrow x e with h1 | h1
          · exact .inl (.inr (.inr (.inl ⟨256, by omega, h1⟩)))
          · exact .inr (.inr h1)
        · simp only [hj2, if_false] at e
          exact .inl (.inr (.inr (.inl ⟨j, hj, e⟩)))
      · simp only [fup] at e
        by_cases hj2 : j = 256
        · simp only [hj2, if_true] at e
          rcases List.mem_append.1 (hperm.mem_iff.1 e) with h1 | h1
          · exact .inl (.inr (.inr (.inr ⟨256, by omega, h1⟩)))
          · simp only [List.mem_singleton] at h1; exact .inr (.inl h1)
        · simp only [hj2, if_false] at e
          exact .inl (.inr (.inr (.inr ⟨j, hj, e⟩)))
  · have : (lev w.now (tm b).tim == -1) = false := by simpa using hf
    rw [this, cond_false]
    have hdg := dg_bd (tm b).tim (lev w.now (tm b).tim)
    have hs : slotOf w.now (tm b).tim = (lev w.now (tm b).tim).toNat * 64 + (dg (tm b).tim (lev w.now (tm b).tim)).toNat := by unfold slotOf; rw [if_neg hf]
    generalize hj : slotOf w.now (tm b).tim = j at hs hK
    generalize lev w.now (tm b).tim = k at hlv hf hdg hs
    generalize hd : dg (tm b).tim k = d at hdg hs
    have hj256 : j < 256 := by omega
    simp only [nn_some', hb0, xI_some]
    refine idx_of (by omega) (by omega) ?_
    refine c37 (by omega) (by omega) ht0 (by omega) ?_
    rw [hd]
    refine idx_of (by omega) (by omega) ?_
    have hoff : 2 + k.toNat * 64 + d.toNat * 1 = 2 + j := by omega
    simp only [add_bk, add_mk, hoff, M.hW.cell, wl_row (show j < 257 by omega), xL_v]
    have hWb : W ≠ b := M.hW.ne hb (by decide)
    refine hb.st (by simp [tc]) rfl ?_
    refine Blk.upd_same.st (by simp [tc]) rfl ?_
    have hlvl : k = lvl j := by
      unfold lvl; rw [if_neg (by omega)]; omega
    have hcells : ((tc (tm b) lv pl).set 3 (.int .i64 k)).set 4 (.int .i64 ((w.rows j).n : Nat)) = tc (tm b) (lvl j) (w.ct j).length := by
      rw [M.len (by omega), hlvl]; rfl
    rw [hcells]
    have x1 : Ext (fun x => x = b) h (upd (upd h b (.cells ⟨(tc (tm b) lv pl).set 3 (.int .i64 k)⟩ 65 (0, 0))) b (.cells ⟨tc (tm b) (lvl j) (w.ct j).length⟩ 65 (0, 0))) := Ext.trans (S := fun x => x = b) (Ext.upd rfl) (Ext.upd rfl)
    have hb1 : Blk (upd (upd h b (.cells ⟨(tc (tm b) lv pl).set 3 (.int .i64 k)⟩ 65 (0, 0))) b (.cells ⟨tc (tm b) (lvl j) (w.ct j).length⟩ 65 (0, 0))) b 65 (tc (tm b) (lvl j) (w.ct j).length) := Blk.upd_same
    revert x1 hb1
    generalize upd (upd h b _) b _ = h1
    intro x1 hb1
    have hW1 : Blk h1 W 58 (wl W w) := x1.blk M.hW hWb
    simp only [hW1.cell, wl_row (show j < 257 by omega), xL_v]
    intro b0 e0
    have x2 : Ext none' h1 (upd h1 b0 (.cells ⟨[ptr b]⟩ 62)) := Ext.new e0
    have ho1 : Own (upd h1 b0 (.cells ⟨[ptr b]⟩ 62)) 62 1 (w.rows j) ((w.ct j).map ptr) := ((M.own j (by omega)).ext x1 (fun x hx e => M.notRow (by omega) hb (by decide) (e ▸ hx))).ext x2 (fun _ _ => id)
    have hl := hlen j (by omega)
    have hln := M.len (show j < 257 by omega)
    refine app1 ho1 Blk.upd_same rfl (by omega) ?_
    intro s' h3 ho3 hn3 x3 hrow
    have nW : ¬ (w.rows j).p = some (bk W) := M.notRow (by omega) M.hW (by decide)
    have nb : ¬ (w.rows j).p = some (bk b) := M.notRow (by omega) hb (by decide)
    have hW3 : Blk h3 W 58 (wl W w) := x3.blk (x2.blk hW1 id) nW
    have hb3 := x3.blk (x2.blk hb1 id) nb
    refine hW3.st (by rw [wl_len]; omega) rfl ?_
    change K (upd h3 W (.cells ⟨(wl W w).set (2 + j) s'.v⟩ 58 (0, 0)))
    rw [wl_setrow (by omega)]
    have x4 : Ext (fun x => x = W) h3 (upd h3 W (.cells ⟨wl W { w with rows := fup w.rows j s' }⟩ 58 (0, 0))) := Ext.upd rfl
    have hW4 : Blk (upd h3 W (.cells ⟨wl W { w with rows := fup w.rows j s' }⟩ 58 (0, 0))) W 58 (wl W { w with rows := fup w.rows j s' }) := Blk.upd_same
    revert x4 hW4
    generalize upd h3 W _ = h4
    intro x4 hW4
    have none1 : ∀ x, h1 x = none → h x = none := by
      intro x hx
      cases hq : h x with
      | none => rfl
      | some o =>
        by_cases e : x = b
        · subst e; unfold Blk at hb1; rw [hb1] at hx; cases hx
        · have := x1 x o hq e; rw [hx] at this; cases this
    have hrow' : ∀ x, s'.p = some (bk x) → (w.rows j).p = some (bk x) ∨ h x = none := by
      intro x hx
      rcases hrow x hx with e | e
      · exact .inl e
      · refine .inr (none1 x ?_)
        by_cases e' : x = b0
        · subst e'; exact e0
        · rw [upd_ne e'] at e; exact e
    have he : Ext (fun x => x = W ∨ (w.rows j).p = some (bk x) ∨ x = b) h h4 := by
      refine (((x1.mono ?_).then x2 ?_).then x3 ?_).then x4 ?_
      · intro x o _ e; exact .inr (.inr e)
      · intro x o _ e; exact e.elim
      · intro x o _ e; exact .inr (.inl e)
      · intro x o _ e; exact .inl e
    have ho4 : Own h4 62 1 s' ((w.ct j ++ [b]).map ptr) := by
      rw [List.map_append]
      refine ho3.ext x4 ?_
      intro x hx e
      subst e
      exact Own.notRow ho3 hW3 (by decide) hx
    have hb4 := x4.blk hb3 hWb.symm
    have M' := M.push hj256 hW4 ho4 hb4 ⟨_, hb⟩ hnb he hrow'
    refine hK h4 _ M' ⟨rfl, rfl, rfl, rfl, rfl⟩ ?_ ?_ ?_ (he.mono ?_) ?_
    · intro i hi; simp [fup, hi]
    · simp [fup]
    · have : ¬ 256 = j := by omega
      simpa [fup, this] using hheap
    · rintro x o _ (e | e | e)
      · exact .inl (.inl e)
      · exact .inl (.inr (.inr (.inl ⟨j, by omega, e⟩)))
      · exact .inr e
    · rintro x (e | e | ⟨i, hi, e⟩ | ⟨i, hi, e⟩)
      · exact .inl (.inl e)
      · exact .inl (.inr (.inl e))
      · simp only [fup] at e
        by_cases hij : i = j
        · simp only [hij, if_true] at e
          rcases hrow' x e with h1 | h1
          · exact .inl (.inr (.inr (.inl ⟨j, by omega, h1⟩)))
          · exact .inr (.inr h1)
        · simp only [hij, if_false] at e
          exact .inl (.inr (.inr (.inl ⟨i, hi, e⟩)))
      · simp only [fup] at e
        by_cases hij : i = j
        · simp only [hij, if_true] at e
          rcases List.mem_append.1 e with h1 | h1
          · exact .inl (.inr (.inr (.inr ⟨j, by omega, h1⟩)))
          · simp only [List.mem_singleton] at h1; exact .inr (.inl h1)
        · simp only [hij, if_false] at e
          exact .inl (.inr (.inr (.inr ⟨i, hi, e⟩)))

end Go.Proofs.Ytfnlldbaplakoaa

/-
  The wheel: its map, a row in another one's place, a timer is taken.
-/
set_option linter.unusedSimpArgs false
set_option linter.unusedVariables false
namespace Go.Proofs.Ytfnlldbaplakoaa
open Go Go.Hw

/-! ### the map -/
def EsOk (tm : Nat → Tm) (es : List MapEntry) (bl : List Nat) : Prop := es.map (fun e => (e.key, e.val)) = bl.map fun b => (Value.int .i64 (tm b).id, ptr b)
theorem EsOk.len {tm : Nat → Tm} {es : List MapEntry} {bl : List Nat} (h : EsOk tm es bl) : es.length = bl.length := by
  have := congrArg List.length h; simpa using this
theorem find_es {tm : Nat → Tm} {n : Int} : ∀ {es : List MapEntry} {bl : List Nat} {k : Nat}, EsOk tm es bl →
    Instr.findNow (.int .i64) (.int .i64 n) es k = some ((bl.findIdx? (fun b => n == (tm b).id)).map fun i => (i + k, ptr (bl.getD i 0))) := by
  intro es
  induction es with
  | nil => intro bl k h; cases bl with
    | nil => rfl
    | cons b bl => simp [EsOk] at h
  | cons e es ih =>
    intro bl k h
    cases bl with
    | nil => simp [EsOk] at h
    | cons b bl =>
      unfold EsOk at h
      simp only [List.map_cons, List.cons.injEq, Prod.mk.injEq] at h
      obtain ⟨⟨h1, h2⟩, h3⟩ := h
      simp only [Instr.findNow, h1, Instr.sameNow, if_true, List.findIdx?_cons]
      cases hq : (n == (tm b).id) with
      | true => simp [h2]
      | false =>
        simp only [ih h3 (k := k + 1), cond_false, Option.map_map]
        congr 1
        simp only [Bool.false_eq_true, if_false, Option.map_map]
        congr 1
        funext i
        simp; omega
theorem idx_of_mem {tm : Nat → Tm} : ∀ {bl : List Nat} {b : Nat}, bl.Pairwise (fun a b => (tm a).id < (tm b).id) → b ∈ bl →
    ∃ i, bl.findIdx? (fun c => (tm b).id == (tm c).id) = some i ∧ bl.getD i 0 = b ∧ bl.eraseIdx i = bl.erase b ∧ i < bl.length := by
  intro bl
  induction bl with
  | nil => intro b _ h; cases h
  | cons c bl ih =>
    intro b hp hb
    rw [List.pairwise_cons] at hp
    rw [List.findIdx?_cons]
    by_cases e : b = c
    · subst e; exact ⟨0, by simp, rfl, by simp, by simp⟩
    · have hm : b ∈ bl := by simpa [e] using hb
      have h1 := hp.1 b hm
      have h2 : ((tm b).id == (tm c).id) = false := by simp; omega
      obtain ⟨i, a1, a2, a3, a4⟩ := ih hp.2 hm
      refine ⟨i + 1, by simp [h2, a1], by simpa using a2, ?_, by simp; omega⟩
      have : (c == b) = false := by simpa using fun e' : c = b => e e'.symm
      simp [List.eraseIdx_cons_succ, List.erase_cons, this, a3]
theorem eraseIdx_map' {α β : Type} (f : α → β) : ∀ (l : List α) (i : Nat), (l.eraseIdx i).map f = (l.map f).eraseIdx i := by
  intro l
  induction l with
  | nil => intro i; rfl
  | cons a l ih => intro i; cases i with
    | zero => rfl
    | succ i => simp [ih]
theorem EsOk.erase {tm : Nat → Tm} {es : List MapEntry} {bl : List Nat} (h : EsOk tm es bl) (i : Nat) : EsOk tm (es.eraseIdx i) (bl.eraseIdx i) := by
  unfold EsOk at h ⊢
  rw [eraseIdx_map', eraseIdx_map', h]
theorem EsOk.push {tm : Nat → Tm} {es : List MapEntry} {bl : List Nat} (h : EsOk tm es bl) {b c : Nat} : EsOk tm (es ++ [⟨.int .i64 (tm b).id, ptr b, c⟩]) (bl ++ [b]) := by
  unfold EsOk at h ⊢
  simp [h]
theorem xMap_of {h : Hp} {m : Nat} {es : Array MapEntry} {c : Nat} {F : List MapEntry → Nat → Prop} (hm : h m = some (.map es c)) (hF : F es.toList c) : xMap h (some m) F := by
  unfold xMap; simp only [hm]; exact hF
theorem u50 : Try.prog.underlying 50 = some (.map 3 62) := by kernel_rfl
theorem u3 : Try.prog.underlying 3 = some (.int .i64) := by kernel_rfl
theorem md50 {m : Nat} {n : Int} {h : Hp} {es : Array MapEntry} {c : Nat} {F : Hp → Prop} (hm : h m = some (.map es c))
    (hF : keyAt (.int .i64) (.int .i64 n) es.toList fun r => F (upd h m (mdel es c r))) : mdK Try.prog 50 (.map (some m)) (.int .i64 n) h F := by
  unfold mdK; rw [u50]; simp only [u3, plainKey, cond_true]
  unfold xMapO; simp only [hm]; exact hF
theorem mu50 {m : Nat} {n : Int} {x : Value} {h : Hp} {es : Array MapEntry} {c : Nat} {F : Hp → Prop} (hm : h m = some (.map es c))
    (hF : keyAt (.int .i64) (.int .i64 n) es.toList fun r => F (upd h m (mset es c (.int .i64 n) x r))) : muK Try.prog 50 (.map (some m)) (.int .i64 n) x h F := by
  unfold muK; rw [u50]; simp only [u3, plainKey, cond_true]
  unfold xMapO; simp only [hm]; exact hF

/-! ### a row in another one's place -/
theorem Mem.row {S : Nat → Prop} {h h' : Hp} {W : Nat} {tm : Nat → Tm} {w w' : WS} (M : Mem h W tm w) {j : Nat} (hj : j < 257) {s' : Sl} {L' : List Nat} (hr : w'.rows = fup w.rows j s') (hc : w'.ct = fup w.ct j L')
    (hW : Blk h' W 58 (wl W w')) (hm : h' w'.mb = some (.map w'.es w'.clk)) (ho : Own h' 62 1 s' (L'.map ptr))
    (ht : ∀ p, p < L'.length → Blk h' (L'.getD p 0) 65 (tc (tm (L'.getD p 0)) (lvl j) p)) (hnd : L'.Nodup) (hL : ∀ x ∈ L', ∀ k, k < 257 → k ≠ j → x ∉ w.ct k)
    (he : Ext S h h') (hS1 : ∀ k, k < 257 → k ≠ j → ∀ x ∈ w.ct k, ¬ S x) (hS2 : ∀ k, k < 257 → k ≠ j → ∀ x, (w.rows k).p = some (bk x) → ¬ S x)
    (hrow : ∀ b, s'.p = some (bk b) → (w.rows j).p = some (bk b) ∨ h b = none) : Mem h' W tm w' := by
  refine ⟨hW, hm, ?_, ?_, ?_, ?_⟩
  · intro k hk
    rw [hr, hc]; simp only [fup]
    by_cases e : k = j
    · subst e; simp only [if_true]; exact ho
    · simp only [e, if_false]; exact (M.own k hk).ext he (fun x hx => hS2 k hk e x hx)
  · intro k k' x hk hk' h1 h2
    rw [hr] at h1 h2
    simp only [fup] at h1 h2
    have new : ∀ k, k < 257 → k ≠ j → (w.rows k).p = some (bk x) → s'.p = some (bk x) → False := by
      intro k hk hne h3 h4
      rcases hrow x h4 with e | e
      · exact hne (M.rinj _ _ _ hk (by omega) h3 e)
      · exact M.there (.inr (.inr (.inl ⟨k, hk, h3⟩))) e
    by_cases e1 : k = j
    · by_cases e2 : k' = j
      · omega
      · simp only [e1, if_true] at h1; simp only [e2, if_false] at h2; exact (new k' hk' e2 h2 h1).elim
    · by_cases e2 : k' = j
      · simp only [e1, if_false] at h1; simp only [e2, if_true] at h2; exact (new k hk e1 h1 h2).elim
      · simp only [e1, if_false] at h1; simp only [e2, if_false] at h2; exact M.rinj _ _ _ hk hk' h1 h2
  · intro k hk p hp
    rw [hc] at hp ⊢
    simp only [fup] at hp ⊢
    by_cases e : k = j
    · subst e
      simp only [if_true] at hp ⊢
      exact ht p hp
    · simp only [e, if_false] at hp ⊢; exact he.blk (M.tms k hk p hp) (hS1 k hk e _ (mem_getD hp))
  · intro k k' p p' hk hk' hp hp' heq
    rw [hc] at hp hp' heq
    simp only [fup] at hp hp' heq
    by_cases e1 : k = j
    · subst e1
      simp only [if_true] at hp heq
      by_cases e2 : k' = k
      · subst e2
        simp only [if_true] at hp' heq
        refine ⟨rfl, ?_⟩
        unfold List.Nodup at hnd
        rw [List.pairwise_iff_getElem] at hnd
        rw [List.getD_eq_getElem?_getD, List.getElem?_eq_getElem hp, List.getD_eq_getElem?_getD, List.getElem?_eq_getElem hp'] at heq
        simp only [Option.getD_some] at heq
        rcases Nat.lt_trichotomy p p' with h1 | h1 | h1
        · exact (hnd p p' hp hp' h1 heq).elim
        · exact h1
        · exact (hnd p' p hp' hp h1 heq.symm).elim
      · simp only [e2, if_false] at hp' heq
        exact (hL _ (mem_getD hp) k' hk' e2 (heq ▸ mem_getD hp')).elim
    · simp only [e1, if_false] at hp heq
      by_cases e2 : k' = j
      · subst e2
        simp only [if_true] at hp' heq
        exact (hL _ (mem_getD hp') k hk e1 (heq ▸ mem_getD hp)).elim
      · simp only [e2, if_false] at hp' heq
        exact M.nd _ _ _ _ hk hk' hp hp' heq
theorem Mem.nodup {h : Hp} {W : Nat} {tm : Nat → Tm} {w : WS} (M : Mem h W tm w) {j : Nat} (hj : j < 257) : (w.ct j).Nodup :=
  nodup_of fun a b ha hb hab e => hab (M.nd j j a b hj hj ha hb e).2
theorem Mem.one {h : Hp} {W : Nat} {tm : Nat → Tm} {w : WS} (M : Mem h W tm w) {j k x : Nat} (hj : j < 257) (hk : k < 257) (h1 : x ∈ w.ct j) (h2 : x ∈ w.ct k) : j = k := by
  obtain ⟨p, hp, e⟩ := mem_getD' h1
  obtain ⟨q, hq, f⟩ := mem_getD' h2
  exact (M.nd j k p q hj hk hp hq (e.trans f.symm)).1
theorem Mem.tblk {h : Hp} {W : Nat} {tm : Nat → Tm} {w : WS} (M : Mem h W tm w) {j x : Nat} (hj : j < 257) (h1 : x ∈ w.ct j) : ∃ pl, Blk h x 65 (tc (tm x) (lvl j) pl) := by
  obtain ⟨p, hp, e⟩ := mem_getD' h1
  have := M.tms j hj p hp
  rw [e] at this; exact ⟨_, this⟩
theorem Mem.rblk {h : Hp} {W : Nat} {tm : Nat → Tm} {w : WS} (M : Mem h W tm w) {j x : Nat} (hj : j < 257) (h1 : (w.rows j).p = some (bk x)) : ∃ l, Blk h x 62 l := by
  have := (M.own j hj).2.2
  rw [h1] at this
  obtain ⟨_, cs, hb, _⟩ := this
  exact ⟨cs, hb⟩

/-- the map changes -/
theorem Mem.map {h : Hp} {W : Nat} {tm : Nat → Tm} {w : WS} (M : Mem h W tm w) (es : Array MapEntry) (c : Nat) : Mem (upd h w.mb (.map es c)) W tm { w with es := es, clk := c } := by
  have x : Ext (fun x => x = w.mb) h (upd h w.mb (.map es c)) := Ext.upd rfl
  refine ⟨x.blk M.hW (map_ne M.hW M.hm), Hw.upd_same, fun j hj => (M.own j hj).ext x ?_, M.rinj, fun j hj p hp => x.blk (M.tms j hj p hp) (map_ne (M.tms j hj p hp) M.hm), M.nd⟩
  intro b hb e
  obtain ⟨l, hl⟩ := M.rblk hj hb
  exact map_ne hl M.hm e

/-- what taking leaves beside the rows -/
structure Taken (tm : Nat → Tm) (w w' : WS) (bl : List Nat) (b : Nat) : Prop where
  now : w'.now = w.now
  last : w'.last = w.last
  mb : w'.mb = w.mb
  es : EsOk tm w'.es.toList (bl.erase b)
  clk : w'.clk = w.clk

theorem swap_perm {L : List Nat} {k p b : Nat} (hk : L.length = k + 1) (hp : p < L.length) (hb : L.getD p 0 = b) (hn : L.Nodup) : ((L.set p (L.getD k 0)).take k).Perm (L.erase b) := by
  have hs := count_dropLast hk
  by_cases e : p = k
  · subst e
    rw [List.take_set_of_le (Nat.le_refl _)]
    have hnt : b ∉ L.take p := by
      intro hm
      have : L.Nodup := hn
      rw [hs, hb, List.nodup_append] at this
      exact this.2.2 b hm b (by simp) rfl
    have : L.erase b = L.take p := by
      conv => lhs; rw [hs]
      rw [hb, List.erase_append_right _ hnt]; simp
    rw [this]
  · rw [List.take_set]
    have htk : (L.take k).getD p 0 = b := by rw [List.getD_eq_getElem?_getD, List.getElem?_take, if_pos (by omega), ← List.getD_eq_getElem?_getD]; exact hb
    have := erase_set_perm (M := L.take k) (i := p) (a := L.getD k 0) (by simp; omega) htk
    rw [← hs] at this; exact this

theorem c29 {W b j p : Nat} {tm : Nat → Tm} {w : WS} {bl : List Nat} {h : Hp} {K : Hp → Prop} (M : Mem h W tm w) (hheap : Pq.Heap (ltT tm) (w.ct 256)) (hes : EsOk tm w.es.toList bl) (hbl : b ∈ bl)
    (hid : bl.Pairwise (fun a b => (tm a).id < (tm b).id)) (hj : j < 257) (hp : p < (w.ct j).length) (hpb : (w.ct j).getD p 0 = b) (hdg : j < 256 → dg (tm b).tim (lvl j) = ((j % 64 : Nat) : Int))
    (ht0 : 0 ≤ (tm b).tim) (ht1 : (tm b).tim ≤ MaxT) (hlen : ∀ j, j < 257 → (w.ct j).length < 1099511627776)
    (hK : ∀ h' w', Mem h' W tm w' → Taken tm w w' bl b → (∀ k, k ≠ j → w'.ct k = w.ct k) → (w'.ct j).Perm ((w.ct j).erase b) → Pq.Heap (ltT tm) (w'.ct 256) →
      Ext (FP W w) h h' → (∀ x, FP W w' x → FP W w x) → (∃ lv pl, Blk h' b 65 (tc (tm b) lv pl)) → K h') : C29 (some (bk W)) (some (bk b)) h K := by
  apply S29; unfold N29
  have hb : Blk h b 65 (tc (tm b) (lvl j) p) := by have := M.tms j hj p hp; rw [hpb] at this; exact this
  simp only [nn_some', add_bk, M.hW.cell, wl_260, xM_some, hb.cell, tc, List.getElem?_cons_zero, List.getElem?_cons_succ, xI_some]
  refine md50 M.hm ?_
  obtain ⟨i, hi1, hi2, hi3, hi4⟩ := idx_of_mem hid hbl
  unfold keyAt
  rw [find_es hes, hi1]
  simp only [Option.map_some, mdel, Nat.add_zero]
  have hes' : EsOk tm (w.es.eraseIdxIfInBounds i).toList (bl.erase b) := by
    have := hes.erase i
    rw [hi3] at this
    rw [Array.toList_eraseIdxIfInBounds]; exact this
  have M1 := M.map (w.es.eraseIdxIfInBounds i) w.clk
  have x1 : Ext (fun x => x = w.mb) h (upd h w.mb (.map (w.es.eraseIdxIfInBounds i) w.clk)) := Ext.upd rfl
  revert M1 x1
  generalize upd h w.mb _ = h1
  intro M1 x1
  have hb1 := x1.blk hb (map_ne hb M.hm)
  simp only [hb1.cell, tc, List.getElem?_cons_zero, List.getElem?_cons_succ, xI_some]
  by_cases hf : j = 256
  · subst hf
    have : (lvl 256 == (-1 : Int)) = true := rfl
    rw [this, cond_true]
    refine c38 M1.hea hheap hp hpb (hlen 256 (by omega)) wl_len ?_
    intro h' s' L' H' hperm hheap' he hsp
    rw [wl_setrow (j := 256) (by omega)] at H'
    have memL : ∀ x, x ∈ w.ct 256 → (∀ j, j < 256 → x ∉ w.ct j) ∧ ∃ l, Blk h1 x 65 l := by
      intro x hx
      refine ⟨fun k hk hx2 => ?_, ?_⟩
      · have := M.one (by omega) (by omega) hx hx2; omega
      · obtain ⟨pl, h'⟩ := M1.tblk (j := 256) (by omega) hx; exact ⟨_, h'⟩
    have M' := M1.ofHea H' he (by
      rintro x (e | e | ⟨e, _⟩)
      · exact .inl e
      · exact .inr (.inl e)
      · exact .inr (.inr (memL x e))) (by intro x hx; left; rw [← hsp]; exact hx) (fun x hx => (memL x (List.mem_of_mem_erase (hperm.mem_iff.1 hx))).1)
    refine hK h' _ M' ⟨rfl, rfl, rfl, hes', rfl⟩ ?_ ?_ ?_ ((x1.mono ?_).then he ?_) ?_ ⟨_, _, he.blk hb1 ?_⟩
    · intro k hk; simp [fup, hk]
    · simpa [fup] using hperm
    · simpa [fup] using hheap'
    · rintro x o _ e; exact .inr (.inl e)
    · rintro x o _ (e | e | ⟨e, _⟩)
      · exact .inl e
      · exact .inr (.inr (.inl ⟨256, by omega, e⟩))
      · exact .inr (.inr (.inr ⟨256, by omega, e⟩))
    · rintro x (e | e | ⟨k, hk, e⟩ | ⟨k, hk, e⟩)
      · exact .inl e
      · exact .inr (.inl e)
      · simp only [fup] at e
        by_cases hk2 : k = 256
        · simp only [hk2, if_true] at e; exact .inr (.inr (.inl ⟨256, by omega, hsp ▸ e⟩))
        · simp only [hk2, if_false] at e; exact .inr (.inr (.inl ⟨k, hk, e⟩))
      · simp only [fup] at e
        by_cases hk2 : k = 256
        · simp only [hk2, if_true] at e; exact .inr (.inr (.inr ⟨256, by omega, List.mem_of_mem_erase (hperm.mem_iff.1 e)⟩))
        · simp only [hk2, if_false] at e; exact .inr (.inr (.inr ⟨k, hk, e⟩))
    · rintro (e | e | ⟨_, e⟩)
      · exact hb1.ne M1.hW (by decide) e
      · exact M1.notRow (by omega) hb1 (by decide) e
      · exact e rfl
  · have hj2 : j < 256 := by omega
    have hlv : lvl j = ((j / 64 : Nat) : Int) := by unfold lvl; rw [if_neg hf]
    have hd := hdg hj2
    have : (lvl j == (-1 : Int)) = false := by rw [hlv]; simp; omega
    rw [this, cond_false]
    refine idx_of (by omega) (by omega) ?_
    unfold MaxT at ht1
    refine c37 (by omega) (by omega) ht0 (by omega) ?_
    rw [hd]
    simp only [hb1.cell, tc, List.getElem?_cons_zero, List.getElem?_cons_succ, xI_some, both_only, only_self, true_and]
    refine idx_of (by omega) (by omega) ?_
    have hoff : 2 + (lvl j).toNat * 64 + j % 64 = 2 + j := by omega
    obtain ⟨k, hk⟩ : ∃ k, (w.ct j).length = k + 1 := ⟨(w.ct j).length - 1, by omega⟩
    have hn := M.len hj
    have hl := hlen j hj
    have wn : IntKind.wrap .i64 ((((w.rows j).n : Nat) : Int) - 1) = ((k : Nat) : Int) := by rw [wrap64 (by omega) (by omega)]; omega
    have hrowW : (wl W { w with es := w.es.eraseIdxIfInBounds i, clk := w.clk })[2 + j]? = some (w.rows j).v := wl_row (by omega)
    simp only [add_bk, add_mk, hoff, M1.hW.cell, hrowW, xL_v, wn, Int.toNat_natCast, Nat.mul_one]
    refine idx_of (by omega) (by omega) ?_
    obtain ⟨r, hr, hcell⟩ := Own.ptr (M1.own j hj) (k := k) (by show k < (w.ct j).length; omega)
    have hr' : (w.rows j).p = some (bk r) := hr
    rw [hr']
    simp only [nn_some', add_bk, hcell, xP_some]
    refine idx_of (by omega) (by omega) ?_
    have := Int.toNat_natCast p
    obtain ⟨r', hr2, ⟨csr, hrb⟩, hst⟩ := (M1.own j hj).st (k := p) (by simpa using hp)
    have er : r' = r := by
      have : (w.rows j).p = some (bk r') := hr2
      rw [hr'] at this; simp only [Option.some.injEq] at this; exact (congrArg Addr.block this).symm
    subst er
    refine hst _ _ rfl ?_
    intro h3 ho3 x3
    have nbr : b ≠ r' := hb1.ne hrb (by decide)
    have hb3 := x3.blk hb1 nbr
    have hW3 := x3.blk M1.hW (M1.hW.ne hrb (by decide))
    have hlast1 : Blk h1 ((w.ct j).getD k 0) 65 (tc (tm ((w.ct j).getD k 0)) (lvl j) k) := M1.tms j hj k (by show k < (w.ct j).length; omega)
    have nlr := hlast1.ne hrb (by decide)
    have hlast3 := x3.blk hlast1 nlr
    have nlW := hlast1.ne M1.hW (by decide)
    simp only [hb3.cell, tc, List.getElem?_cons_zero, List.getElem?_cons_succ, xI_some, nn_some', add_bk]
    have lastm : (w.ct j).getD k 0 ∈ w.ct j := mem_getD (by omega)
    generalize hla : (w.ct j).getD k 0 = la at *
    refine hlast3.st (by simp [tc]) rfl ?_
    have hcs : (tc (tm la) (lvl j) k).set 4 (.int .i64 (p : Int)) = tc (tm la) (lvl j) p := rfl
    rw [hcs]
    have x4 : Ext (fun x => x = la) h3 (upd h3 la (.cells ⟨tc (tm la) (lvl j) p⟩ 65 (0, 0))) := Ext.upd rfl
    have hla4 : Blk (upd h3 la (.cells ⟨tc (tm la) (lvl j) p⟩ 65 (0, 0))) la 65 (tc (tm la) (lvl j) p) := Blk.upd_same
    revert x4 hla4
    generalize upd h3 la _ = h4
    intro x4 hla4
    have hW4 := x4.blk hW3 nlW.symm
    simp only [hW4.cell, hrowW, xL_v]
    rw [hr']
    simp only [sadr_zero]
    have hcap := (M.own j hj).2.1
    refine bd_nat (by omega) ?_
    refine hW4.st (by rw [wl_len]; omega) rfl ?_
    have hset : (wl W { w with es := w.es.eraseIdxIfInBounds i, clk := w.clk }).set (2 + j) (.slice (some (bk r')) k (w.rows j).c) = wl W { w with es := w.es.eraseIdxIfInBounds i, clk := w.clk, rows := fup w.rows j ⟨some (bk r'), k, (w.rows j).c⟩, ct := fup w.ct j (((w.ct j).set p la).take k) } := wl_setrow (s := ⟨some (bk r'), k, (w.rows j).c⟩) (by omega)
    rw [hset]
    have x5 : Ext (fun x => x = W) h4 (upd h4 W (.cells ⟨wl W { w with es := w.es.eraseIdxIfInBounds i, clk := w.clk, rows := fup w.rows j ⟨some (bk r'), k, (w.rows j).c⟩, ct := fup w.ct j (((w.ct j).set p la).take k) }⟩ 58 (0, 0))) := Ext.upd rfl
    have hW5 : Blk (upd h4 W (.cells ⟨wl W { w with es := w.es.eraseIdxIfInBounds i, clk := w.clk, rows := fup w.rows j ⟨some (bk r'), k, (w.rows j).c⟩, ct := fup w.ct j (((w.ct j).set p la).take k) }⟩ 58 (0, 0))) W 58 (wl W { w with es := w.es.eraseIdxIfInBounds i, clk := w.clk, rows := fup w.rows j ⟨some (bk r'), k, (w.rows j).c⟩, ct := fup w.ct j (((w.ct j).set p la).take k) }) := Blk.upd_same
    revert x5 hW5
    generalize upd h4 W _ = h5
    intro x5 hW5
    have x15 : Ext (fun x => x = r' ∨ x = la ∨ x = W) h1 h5 := ((x3.mono (fun x o _ e => .inl e)).then x4 (fun x o _ e => .inr (.inl e))).then x5 (fun x o _ e => .inr (.inr e))
    have pm := swap_perm (b := b) hk hp hpb (M.nodup hj)
    rw [hla] at pm
    have hLlen : (((w.ct j).set p la).take k).length = k := by simp; omega
    have hLget : ∀ q, q < k → (((w.ct j).set p la).take k).getD q 0 = if q = p then la else (w.ct j).getD q 0 := by
      intro q hq
      rw [List.getD_eq_getElem?_getD, List.getElem?_take, if_pos hq, ← List.getD_eq_getElem?_getD, Pq.getD_set]
      by_cases e : q = p
      · subst e; rw [if_pos ⟨rfl, hp⟩, if_pos rfl]
      · rw [if_neg (fun e' => e e'.1.symm), if_neg e]
    have subL : ∀ x, x ∈ ((w.ct j).set p la).take k → x ∈ w.ct j := fun x hx => List.mem_of_mem_erase (pm.mem_iff.1 hx)
    have M' : Mem h5 W tm { w with es := w.es.eraseIdxIfInBounds i, clk := w.clk, rows := fup w.rows j ⟨some (bk r'), k, (w.rows j).c⟩, ct := fup w.ct j (((w.ct j).set p la).take k) } := by
      refine M1.row hj (s' := ⟨some (bk r'), k, (w.rows j).c⟩) (L' := ((w.ct j).set p la).take k) rfl rfl hW5 ?_ ?_ ?_ ?_ ?_ x15 ?_ ?_ ?_
      · refine x15 _ _ M1.hm ?_
        rintro (e | e | e)
        · exact map_ne hrb M1.hm e.symm
        · exact map_ne hlast1 M1.hm e.symm
        · exact map_ne M1.hW M1.hm e.symm
      · have c1 := (ho3.cut (k := k) (by show k ≤ (w.rows j).n; omega)).ext (x4.mono (S' := fun x => x = la ∨ x = W) (fun x o _ e => .inl e) |>.then x5 (fun x o _ e => .inr e)) ?_
        · rw [← List.map_set, Nat.mul_one, ← List.map_take] at c1
          rw [hr] at c1
          exact c1
        · intro x hx
          rw [hr] at hx
          have : r' = x := congrArg Addr.block (Option.some.inj hx)
          subst this
          rintro (e | e)
          · exact nlr e.symm
          · exact M1.hW.ne hrb (by decide) e.symm
      · intro q hq
        rw [hLlen] at hq
        rw [hLget q hq]
        by_cases e : q = p
        · subst e; rw [if_pos rfl]; exact x5.blk hla4 nlW
        · rw [if_neg e]
          have hq2 : q < (w.ct j).length := by omega
          have hbq : Blk h1 ((w.ct j).getD q 0) 65 (tc (tm ((w.ct j).getD q 0)) (lvl j) q) := M1.tms j hj q hq2
          refine x15.blk hbq ?_
          rintro (e2 | e2 | e2)
          · exact hbq.ne hrb (by decide) e2
          · have := (M.nd j j q k hj hj hq2 (by omega) (e2.trans hla.symm)).2; omega
          · exact hbq.ne M1.hW (by decide) e2
      · exact pm.nodup_iff.2 ((M.nodup hj).erase _)
      · intro x hx k' hk' hne hx2
        exact hne (M.one hk' hj hx2 (subL x hx))
      · intro k' hk' hne x hx
        obtain ⟨pl, hbx⟩ := M1.tblk hk' hx
        rintro (e | e | e)
        · exact hbx.ne hrb (by decide) e
        · subst e; exact hne (M.one hk' hj hx lastm)
        · exact hbx.ne M1.hW (by decide) e
      · intro k' hk' hne x hx
        obtain ⟨l, hbx⟩ := M1.rblk hk' hx
        rintro (e | e | e)
        · subst e; exact hne (M.rinj _ _ _ hk' hj hx hr')
        · exact hbx.ne hlast1 (by decide) e
        · exact hbx.ne M1.hW (by decide) e
      · intro x hx; left; show (w.rows j).p = _; rw [hr']; exact hx
    refine hK h5 _ M' ⟨rfl, rfl, rfl, hes', rfl⟩ ?_ ?_ ?_ ((x1.mono ?_).then x15 ?_) ?_ ?_
    · intro k hk; simp [fup, hk]
    · simpa [fup] using pm
    · have : ¬ 256 = j := by omega
      simpa [fup, this] using hheap
    · rintro x o _ e; exact .inr (.inl e)
    · rintro x o _ (e | e | e)
      · subst e; exact .inr (.inr (.inl ⟨j, hj, hr'⟩))
      · subst e; exact .inr (.inr (.inr ⟨j, hj, lastm⟩))
      · exact .inl e
    · rintro x (e | e | ⟨k', hk', e⟩ | ⟨k', hk', e⟩)
      · exact .inl e
      · exact .inr (.inl e)
      · simp only [fup] at e
        by_cases hk2 : k' = j
        · simp only [hk2, if_true] at e; exact .inr (.inr (.inl ⟨j, by omega, hr'.trans e⟩))
        · simp only [hk2, if_false] at e; exact .inr (.inr (.inl ⟨k', hk', e⟩))
      · simp only [fup] at e
        by_cases hk2 : k' = j
        · simp only [hk2, if_true] at e; exact .inr (.inr (.inr ⟨j, by omega, subL x e⟩))
        · simp only [hk2, if_false] at e; exact .inr (.inr (.inr ⟨k', hk', e⟩))
    · by_cases e : b = la
      · subst e; exact ⟨_, _, x5.blk hla4 nlW⟩
      · refine ⟨_, _, x15.blk hb1 ?_⟩
        rintro (e2 | e2 | e2)
        · exact nbr e2
        · exact e e2
        · exact hb1.ne M1.hW (by decide) e2

end Go.Proofs.Ytfnlldbaplakoaa
