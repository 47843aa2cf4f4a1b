/-
  The document's wheel.
-/
import Derived.Test.YtfnlldbaplakoaaWhb
import Derived.Test.YtfnlldbaplakoaaGen
import Derived.Test.YtfnlldbaplakoaaFwc
import Derived.Test.YtfnlldbaplakoaaRows
import Derived.WalkKit
import Derived.ProofKit
import Derived.OpenShut
set_option linter.unusedSimpArgs false
set_option linter.unusedVariables false
namespace Go.Proofs.Ytfnlldbaplakoaa
open Go Go.Hw

def rl (a : St) (s : Sl) : List Value := [.int .i64 a.now, s.v, .int .i64 a.last]
def Ref (h : Hp) (R : Nat) (a : St) (F : Nat → Prop) : Prop :=
  ∃ s, Blk h R 60 (rl a s) ∧ Own h 44 3 s (frs a.ts) ∧ F = fun x => x = R ∨ s.p = some (bk x)

theorem Own44 {h : Hp} {s : Sl} {l : List Tm} (ho : Own h 44 3 s (frs l)) : s.n = l.length := by
  have := ho.1; rw [frs_len] at this; omega
theorem Own44_get {h : Hp} {s : Sl} {l : List Tm} (ho : Own h 44 3 s (frs l)) {k : Nat} {t : Tm} (hk : l[k]? = some t) :
    ∃ r, s.p = some (bk r) ∧ cell h ⟨r, k * 3, none⟩ = some (.int .i64 t.tim) ∧ cell h ⟨r, k * 3 + 1, none⟩ = some (.int .i64 t.id) ∧ cell h ⟨r, k * 3 + 2, none⟩ = some (.int .i64 t.tag) := by
  obtain ⟨g0, g1, g2⟩ := frs_get hk
  obtain ⟨r, hp, c0⟩ := ho.get g0
  obtain ⟨r1, hp1, c1⟩ := ho.get g1
  obtain ⟨r2, hp2, c2⟩ := ho.get g2
  have e1 : r1 = r := by rw [hp] at hp1; exact (congrArg Addr.block (Option.some.inj hp1)).symm
  have e2 : r2 = r := by rw [hp] at hp2; exact (congrArg Addr.block (Option.some.inj hp2)).symm
  subst e1; subst e2
  exact ⟨_, hp, c0, c1, c2⟩
theorem Own44_row {h : Hp} {s : Sl} {vs : List Value} (ho : Own h 44 3 s vs) {x : Nat} (hx : s.p = some (bk x)) : ∃ l, Blk h x 44 l := by
  have := ho.2.2
  rw [hx] at this
  obtain ⟨_, cs, hb, _⟩ := this
  exact ⟨cs, hb⟩
theorem Ref.ext {S : Nat → Prop} {h h' : Hp} {R : Nat} {a : St} {F : Nat → Prop} (H : Ref h R a F) (he : Ext S h h') (hs : ∀ x, F x → ¬ S x) : Ref h' R a F := by
  obtain ⟨s, hb, ho, rfl⟩ := H
  exact ⟨s, he.blk hb (hs _ (.inl rfl)), ho.ext he (fun x hx => hs x (.inr hx)), rfl⟩
theorem blk_there {h : Hp} {b : Nat} {T : TypeId} {l : List Value} (hb : Blk h b T l) : h b ≠ none := by
  unfold Blk at hb; rw [hb]; intro e; cases e
theorem Ref.there {h : Hp} {R : Nat} {a : St} {F : Nat → Prop} (H : Ref h R a F) : ∀ x, F x → h x ≠ none := by
  obtain ⟨s, hb, ho, rfl⟩ := H
  rintro x (rfl | e)
  · exact blk_there hb
  · obtain ⟨l, hl⟩ := Own44_row ho e; exact blk_there hl

theorem c9' {h : Hp} {K : Option Addr → Hp → Prop} (hK : ∀ R h' F', Ref h' R ⟨0, 0, []⟩ F' → Ext none' h h' → (∀ x, F' x → h x = none) → K (some (bk R)) h') : C9 h K := by
  apply S9; unfold N9
  intro R eR
  refine hK R _ _ ⟨⟨none, 0, 0⟩, Blk.upd_same, Own.nil, rfl⟩ (Ext.new eR) ?_
  rintro x (rfl | e)
  · exact eR
  · cases e
theorem c33' {R : Nat} {a : St} {s : Sl} {t : Int} {h : Hp} {K : Int → Hp → Prop} (hb : Blk h R 60 (rl a s)) (hK : K (clampT a.now t) h) : C33 (some (bk R)) t h K := by
  apply S33; unfold N33
  have c0 : cell h (bk R) = some (.int .i64 a.now) := by rw [hb.cell]; rfl
  simp only [nn_some', c0, xI_some]
  unfold clampT MaxT at hK
  by_cases h1 : t < a.now
  · have : decide (t < a.now) = true := by simpa using h1
    rw [this, cond_true]; rw [if_pos h1] at hK; exact hK
  · have : decide (t < a.now) = false := by simpa using h1
    rw [this, cond_false]; rw [if_neg h1] at hK
    by_cases h2 : 1125899906842624 < t
    · have : decide (t > 1125899906842624) = true := by simpa using h2
      rw [this, cond_true]; rw [if_pos h2] at hK; exact hK
    · have : decide (t > 1125899906842624) = false := by simp; omega
      rw [this, cond_false]; rw [if_neg h2] at hK; exact hK
theorem c25' {R : Nat} {a : St} {F : Nat → Prop} {h : Hp} {K : Int → Hp → Prop} (H : Ref h R a F) (hK : K a.now h) : C25 (some (bk R)) h K := by
  obtain ⟨s, hb, ho, rfl⟩ := H
  apply S25; unfold N25
  have c0 : cell h (bk R) = some (.int .i64 a.now) := by rw [hb.cell]; rfl
  simp only [nn_some', c0, xI_some]; exact hK
theorem c26' {R : Nat} {a : St} {F : Nat → Prop} {h : Hp} {K : Int → Hp → Prop} (H : Ref h R a F) (hK : K (a.ts.length : Int) h) : C26 (some (bk R)) h K := by
  obtain ⟨s, hb, ho, rfl⟩ := H
  apply S26; unfold N26
  simp only [nn_some', add_bk, hb.cell, rl, List.getElem?_cons_succ, List.getElem?_cons_zero, xL_v, Own44 ho]; exact hK

/-- the place of the first one -/
theorem first_take {ts : List Tm} {i : Nat} {m x : Tm} (h : first (ts.take i) = some m) (hx : ts[i]? = some x) : first (ts.take (i + 1)) = some (pick m x) := by
  have hi : i < ts.length := (List.getElem?_eq_some_iff.1 hx).1
  rw [List.take_succ_eq_append_getElem hi]
  have : ts[i] = x := by rw [List.getElem?_eq_getElem hi] at hx; exact Option.some.inj hx
  rw [this]
  cases hq : ts.take i with
  | nil => rw [hq] at h; simp [first] at h
  | cons a l =>
    rw [hq] at h
    simp only [first, Option.some.injEq] at h
    simp only [List.cons_append, first, List.foldl_append, List.foldl_cons, List.foldl_nil, h]
theorem c34' {R : Nat} {a : St} {s : Sl} {h : Hp} {K : Int → Hp → Prop} (hb : Blk h R 60 (rl a s)) (ho : Own h 44 3 s (frs a.ts)) (hl : a.ts.length < 1099511627776)
    (hN : a.ts = [] → K (-1) h) (hK : ∀ (k : Nat) (t : Tm), a.ts[k]? = some t → first a.ts = some t → K (k : Int) h) : C34 (some (bk R)) h K := by
  apply S34; unfold N34 N34_l0
  have hn := Own44 ho
  have c1 : cell h ⟨R, 1, none⟩ = some s.v := by rw [hb.cell]; rfl
  refine loopP_inv (fun (x : Int × Int) hc => hc = h ∧ ∃ i : Nat, x.2 = i ∧ i ≤ a.ts.length ∧ (i = 0 ∧ x.1 = -1 ∨ ∃ (k : Nat) (t : Tm), x.1 = k ∧ a.ts[k]? = some t ∧ first (a.ts.take i) = some t)) (fun x _ => a.ts.length - x.2.toNat) ?_ ⟨rfl, 0, rfl, Nat.zero_le _, .inl ⟨rfl, rfl⟩⟩
  rintro ⟨kx, ix⟩ hc ⟨rfl, i, hi, hil, hkx⟩
  simp only at hi hkx
  subst hi
  unfold N34_l0_B N34_l0_b
  simp only [nn_some', add_bk, c1, xL_v]
  by_cases hi : i < a.ts.length
  · have : decide ((i : Int) < ((s.n : Nat) : Int)) = true := by rw [hn]; simp; omega
    rw [this, cond_true]
    have wi : IntKind.wrap .i64 ((i : Int) + 1) = ((i + 1 : Nat) : Int) := by rw [wrap64 (by omega) (by omega)]; omega
    have hx : a.ts[i]? = some a.ts[i] := List.getElem?_eq_getElem hi
    rcases hkx with ⟨rfl, rfl⟩ | ⟨k, t, rfl, hk, hf⟩
    · have : decide ((-1 : Int) < 0) = true := rfl
      rw [this, cond_true, wi]
      refine ⟨⟨trivial, 1, rfl, hi, .inr ⟨0, a.ts[0], rfl, hx, ?_⟩⟩, by simp; omega⟩
      rw [List.take_succ_eq_append_getElem hi]; simp [first]
    · have : decide ((k : Int) < 0) = false := by simp
      rw [this, cond_false]
      have hkl := (List.getElem?_eq_some_iff.1 hk).1
      refine idx_of (by omega) (by omega) ?_
      obtain ⟨r, hp, d0, _, _⟩ := Own44_get ho hx
      obtain ⟨r2, hp2, d1, _, _⟩ := Own44_get ho hk
      have er : r2 = r := by rw [hp] at hp2; exact (congrArg Addr.block (Option.some.inj hp2)).symm
      subst er
      rw [hp]
      simp only [nn_some', add_bk, Int.toNat_natCast, d0, xI_some]
      refine idx_of (by omega) (by omega) ?_
      simp only [d1, xI_some, wi]
      have hstep := first_take hf hx
      unfold pick at hstep
      by_cases hlt : a.ts[i].tim < t.tim
      · have : decide (a.ts[i].tim < t.tim) = true := by simpa using hlt
        rw [this, cond_true]
        rw [if_pos hlt] at hstep
        exact ⟨⟨trivial, i + 1, rfl, hi, .inr ⟨i, _, rfl, hx, hstep⟩⟩, by simp; omega⟩
      · have : decide (a.ts[i].tim < t.tim) = false := by simpa using hlt
        rw [this, cond_false]
        rw [if_neg hlt] at hstep
        exact ⟨⟨trivial, i + 1, rfl, hi, .inr ⟨k, _, rfl, hk, hstep⟩⟩, by simp; omega⟩
  · have : decide ((i : Int) < ((s.n : Nat) : Int)) = false := by rw [hn]; simp; omega
    rw [this, cond_false]
    have hie : i = a.ts.length := by omega
    subst hie
    rcases hkx with ⟨h0, rfl⟩ | ⟨k, t, rfl, hk, hf⟩
    · exact hN (List.length_eq_zero_iff.1 h0)
    · rw [List.take_length] at hf; exact hK k t hk hf
theorem c24' {R : Nat} {a : St} {F : Nat → Prop} {h : Hp} {K : Int → Bool → Hp → Prop} (H : Ref h R a F) (hl : a.ts.length < 1099511627776)
    (hK : match first a.ts with | some t => K t.tim true h | none => K 0 false h) : C24 (some (bk R)) h K := by
  obtain ⟨s, hb, ho, rfl⟩ := H
  apply S24; unfold N24
  have c1 : cell h ⟨R, 1, none⟩ = some s.v := by rw [hb.cell]; rfl
  refine c34' hb ho hl ?_ ?_
  · intro e; rw [e] at hK; exact hK
  · intro k t hk hf
    rw [hf] at hK
    have : decide ((k : Int) < 0) = false := by simp
    rw [this, cond_false]
    have hkl := (List.getElem?_eq_some_iff.1 hk).1
    have hn := Own44 ho
    simp only [nn_some', add_bk, c1, xL_v]
    refine idx_of (by omega) (by omega) ?_
    obtain ⟨r, hp, d0, _, _⟩ := Own44_get ho hk
    rw [hp]
    simp only [nn_some', add_bk, Int.toNat_natCast, d0, xI_some]; exact hK

theorem c20' {R : Nat} {t tag : Int} {a : St} {F : Nat → Prop} {h : Hp} {K : Int → Int → Hp → Prop} (H : Ref h R a F) (hlast : a.last < 4611686018427387904) (hlast0 : 0 ≤ a.last)
    (h70 : 1024 ≤ a.ts.length → K 0 70 h)
    (hK : a.ts.length < 1024 → ∀ h' F', Ref h' R (armed a t tag) F' → Ext F h h' → (∀ x, F' x → F x ∨ h x = none) → K (a.last + 1) 0 h') : C20 (some (bk R)) t tag h K := by
  obtain ⟨s, hb, ho, rfl⟩ := H
  apply S20; unfold N20
  have hn := Own44 ho
  have c1 : cell h ⟨R, 1, none⟩ = some s.v := by rw [hb.cell]; rfl
  have c2 : cell h ⟨R, 2, none⟩ = some (.int .i64 a.last) := by rw [hb.cell]; rfl
  simp only [nn_some', add_bk, c1, c2, xL_v, xI_some]
  by_cases hf : 1024 ≤ a.ts.length
  · have : decide (((s.n : Nat) : Int) ≥ 1024) = true := by simp; omega
    rw [this, cond_true]; exact h70 hf
  · have : decide (((s.n : Nat) : Int) ≥ 1024) = false := by simp; omega
    rw [this, cond_false]
    have hK := hK (by omega)
    have wl1 : IntKind.wrap .i64 (a.last + 1) = a.last + 1 := wrap64 (by omega) (by omega)
    rw [wl1]
    refine hb.st (by simp [rl]) rfl ?_
    have ers : (rl a s).set 2 (.int .i64 (a.last + 1)) = rl { a with last := a.last + 1 } s := rfl
    rw [ers]
    have x1 : Ext (fun x => x = R) h (upd h R (.cells ⟨rl { a with last := a.last + 1 } s⟩ 60 (0, 0))) := Ext.upd rfl
    have hb1 : Blk (upd h R (.cells ⟨rl { a with last := a.last + 1 } s⟩ 60 (0, 0))) R 60 (rl { a with last := a.last + 1 } s) := Blk.upd_same
    revert x1 hb1
    generalize upd h R _ = h1
    intro x1 hb1
    refine c33' hb1 ?_
    have c11 : cell h1 ⟨R, 1, none⟩ = some s.v := by rw [hb1.cell]; rfl
    have c12 : cell h1 ⟨R, 2, none⟩ = some (.int .i64 (a.last + 1)) := by rw [hb1.cell]; rfl
    simp only [c11, c12, xL_v, xI_some]
    intro b0 e0
    have x2 : Ext none' h1 (upd h1 b0 (.cells ⟨frc ⟨clampT a.now t, a.last + 1, tag⟩⟩ 44)) := Ext.new e0
    have hb2 : Blk (upd h1 b0 (.cells ⟨frc ⟨clampT a.now t, a.last + 1, tag⟩⟩ 44)) b0 44 (frc ⟨clampT a.now t, a.last + 1, tag⟩) := Blk.upd_same
    change both (xL (cell (upd h1 b0 (.cells ⟨frc ⟨clampT a.now t, a.last + 1, tag⟩⟩ 44)) _) _) (apK Try.prog 44 s (.slice (some (bk b0)) 1 1) (upd h1 b0 (.cells ⟨frc ⟨clampT a.now t, a.last + 1, tag⟩⟩ 44)) _)
    revert x2 hb2
    generalize upd h1 b0 _ = h2
    intro x2 hb2
    have hbR := x2.blk hb1 id
    have c21 : cell h2 ⟨R, 1, none⟩ = some s.v := by rw [hbR.cell]; rfl
    simp only [c21, xL_v, both_only, only_self, true_and]
    have nR : ∀ x, s.p = some (bk x) → ¬ x = R := by
      intro x hx e
      obtain ⟨l, hl⟩ := Own44_row ho hx
      exact hl.ne hb (by decide) e
    have own2 : Own h2 44 3 s (frs a.ts) := (ho.ext x1 nR).ext x2 (fun _ _ => id)
    have hfr : ∀ x, h1 x = none → h x = none := by
      intro x hx
      cases hq : h x with
      | none => rfl
      | some o =>
        by_cases e : x = R
        · subst e; exact (hb1.ne_none hx rfl).elim
        · have := x1 x o hq e; rw [hx] at this; cases this
    have hfr2 : ∀ x, h2 x = none → h x = none := by
      intro x hx
      refine hfr x ?_
      cases hq : h1 x with
      | none => rfl
      | some o => have := x2 x o hq id; rw [hx] at this; cases this
    refine app3 own2 hb2 (by omega) ?_
    intro s' h3 own3 hn3 x3 hrow3
    have hbR3 := x3.blk hbR (fun e => nR R e rfl)
    refine hbR3.st (by simp [rl]) rfl ?_
    have ers : (rl { a with last := a.last + 1 } s).set 1 (.slice s'.p s'.n s'.c) = rl (armed a t tag) s' := rfl
    rw [ers]
    have x4 : Ext (fun x => x = R) h3 (upd h3 R (.cells ⟨rl (armed a t tag) s'⟩ 60 (0, 0))) := Ext.upd rfl
    have hb4 : Blk (upd h3 R (.cells ⟨rl (armed a t tag) s'⟩ 60 (0, 0))) R 60 (rl (armed a t tag) s') := Blk.upd_same
    revert x4 hb4
    generalize upd h3 R _ = h4
    intro x4 hb4
    have c42 : cell h4 ⟨R, 2, none⟩ = some (.int .i64 (a.last + 1)) := by rw [hb4.cell]; rfl
    simp only [c42, xI_some]
    have nR' : ∀ x, s'.p = some (bk x) → ¬ x = R := by
      intro x hx e
      obtain ⟨l, hl⟩ := Own44_row own3 hx
      exact hl.ne hbR3 (by decide) e
    have e5 : frs a.ts ++ frc ⟨clampT a.now t, a.last + 1, tag⟩ = frs (armed a t tag).ts := by simp [frs, armed]
    rw [e5] at own3
    refine hK h4 _ ⟨s', hb4, own3.ext x4 nR', rfl⟩ ?_ ?_
    · refine (((x1.mono (fun x o _ e => .inl e)).then x2 (fun x o _ e => e.elim)).then x3 (fun x o _ e => .inr e)).then x4 (fun x o _ e => .inl e)
    · rintro x (e | e)
      · exact .inl (.inl e)
      · rcases hrow3 x e with e' | e'
        · exact .inl (.inr e')
        · exact .inr (hfr2 x e')

end Go.Proofs.Ytfnlldbaplakoaa

/-
  The document's wheel: Cancel, Advance; two lists alike.
-/
set_option linter.unusedSimpArgs false
set_option linter.unusedVariables false
namespace Go.Proofs.Ytfnlldbaplakoaa
open Go Go.Hw

theorem any_filter {l : List Tm} {id : Int} : decide ((((l.filter (fun x => x.id != id)).length : Nat) : Int) < ((l.length : Nat) : Int)) = l.any (fun x => id == x.id) := by
  induction l with
  | nil => rfl
  | cons a l ih =>
    have hle := List.length_filter_le (fun x : Tm => x.id != id) l
    rw [List.filter_cons, List.any_cons]
    by_cases e : a.id = id
    · have h1 : (a.id != id) = false := by simp [e]
      have h2 : (id == a.id) = true := by simp [e]
      rw [h1, h2]; simp; omega
    · have h1 : (a.id != id) = true := by simp [e]
      have h2 : (id == a.id) = false := by simpa using fun e' : id = a.id => e e'.symm
      rw [h1, h2, ← ih]; simp

theorem c21' {R : Nat} {id : Int} {a : St} {F : Nat → Prop} {h : Hp} {K : Bool → Hp → Prop} (H : Ref h R a F) (hl : a.ts.length < 1099511627776)
    (hK : ∀ h' F', Ref h' R (cancel a id) F' → Ext F h h' → (∀ x, F' x → F x ∨ h x = none) → K (a.ts.any (fun x => id == x.id)) h') : C21 (some (bk R)) id h K := by
  obtain ⟨s, hb, ho, rfl⟩ := H
  apply S21; unfold N21 N21_l0
  have hn := Own44 ho
  refine loopP_inv (fun (x : Sl × Int) hc => ∃ i : Nat, x.2 = i ∧ i ≤ a.ts.length ∧ Own hc 44 3 x.1 (frs ((a.ts.take i).filter (fun x => x.id != id))) ∧ (∀ b, x.1.p = some (bk b) → h b = none) ∧ Ext none' h hc) (fun x _ => a.ts.length - x.2.toNat) ?_
    ⟨0, rfl, Nat.zero_le _, Own.nil, (by intro b hb'; cases hb'), Ext.refl⟩
  rintro ⟨o, ix⟩ hc ⟨i, hi, hil, hown, hfr, hex⟩
  simp only at hi hown hfr
  subst hi
  have hbc := hex.blk hb (fun e => e)
  have c1 : cell hc ⟨R, 1, none⟩ = some s.v := by rw [hbc.cell]; rfl
  have hoc : Own hc 44 3 s (frs a.ts) := ho.ext hex (fun _ _ => fun e => e)
  unfold N21_l0_B N21_l0_b
  simp only [nn_some', add_bk, c1, xL_v]
  by_cases hi : i < a.ts.length
  · have : decide ((i : Int) < ((s.n : Nat) : Int)) = true := by rw [hn]; simp; omega
    rw [this, cond_true]
    have wi : IntKind.wrap .i64 ((i : Int) + 1) = ((i + 1 : Nat) : Int) := by rw [wrap64 (by omega) (by omega)]; omega
    have hx : a.ts[i]? = some a.ts[i] := List.getElem?_eq_getElem hi
    refine idx_of (by omega) (by omega) ?_
    obtain ⟨r, hp, d0, d1, d2⟩ := Own44_get hoc hx
    rw [hp]
    simp only [nn_some', add_bk, add_mk, Nat.zero_add, Int.toNat_natCast, d1, xI_some, wi]
    have htk : (a.ts.take (i + 1)).filter (fun x => x.id != id) = (a.ts.take i).filter (fun x => x.id != id) ++ (if a.ts[i].id != id then [a.ts[i]] else []) := by
      rw [List.take_succ_eq_append_getElem hi, List.filter_append, List.filter_cons, List.filter_nil]
    by_cases e : a.ts[i].id = id
    · have h1 : (a.ts[i].id != id) = false := by simp [e]
      rw [h1, cond_false]
      refine ⟨⟨i + 1, rfl, hi, ?_, hfr, hex⟩, by omega⟩
      rw [htk, h1]; simpa using hown
    · have h1 : (a.ts[i].id != id) = true := by simp [e]
      rw [h1, cond_true]
      refine idx_of (by omega) (by omega) ?_
      simp only [d0, d2, xI_some]
      intro b0 e0
      have x2 : Ext none' hc (upd hc b0 (.cells ⟨frc a.ts[i]⟩ 44)) := Ext.new e0
      have hb2 : Blk (upd hc b0 (.cells ⟨frc a.ts[i]⟩ 44)) b0 44 (frc a.ts[i]) := Blk.upd_same
      change apK Try.prog 44 o (.slice (some (bk b0)) 1 1) (upd hc b0 (.cells ⟨frc a.ts[i]⟩ 44)) _
      revert x2 hb2
      generalize upd hc b0 _ = h2
      intro x2 hb2
      have hol := Own44 hown
      have hfl := List.length_filter_le (fun x : Tm => x.id != id) (a.ts.take i)
      have htl : (a.ts.take i).length ≤ a.ts.length := List.length_take_le' _ _
      refine app3 (hown.ext x2 (fun _ _ => fun e => e)) hb2 (by omega) ?_
      intro s' h3 own3 hn3 x3 hrow3
      refine ⟨⟨i + 1, rfl, hi, ?_, ?_, ?_⟩, by omega⟩
      · rw [htk, h1]
        have : frs (List.filter (fun x => x.id != id) (List.take i a.ts)) ++ frc a.ts[i] = frs (List.filter (fun x => x.id != id) (List.take i a.ts) ++ [a.ts[i]]) := by simp [frs]
        rw [this] at own3; exact own3
      · intro x hx
        rcases hrow3 x hx with e' | e'
        · exact hfr x e'
        · cases hq : h x with
          | none => rfl
          | some o' => have := x2 x o' (hex x o' hq (fun e => e)) (fun e => e); rw [e'] at this; cases this
      · intro x o' ho' _
        refine x3 x o' (x2 x o' (hex x o' ho' (fun e => e)) (fun e => e)) ?_
        intro e'; have := hfr x e'; rw [ho'] at this; cases this
  · have : decide ((i : Int) < ((s.n : Nat) : Int)) = false := by rw [hn]; simp; omega
    rw [this, cond_false]
    have hie : i = a.ts.length := by omega
    subst hie
    rw [List.take_length] at hown
    refine hbc.st (by simp [rl]) rfl ?_
    have ers : (rl a s).set 1 (.slice o.p o.n o.c) = rl (cancel a id) o := rfl
    rw [ers]
    have hol := Own44 hown
    rw [hol, hn, any_filter]
    have nR' : ∀ x, o.p = some (bk x) → ¬ x = R := by
      rintro x hx rfl
      have := hfr x hx
      exact hb.ne_none this rfl
    refine hK _ _ ⟨o, Blk.upd_same, hown.ext (S := fun x => x = R) (Ext.upd rfl) nR', rfl⟩ ?_ ?_
    · exact (hex.mono (fun _ _ _ e => e.elim)).trans (Ext.upd (.inl rfl))
    · rintro x (e | e)
      · exact .inl (.inl e)
      · exact .inr (hfr x e)

theorem fire_cut {to : Int} {n : Nat} {ts : List Tm} {t : Tm} (hf : first ts = some t) (ht : t.tim ≤ to) :
    fire to (n + 1) ts = (t :: (fire to n (ts.filter (fun x => x.id != t.id))).1, (fire to n (ts.filter (fun x => x.id != t.id))).2) := by
  simp only [fire, hf]; rw [if_pos ht]
theorem first_in {ts : List Tm} {t : Tm} (hf : first ts = some t) : t ∈ ts := by
  cases ts with
  | nil => simp [first] at hf
  | cons a l =>
    simp only [first, Option.some.injEq] at hf
    have : ∀ (l : List Tm) (a : Tm), l.foldl pick a ∈ a :: l := by
      intro l
      induction l with
      | nil => intro a; simp
      | cons b l ih =>
        intro a
        rw [List.foldl_cons]
        have h1 := ih (pick a b)
        have h2 : pick a b = a ∨ pick a b = b := by unfold pick; split <;> simp
        rcases List.mem_cons.1 h1 with e | e
        · rw [e]; rcases h2 with e' | e' <;> rw [e'] <;> simp
        · exact List.mem_cons_of_mem _ (List.mem_cons_of_mem _ e)
    rw [← hf]; exact this l a

theorem c22' {R : Nat} {t : Int} {a : St} {F : Nat → Prop} {h : Hp} {K : Sl → Hp → Prop} (H : Ref h R a F) (hl : a.ts.length < 1099511627776)
    (hK : ∀ h' F' s, Ref h' R (advanced a t) F' → Own h' 44 3 s (frs (advTs a t).1) → (∀ x, s.p = some (bk x) → ¬ F' x ∧ (F x ∨ h x = none)) → Ext F h h' → (∀ x, F' x → F x ∨ h x = none) → K s h') : C22 (some (bk R)) t h K := by
  have H0 := H
  obtain ⟨s0, hb, ho, rfl⟩ := H
  apply S22; unfold N22
  refine c33' hb ?_
  simp only [nn_some']
  refine hb.st (by simp [rl]) rfl ?_
  have ers : (rl a s0).set 0 (.int .i64 (clampT a.now t)) = rl { a with now := clampT a.now t } s0 := rfl
  rw [ers]
  have nR : ∀ x, s0.p = some (bk x) → ¬ x = R := by
    rintro x hx rfl
    obtain ⟨l, hl⟩ := Own44_row ho hx
    exact hl.ne hb (by decide) rfl
  have x1 : Ext (fun x => x = R) h (upd h R (.cells ⟨rl { a with now := clampT a.now t } s0⟩ 60 (0, 0))) := Ext.upd rfl
  have H1 : Ref (upd h R (.cells ⟨rl { a with now := clampT a.now t } s0⟩ 60 (0, 0))) R { a with now := clampT a.now t } (fun x => x = R ∨ s0.p = some (bk x)) := ⟨s0, Blk.upd_same, ho.ext x1 nR, rfl⟩
  revert x1 H1
  generalize upd h R _ = h1
  intro x1 H1
  have x1' : Ext (fun x => x = R ∨ s0.p = some (bk x)) h h1 := x1.mono (fun x o _ e => .inl e)
  unfold advanced advTs at hK
  generalize clampT a.now t = to at *
  unfold N22_l0
  refine loopP_inv (fun (s : Sl) hc => ∃ cur n out Fc, Ref hc R ⟨to, a.last, cur⟩ Fc ∧ cur.length ≤ n ∧ Own hc 44 3 s (frs out) ∧ (∀ x, s.p = some (bk x) → ¬ Fc x ∧ ((x = R ∨ s0.p = some (bk x)) ∨ h x = none)) ∧
      Ext (fun x => x = R ∨ s0.p = some (bk x)) h hc ∧ (∀ x, Fc x → (x = R ∨ s0.p = some (bk x)) ∨ h x = none) ∧ s.n + cur.length ≤ a.ts.length ∧
      out ++ (fire to n cur).1 = (fire to a.ts.length a.ts).1 ∧ (fire to n cur).2 = (fire to a.ts.length a.ts).2) (fun s _ => a.ts.length - s.n) ?_
    ⟨a.ts, a.ts.length, [], _, H1, Nat.le_refl _, Own.nil, (by intro x hx; cases hx), x1', (fun x hx => .inl hx), (by simp), by simp, rfl⟩
  rintro s hc ⟨cur, n, out, Fc, Hc, hcn, hown, hfr, hex, hfp, hn, hf1, hf2⟩
  have stop : (∀ u, first cur = some u → ¬ u.tim ≤ to) → K s hc := by
    intro hs
    rw [fire_end hs] at hf1 hf2
    rw [List.append_nil] at hf1
    refine hK hc Fc s ?_ (by rw [← hf1]; exact hown) hfr hex hfp
    rw [← hf2]; exact Hc
  have Hc0 := Hc
  obtain ⟨sc, hbc, hoc, rfl⟩ := Hc
  unfold N22_l0_B N22_l0_b
  have hln : cur.length < 1099511627776 := by omega
  refine c34' hbc hoc hln ?_ ?_
  · intro e
    have e' : cur = [] := e
    have : decide ((-1 : Int) < 0) = true := rfl
    rw [this, cond_true]
    refine stop ?_
    intro u hu; rw [e'] at hu; simp [first] at hu
  · intro k u hk hfu
    have hk : cur[k]? = some u := hk
    have hfu : first cur = some u := hfu
    have : decide ((k : Int) < 0) = false := by simp
    rw [this, cond_false]
    have c1 : cell hc ⟨R, 1, none⟩ = some sc.v := by rw [hbc.cell]; rfl
    have c0 : cell hc (bk R) = some (.int .i64 to) := by rw [hbc.cell]; rfl
    have hkl := (List.getElem?_eq_some_iff.1 hk).1
    have hnc : sc.n = cur.length := Own44 hoc
    simp only [nn_some', add_bk, c1, xL_v]
    refine idx_of (by omega) (by omega) ?_
    obtain ⟨r, hp, d0, d1, d2⟩ := Own44_get (l := cur) hoc hk
    rw [hp]
    simp only [nn_some', add_bk, add_mk, Nat.zero_add, Int.toNat_natCast, d0, xI_some, c0]
    by_cases hle : u.tim ≤ to
    · have : decide (u.tim > to) = false := by simp; omega
      rw [this, cond_false]
      refine idx_of (by omega) (by omega) ?_
      simp only [d0, d1, d2, xI_some]
      intro b0 e0
      have x2 : Ext none' hc (upd hc b0 (.cells ⟨frc u⟩ 44)) := Ext.new e0
      have hb2 : Blk (upd hc b0 (.cells ⟨frc u⟩ 44)) b0 44 (frc u) := Blk.upd_same
      change apK Try.prog 44 s (.slice (some (bk b0)) 1 1) (upd hc b0 (.cells ⟨frc u⟩ 44)) _
      revert x2 hb2
      generalize upd hc b0 _ = h2
      intro x2 hb2
      have hns := Own44 hown
      refine app3 (hown.ext x2 (fun _ _ => fun e => e)) hb2 (by omega) ?_
      intro s' h3 own3 hn3 x3 hrow3
      have H3 : Ref h3 R ⟨to, a.last, cur⟩ (fun x => x = R ∨ sc.p = some (bk x)) := (Hc0.ext x2 (fun _ _ e => e)).ext x3 (fun x hx e => (hfr x e).1 hx)
      have hb3 := x3.blk (x2.blk hbc id) (fun e => (hfr R e).1 (.inl rfl))
      have c31 : cell h3 ⟨R, 1, none⟩ = some sc.v := by rw [hb3.cell]; rfl
      have own3c : Own h3 44 3 sc (frs cur) := (hoc.ext x2 (fun _ _ e => e)).ext x3 (fun x hx e => (hfr x e).1 (.inr hx))
      simp only [c31, xL_v]
      refine idx_of (by omega) (by omega) ?_
      obtain ⟨r3, hp3, _, d13, _⟩ := Own44_get (l := cur) own3c hk
      rw [hp3]
      simp only [nn_some', add_bk, add_mk, Nat.zero_add, Int.toNat_natCast, d13, xI_some]
      have lenf : (cur.filter (fun x => x.id != u.id)).length + 1 ≤ cur.length := by
        have := any_filter (l := cur) (id := u.id)
        have h2 : cur.any (fun x => u.id == x.id) = true := by rw [List.any_eq_true]; exact ⟨u, first_in hfu, by simp⟩
        rw [h2] at this
        simp only [decide_eq_true_eq] at this
        omega
      have hex3 : ∀ x o, h x = some o → ¬ (x = R ∨ s0.p = some (bk x)) → h3 x = some o := by
        intro x o ho' hn'
        refine x3 x o (x2 x o (hex x o ho' hn') id) ?_
        intro e
        rcases (hfr x e).2 with e' | e'
        · exact hn' e'
        · rw [ho'] at e'; cases e'
      have hfr3 : ∀ x, s'.p = some (bk x) → ((x = R ∨ s0.p = some (bk x)) ∨ h x = none) ∧ ¬ (x = R ∨ sc.p = some (bk x)) := by
        intro x hx
        rcases hrow3 x hx with e | e
        · exact ⟨(hfr x e).2, (hfr x e).1⟩
        · have n2 : ¬ (x = R ∨ sc.p = some (bk x)) := fun hx' => (Hc0.ext x2 (fun _ _ e => e)).there x hx' e
          refine ⟨?_, n2⟩
          by_cases hfx : (x = R ∨ s0.p = some (bk x))
          · exact .inl hfx
          · right
            cases hq : h x with
            | none => rfl
            | some o => have := x2 x o (hex x o hq hfx) id; rw [e] at this; cases this
      refine c21' H3 hln ?_
      intro h4 F4 H4 x4 fp4
      obtain ⟨m, rfl⟩ : ∃ m, n = m + 1 := ⟨n - 1, by omega⟩
      rw [fire_cut hfu hle] at hf1 hf2
      refine ⟨⟨cur.filter (fun x => x.id != u.id), m, out ++ [u], F4, H4, by omega, ?_, ?_, ?_, ?_, by omega, ?_, hf2⟩, by omega⟩
      · have e5 : frs out ++ frc u = frs (out ++ [u]) := by simp [frs]
        rw [e5] at own3
        exact own3.ext x4 (fun x hx => (hfr3 x hx).2)
      · intro x hx
        refine ⟨?_, (hfr3 x hx).1⟩
        intro hx4
        rcases fp4 x hx4 with e | e
        · exact (hfr3 x hx).2 e
        · obtain ⟨l, hl⟩ := Own44_row own3 hx
          exact hl.ne_none e rfl
      · intro x o ho' hn'
        refine x4 x o (hex3 x o ho' hn') ?_
        intro e
        rcases hfp x e with e' | e'
        · exact hn' e'
        · rw [ho'] at e'; cases e'
      · intro x hx
        rcases fp4 x hx with e | e
        · exact hfp x e
        · by_cases hfx : (x = R ∨ s0.p = some (bk x))
          · exact .inl hfx
          · right
            cases hq : h x with
            | none => rfl
            | some o => have := hex3 x o hq hfx; rw [e] at this; cases this
      · rw [← hf1]; simp
    · have : decide (u.tim > to) = true := by simp; omega
      rw [this, cond_true]
      refine stop ?_
      intro u' hu'
      rw [hfu] at hu'
      simp only [Option.some.injEq] at hu'
      subst hu'; exact hle

/-- two lists that are alike -/
theorem c18' {s1 s2 : Sl} {l : List Tm} {h : Hp} {K : Bool → Hp → Prop} (h1 : Own h 44 3 s1 (frs l)) (h2 : Own h 44 3 s2 (frs l)) (hl : l.length < 1099511627776) (hK : K true h) : C18 s1 s2 h K := by
  apply S18; unfold N18
  have n1 := Own44 h1
  have n2 := Own44 h2
  have : (((s1.n : Nat) : Int) != ((s2.n : Nat) : Int)) = false := by rw [n1, n2]; simp
  rw [this, cond_false]
  unfold N18_l0
  refine loopP_inv (fun (x : Int) hc => hc = h ∧ ∃ i : Nat, x = i ∧ i ≤ l.length) (fun x _ => l.length - x.toNat) ?_ ⟨rfl, 0, rfl, Nat.zero_le _⟩
  rintro x hc ⟨rfl, i, rfl, hil⟩
  unfold N18_l0_B N18_l0_b
  by_cases hi : i < l.length
  · have : decide ((i : Int) < ((s1.n : Nat) : Int)) = true := by rw [n1]; simp; omega
    rw [this, cond_true]
    refine idx_of (by omega) (by omega) ?_
    have hx : l[i]? = some l[i] := List.getElem?_eq_getElem hi
    obtain ⟨r, hp, d0, d1, d2⟩ := Own44_get h1 hx
    obtain ⟨r', hp', d0', d1', d2'⟩ := Own44_get h2 hx
    rw [hp, hp']
    simp only [nn_some', add_bk, add_mk, Nat.zero_add, Int.toNat_natCast, d0, d1, d2, xI_some]
    refine idx_of (by omega) (by omega) ?_
    simp only [d0', d1', d2', xI_some, beq_self_eq_true, Bool.true_and, Bool.not_true, cond_false]
    have wi : IntKind.wrap .i64 ((i : Int) + 1) = ((i + 1 : Nat) : Int) := by rw [wrap64 (by omega) (by omega)]; omega
    rw [wi]
    exact ⟨⟨trivial, i + 1, rfl, hi⟩, by omega⟩
  · have : decide ((i : Int) < ((s1.n : Nat) : Int)) = false := by rw [n1]; simp; omega
    rw [this, cond_false]
    exact hK

end Go.Proofs.Ytfnlldbaplakoaa

/-
  The law's function live.
-/
set_option linter.unusedSimpArgs false
set_option linter.unusedVariables false
namespace Go.Proofs.Ytfnlldbaplakoaa
open Go Go.Hw

theorem none_of {h h1 : Hp} (hx : Ext none' h h1) {x : Nat} (e : h1 x = none) : h x = none := by
  cases hq : h x with
  | none => rfl
  | some o => have := hx x o hq (fun e => e); rw [e] at this; cases this
theorem frame1 {F : Nat → Prop} {h h1 h2 : Hp} (hx : Ext none' h h1) (hF : ∀ x, F x → h x = none) (e : Ext F h1 h2) : Ext none' h h2 := by
  intro x o ho _
  refine e x o (hx x o ho (fun e => e)) ?_
  intro hf; have := hF x hf; rw [ho] at this; cases this
theorem fresh1 {F F' : Nat → Prop} {h h1 : Hp} (hx : Ext none' h h1) (hF : ∀ x, F x → h x = none) (fp : ∀ x, F' x → F x ∨ h1 x = none) : ∀ x, F' x → h x = none := by
  intro x hx'
  rcases fp x hx' with e | e
  · exact hF x e
  · exact none_of hx e

theorem c7' {h : Hp} {K : Bool → Hp → Prop} (hK : ∀ h', Ext none' h h' → K true h') : C7 h K := by
  apply S7; unfold N7
  refine c8' ?_
  intro W h1 F1 H1 x1 n1
  simp only [peq_none, Option.isNone_some, cond_false]
  refine c15' H1 ?_
  intro h2 y2
  have x2 := x1.trans y2
  have H2 := H1.ext y2 (fun _ _ e => e)
  show C12 _ _ _ _ _
  refine c12' H2 (by decide) (fun h => absurd h (by decide)) ?_
  intro _ h3 F3 H3 y3 n3
  have x3 := frame1 x2 n1 y3
  have m3 := fresh1 x2 n1 n3
  refine c12' H3 (by decide) (fun h => absurd h (by decide)) ?_
  intro _ h4 F4 H4 y4 n4
  have x4 := frame1 x3 m3 y4
  have m4 := fresh1 x3 m3 n4
  refine c15' H4 ?_
  intro h5 y5
  have x5 := x4.trans y5
  have H5 := H4.ext y5 (fun _ _ e => e)
  show C13 _ _ _ _
  refine c13' H5 ?_
  intro h6 F6 H6 y6 n6
  have x6 := frame1 x5 m4 y6
  have m6 := fresh1 x5 m4 (fun x hx => .inl (n6 x hx))
  refine c14' H6 ?_
  intro h7 F7 s H7 own7 fr7 y7 n7
  have x7 := frame1 x6 m6 y7
  intro b0 e0
  have y8 : Ext none' h7 (upd h7 b0 (.cells ⟨frc ⟨5, 2, 50⟩⟩ 44)) := Ext.new e0
  have hb8 : Blk (upd h7 b0 (.cells ⟨frc ⟨5, 2, 50⟩⟩ 44)) b0 44 (frc ⟨5, 2, 50⟩) := Blk.upd_same
  change C18 s ⟨some (bk b0), 1, 1⟩ (upd h7 b0 (.cells ⟨frc ⟨5, 2, 50⟩⟩ 44)) _
  revert y8 hb8
  generalize upd h7 b0 _ = h8
  intro y8 hb8
  have x8 := x7.trans y8
  have H8 := H7.ext y8 (fun _ _ e => e)
  have own8 := own7.ext y8 (fun _ _ e => e)
  have el : (advTs (cancel (armed (armed ⟨0, 0, []⟩ 7 70) 5 50) (((⟨0, 0, []⟩ : St)).last + 1)) 6).1 = [⟨5, 2, 50⟩] := by rfl
  rw [el] at own8
  have ob : Own h8 44 3 ⟨some (bk b0), 1, 1⟩ (frs [⟨5, 2, 50⟩]) := ⟨rfl, Nat.le_refl _, rfl, _, hb8, rfl, rfl⟩
  refine c18' own8 ob (by decide) ?_
  have g1 : ((⟨0, 0, []⟩ : St).last + 1 == 1) = true := rfl
  have g2 : ((armed ⟨0, 0, []⟩ 7 70).last + 1 == 2) = true := rfl
  have g3 : ((List.foldl pick ⟨clampT (⟨0, 0, []⟩ : St).now 7, (⟨0, 0, []⟩ : St).last + 1, 70⟩ ([].append [⟨clampT (armed ⟨0, 0, []⟩ 7 70).now 5, (armed ⟨0, 0, []⟩ 7 70).last + 1, 50⟩])).tim == 5) = true := rfl
  have g4 : ((armed (armed ⟨0, 0, []⟩ 7 70) 5 50).ts.any fun x => (⟨0, 0, []⟩ : St).last + 1 == x.id) = true := rfl
  have g5 : ((0 : Int) == 0) = true := rfl
  rw [g1, g2, g3, g4, g5]
  simp only [Bool.not_false, cond_true]
  refine c17' H8 ?_
  have g6 : ((advanced (cancel (armed (armed ⟨0, 0, []⟩ 7 70) 5 50) ((⟨0, 0, []⟩ : St).last + 1)) 6).now == 6) = true := rfl
  rw [g6, cond_true]
  refine c16' H8 ?_
  exact hK h8 x8

theorem c3' {h : Hp} {K : Bool → Hp → Prop} (hK : ∀ h', Ext none' h h' → K true h') : C3 h K := by
  apply S3; unfold N3
  refine c7' ?_
  intro h' he
  exact hK h' he

end Go.Proofs.Ytfnlldbaplakoaa

/-
  From calls over heaps to the kit's rows.
-/
set_option linter.unusedSimpArgs false
set_option linter.unusedVariables false
namespace Go.Proofs.Ytfnlldbaplakoaa
open Go Go.Hw
open Go.ChangeShapes Go.WideShapes Go.ChangeAt Go.RowKit

section
variable {H : Type} {enc : TypeId × Value → H} {P : Program}
/-- what a call that only makes new blocks leaves -/
theorem post_of_kept {f : Func} {s : ChangeSpec} {apart fresh handsOn : Bool} {W W' : World} {args : Array Value} {v : Value} {ds gs : List (DataW H)} {before pa pv : List MemPlace}
    (hW : DataW.Whole enc P f.params.toList s.vars apart W args.toList ds gs before)
    (hres : ∀ (b : Nat) (sp : Nat → Bool) (hd : Bool), DataW.TrodAll enc P W' b sp hd f.resultTypes.toList (v.resultList f.resultTypes.size) (s.fn H (ds ++ gs)).results [])
    (hargs : ∀ sp : Nat → Bool, (∀ p ∈ before, sp p.block = true) → DataW.TrodAll enc P W' 0 sp true f.params.toList args.toList (s.fn H (ds ++ gs)).args pa)
    (hvars : ∀ sp : Nat → Bool, (∀ p ∈ before, sp p.block = true) → DataW.TrodVars enc P W' sp s.vars (s.fn H (ds ++ gs)).vars pv)
    (hps : before = pa ++ pv) (hk : W.keptBut W' (fun _ => False)) :
    s.post enc P f apart fresh handsOn false W args v W' := by
  have hold : ∀ p ∈ before, (fun b => decide (b < W.heap.size)) p.block = true := fun p hp => by simpa using hW.lt p hp
  refine ⟨ds, gs, before, [], pa, pv, hW, hres _ _ _, hargs _ hold, hvars _ hold, World.keptBut_mono (fun p hp => hp.elim) hk, fun h => ?_⟩
  cases h
end

end Go.Proofs.Ytfnlldbaplakoaa
