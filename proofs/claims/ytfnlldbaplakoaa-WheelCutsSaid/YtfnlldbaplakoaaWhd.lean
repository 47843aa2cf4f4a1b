/-
  Two wheels side by side; one way in steps; the law's function WheelCuts.
-/
import Derived.Test.YtfnlldbaplakoaaWhc
import Derived.Test.YtfnlldbaplakoaaFwc
import Derived.Test.YtfnlldbaplakoaaGen
set_option linter.unusedSimpArgs false
set_option linter.unusedVariables false
namespace Go.Proofs.Ytfnlldbaplakoaa
open Go Go.Hw

theorem Whl.nowle {h : Hp} {W : Nat} {a : St} {F : Nat → Prop} (H : Whl h W a F) : a.now ≤ MaxT ∧ 0 ≤ a.last ∧ a.ts.length ≤ 1024 := by
  obtain ⟨tm, w, bl, H, e1, e2, e3, rfl⟩ := H
  exact ⟨by rw [e1]; exact H.n1, by rw [e2]; exact H.l0, by rw [e3, List.length_map]; exact H.len⟩

structure Two (h0 h : Hp) (W1 W2 : Nat) (a1 a2 : St) (F1 F2 : Nat → Prop) : Prop where
  A : Whl h W1 a1 F1
  B : Whl h W2 a2 F2
  d : ∀ x, F1 x → ¬ F2 x
  f1 : ∀ x, F1 x → h0 x = none
  f2 : ∀ x, F2 x → h0 x = none
  x : Ext none' h0 h
theorem Two.stepA {h0 h h' : Hp} {W1 W2 : Nat} {a1 a2 a' : St} {F1 F2 F' : Nat → Prop} (T : Two h0 h W1 W2 a1 a2 F1 F2) (H : Whl h' W1 a' F') (e : Ext F1 h h') (fp : ∀ x, F' x → F1 x ∨ h x = none) : Two h0 h' W1 W2 a' a2 F' F2 := by
  refine ⟨H, T.B.ext e (fun x hx h1 => T.d x h1 hx), ?_, fresh1 T.x T.f1 fp, T.f2, frame1 T.x T.f1 e⟩
  intro x hx h2
  rcases fp x hx with e1 | e1
  · exact T.d x e1 h2
  · exact T.B.there x h2 e1
theorem Two.stepB {h0 h h' : Hp} {W1 W2 : Nat} {a1 a2 a' : St} {F1 F2 F' : Nat → Prop} (T : Two h0 h W1 W2 a1 a2 F1 F2) (H : Whl h' W2 a' F') (e : Ext F2 h h') (fp : ∀ x, F' x → F2 x ∨ h x = none) : Two h0 h' W1 W2 a1 a' F1 F' := by
  refine ⟨T.A.ext e (fun x hx h1 => T.d x hx h1), H, ?_, T.f1, fresh1 T.x T.f2 fp, frame1 T.x T.f2 e⟩
  intro x hx h2
  rcases fp x h2 with e1 | e1
  · exact T.d x hx e1
  · exact T.A.there x hx e1
theorem Two.ext {h0 h h' : Hp} {W1 W2 : Nat} {a1 a2 : St} {F1 F2 : Nat → Prop} (T : Two h0 h W1 W2 a1 a2 F1 F2) (e : Ext none' h h') : Two h0 h' W1 W2 a1 a2 F1 F2 :=
  ⟨T.A.ext e (fun _ _ e => e), T.B.ext e (fun _ _ e => e), T.d, T.f1, T.f2, T.x.trans e⟩

/-! ### one way in steps -/
theorem filter_lt {ts : List Tm} {t : Tm} (h : t ∈ ts) : (ts.filter (fun x => x.id != t.id)).length < ts.length := by
  have := any_filter (l := ts) (id := t.id)
  have h2 : ts.any (fun x => t.id == x.id) = true := by rw [List.any_eq_true]; exact ⟨t, h, by simp⟩
  rw [h2] at this
  simp only [decide_eq_true_eq] at this
  omega
theorem fire_fuel {to : Int} : ∀ {n m : Nat} {ts : List Tm}, ts.length ≤ n → ts.length ≤ m → fire to n ts = fire to m ts := by
  intro n
  induction n with
  | zero =>
    intro m ts h1 h2
    have : ts = [] := List.length_eq_zero_iff.1 (by omega)
    subst this
    cases m <;> rfl
  | succ n ih =>
    intro m ts h1 h2
    cases m with
    | zero =>
      have : ts = [] := List.length_eq_zero_iff.1 (by omega)
      subst this; rfl
    | succ m =>
      simp only [fire]
      split
      · rename_i t ht
        have := filter_lt (first_in ht)
        rw [ih (m := m) (by omega) (by omega)]
      · rfl
theorem fire_len {to : Int} : ∀ {n : Nat} {ts : List Tm}, (fire to n ts).1.length ≤ n ∧ (fire to n ts).2.length ≤ ts.length := by
  intro n
  induction n with
  | zero => intro ts; exact ⟨Nat.le_refl _, Nat.le_refl _⟩
  | succ n ih =>
    intro ts
    simp only [fire]
    split
    · rename_i t ht
      split
      · have := ih (ts := ts.filter (fun x => x.id != t.id))
        have h2 := List.length_filter_le (fun x : Tm => x.id != t.id) ts
        simp only [List.length_cons]; omega
      · simp
    · simp
theorem fire_two {s t : Int} (hst : s ≤ t) : ∀ {n m : Nat} {ts : List Tm}, ts.length ≤ n → (fire s n ts).2.length ≤ m →
    fire t n ts = ((fire s n ts).1 ++ (fire t m (fire s n ts).2).1, (fire t m (fire s n ts).2).2) := by
  intro n
  induction n with
  | zero =>
    intro m ts h1 h2
    have : ts = [] := List.length_eq_zero_iff.1 (by omega)
    subst this
    cases m <;> rfl
  | succ n ih =>
    intro m ts h1 h2
    by_cases hq : ∃ u, first ts = some u ∧ u.tim ≤ s
    · obtain ⟨u, hu, hus⟩ := hq
      have hl := filter_lt (first_in hu)
      rw [fire_cut hu hus] at h2 ⊢
      rw [fire_cut hu (show u.tim ≤ t by omega)]
      rw [ih (m := m) (by omega) h2]
      rfl
    · have he : fire s (n + 1) ts = ([], ts) := fire_end (fun u hu h => hq ⟨u, hu, h⟩)
      rw [he] at h2 ⊢
      rw [fire_fuel h1 h2]; rfl
theorem clamp_two {now s t : Int} (hn : now ≤ MaxT) (hst : s ≤ t) : clampT (clampT now s) t = clampT now t := by
  unfold clampT MaxT at *
  repeat' split
  all_goals omega
theorem clamp_mono {now s t : Int} (hst : s ≤ t) : clampT now s ≤ clampT now t ∨ MaxT < now := by
  unfold clampT MaxT at *
  repeat' split
  all_goals omega
theorem adv_two {a : St} {s t : Int} (hn : a.now ≤ MaxT) (hst : s ≤ t) : (advTs a t).1 = (advTs a s).1 ++ (advTs (advanced a s) t).1 ∧ advanced (advanced a s) t = advanced a t := by
  have hc := clamp_two (t := t) hn hst
  have hm : clampT a.now s ≤ clampT a.now t := by rcases clamp_mono (now := a.now) hst with h | h <;> omega
  have e := fire_two hm (n := a.ts.length) (m := (advTs a s).2.length) (ts := a.ts) (Nat.le_refl _) (Nat.le_refl _)
  have e' : advTs (advanced a s) t = fire (clampT a.now t) (advTs a s).2.length (advTs a s).2 := by
    unfold advTs advanced
    simp only [hc]; rfl
  refine ⟨?_, ?_⟩
  · rw [e']; exact congrArg Prod.fst e
  · have : (advanced (advanced a s) t).ts = (advanced a t).ts := by
      show (advTs (advanced a s) t).2 = (advTs a t).2
      rw [e']; exact (congrArg Prod.snd e).symm
    unfold advanced at this ⊢
    simp only [hc] at this ⊢
    rw [this]

theorem appN {s s2 : Sl} {vs : List Value} {l : List Tm} {h : Hp} {F : Sl → Hp → Prop} (ho : Own h 44 3 s vs) (hb : Own h 44 3 s2 (frs l)) (hlen : s.n + s2.n ≤ 1099511627776)
    (hF : ∀ s' h', Own h' 44 3 s' (vs ++ frs l) → s'.n = s.n + s2.n → Ext (fun b => s.p = some (bk b)) h h' → (∀ b, s'.p = some (bk b) → s.p = some (bk b) ∨ h b = none) → F s' h') :
    apK Try.prog 44 s (.slice s2.p s2.n s2.c) h F := by
  refine apK_own (n := s2.n) (ns := frs l) ho p44a p44z (fun _ => rfl) ?_ hb.1 ?_ (by rw [p44b]; omega) hF
  · intro G hG
    refine srcK_own hb (Nat.le_refl _) ?_
    rw [← hb.1, List.take_length]; exact hG
  · intro v hv
    obtain ⟨t, _, ht⟩ := List.mem_flatMap.1 hv
    simp [frc] at ht
    rcases ht with rfl | rfl | rfl <;> rfl

end Go.Proofs.Ytfnlldbaplakoaa

/-
  The law's function WheelCuts.
-/
set_option linter.unusedSimpArgs false
set_option linter.unusedVariables false
namespace Go.Proofs.Ytfnlldbaplakoaa
open Go Go.Hw

theorem cuts_j1 {s0 s1 : Sl} {to i : Int} {h0 h : Hp} {W1 W2 b0 : Nat} {a : St} {F1 F2 : Nat → Prop} {n0 n1 n2 : Int} {Kn : Hp → Prop} {Kr : Bool → Hp → Prop} (T : Two h0 h W1 W2 a a F1 F2)
    (hb : Blk h b0 34 [.int .i64 n0, .int .i64 n1, .int .i64 n2]) (g1 : ¬ F1 b0) (g2 : ¬ F2 b0)
    (hK : ∀ h' a' F1' F2', Two h0 h' W1 W2 a' a' F1' F2' → a'.last = a.last → Kn h') : N6_j1 s0 s1 to (some (bk W1)) (some (bk W2)) i (some (bk b0)) h Kn Kr := by
  unfold N6_j1
  have c0 : cell h (bk b0) = some (.int .i64 n0) := by rw [hb.cell]; rfl
  simp only [nn_some', c0, xI_some]
  cases hq : (n0 == 3) with
  | false => rw [cond_false]; exact hK h a F1 F2 T rfl
  | true =>
    rw [cond_true]
    simp only [add_bk, hb.cell, List.getElem?_cons_succ, List.getElem?_cons_zero, xI_some]
    refine c14' T.A ?_
    intro h1 F1' s H1 own1 fr1 e1 p1
    have T1 := T.stepA H1 e1 p1
    have hb1 := e1.blk hb g1
    simp only [hb1.cell, List.getElem?_cons_succ, List.getElem?_cons_zero, xI_some]
    refine c14' T1.B ?_
    intro h2 F2' s2 H2 own2 fr2 e2 p2
    have T2 := T1.stepB H2 e2 p2
    have own1' : Own h2 44 3 s (frs (advTs a n1).1) := by
      refine own1.ext e2 ?_
      intro x hx hx2
      rcases (fr1 x hx).2 with e | e
      · exact T.d x e hx2
      · exact T.B.there x hx2 e
    have hl := fire_len (to := clampT a.now n1) (n := a.ts.length) (ts := a.ts)
    have := T.A.nowle
    refine c18' own1' own2 (by unfold advTs; omega) ?_
    simp only [Bool.not_true, cond_false]
    exact hK h2 _ _ _ T2 rfl

theorem c6' {s0 s1 : Sl} {ahead : List (Int × Int × Int)} {stops : List Int} {to : Int} {h : Hp} {K : Bool → Hp → Prop} (h0 : Trips h s0 ahead) (h1 : Ints h s1 stops) (hl0 : ahead.length < 4611686018427387904) (hl1 : stops.length < 4611686018427387904)
    (hK : ∀ h', Ext none' h h' → K true h') : C6 s0 s1 to h K := by
  apply S6; unfold N6
  refine c7' ?_
  intro ha xa
  refine c8' ?_
  intro W1 hb F1 A1 xb f1
  refine c8' ?_
  intro W2 hc F2 B1 xc f2
  have T : Two h hc W1 W2 ⟨0, 0, []⟩ ⟨0, 0, []⟩ F1 F2 := by
    refine ⟨A1.ext xc (fun _ _ e => e), B1, fun x hx hx2 => A1.there x hx (f2 x hx2), fun x hx => none_of xa (f1 x hx), fun x hx => none_of (xa.trans xb) (f2 x hx), (xa.trans xb).trans xc⟩
  simp only [Bool.not_true, cond_false, peq_none, Option.isNone_some]
  unfold N6_l0
  refine loopP_inv (fun (x : Int) hd => ∃ (i : Nat) (a : St) (F1 F2 : Nat → Prop), x = i ∧ i ≤ ahead.length ∧ Two h hd W1 W2 a a F1 F2 ∧ a.last ≤ i) (fun x _ => ahead.length - x.toNat) ?_ ⟨0, _, F1, F2, rfl, Nat.zero_le _, T, by decide⟩
  clear T A1 B1 xb f1 xc f2 xa
  rintro x hd ⟨i, a, F1, F2, rfl, hi, T, hlast⟩
  have S0 := h0.ext T.x
  have S1 := h1.ext T.x
  unfold N6_l0_B N6_l0_b
  by_cases hi2 : i < ahead.length
  · have : decide ((i : Int) < ((s0.n : Nat) : Int)) = true := by rw [S0.1]; simp; omega
    rw [this, cond_true]
    refine idx_of (by omega) (by rw [S0.1]; omega) ?_
    obtain ⟨ad, hp, d0, d1, d2⟩ := S0.2 i ahead[i] (List.getElem?_eq_getElem hi2)
    rw [hp]
    simp only [nn_some', Int.toNat_natCast, d0, d1, d2, xI_some]
    intro b0 e0
    have y0 : Ext none' hd (upd hd b0 (.cells ⟨[.int .i64 0, .int .i64 0, .int .i64 0]⟩ 34)) := Ext.new e0
    have hb0 : Blk (upd hd b0 (.cells ⟨[.int .i64 0, .int .i64 0, .int .i64 0]⟩ 34)) b0 34 [.int .i64 0, .int .i64 0, .int .i64 0] := Blk.upd_same
    have hn0 : h b0 = none := none_of T.x e0
    have g1 : ¬ F1 b0 := fun hx => T.A.there _ hx e0
    have g2 : ¬ F2 b0 := fun hx => T.B.there _ hx e0
    revert y0 hb0
    generalize upd hd b0 _ = h2
    intro y0 hb0
    have keep : ∀ {hh : Hp} {o : Obj}, Ext (fun x => x = b0) hh (upd hh b0 o) := Ext.upd rfl
    -- three stores into the copy
    have three : ∀ (G : Hp → Prop), (∀ h5, Two h h5 W1 W2 a a F1 F2 → Blk h5 b0 34 [.int .i64 ahead[i].1, .int .i64 ahead[i].2.1, .int .i64 ahead[i].2.2] → G h5) →
        st h2 (bk b0) (.int .i64 ahead[i].1) fun h3 => st h3 ⟨b0, 1, none⟩ (.int .i64 ahead[i].2.1) fun h4 => st h4 ⟨b0, 2, none⟩ (.int .i64 ahead[i].2.2) fun h5 => G h5 := by
      intro G hG
      have T2 := T.ext y0
      refine hb0.st (by simp) rfl ?_
      refine Blk.upd_same.st (by simp) rfl ?_
      refine Blk.upd_same.st (by simp) rfl ?_
      have e3 : Ext (fun x => x = b0) h2 (upd (upd (upd h2 b0 (.cells ⟨([.int .i64 0, .int .i64 0, .int .i64 0] : List Value).set 0 (.int .i64 ahead[i].1)⟩ 34 (0, 0))) b0
          (.cells ⟨(([.int .i64 0, .int .i64 0, .int .i64 0] : List Value).set 0 (.int .i64 ahead[i].1)).set 1 (.int .i64 ahead[i].2.1)⟩ 34 (0, 0))) b0
          (.cells ⟨((([.int .i64 0, .int .i64 0, .int .i64 0] : List Value).set 0 (.int .i64 ahead[i].1)).set 1 (.int .i64 ahead[i].2.1)).set 2 (.int .i64 ahead[i].2.2)⟩ 34 (0, 0))) := (keep.trans keep).trans keep
      refine hG _ ⟨T2.A.ext e3 (fun x hx e => g1 (e ▸ hx)), T2.B.ext e3 (fun x hx e => g2 (e ▸ hx)), T.d, T.f1, T.f2, ?_⟩ Blk.upd_same
      intro x o ho _
      refine e3 x o (T2.x x o ho (fun e => e)) ?_
      intro e; subst e; rw [hn0] at ho; cases ho
    simp only [add_bk]
    refine three _ ?_
    intro h5 T5 hb5
    have c0 : cell h5 (bk b0) = some (.int .i64 ahead[i].1) := by rw [hb5.cell]; rfl
    have wi : IntKind.wrap .i64 ((i : Int) + 1) = ((i + 1 : Nat) : Int) := by rw [wrap64 (by omega) (by omega)]; omega
    simp only [c0, hb5.cell, List.getElem?_cons_succ, List.getElem?_cons_zero, xI_some, wi]
    cases hq : (ahead[i].1 == 1) with
    | false =>
      rw [cond_false]
      refine cuts_j1 T5 hb5 g1 g2 ?_
      intro h6 a' F1' F2' T6 hla
      exact ⟨⟨i + 1, a', F1', F2', rfl, hi2, T6, by omega⟩, by omega⟩
    | true =>
      rw [cond_true]
      have hn := T5.A.nowle
      refine c12' T5.A (by omega) ?_ ?_
      · intro hfull
        simp only [hb5.cell, List.getElem?_cons_succ, List.getElem?_cons_zero, xI_some]
        refine c12' T5.B (by omega) ?_ (fun hh => absurd hfull (by omega))
        intro _
        simp only [bne_self_eq_false, cond_false]
        refine cuts_j1 T5 hb5 g1 g2 ?_
        intro h6 a' F1' F2' T6 hla
        exact ⟨⟨i + 1, a', F1', F2', rfl, hi2, T6, by omega⟩, by omega⟩
      · intro hfree h6 F1' H6 e6 p6
        have T6 := T5.stepA H6 e6 p6
        have hb6 := e6.blk hb5 g1
        have g1' : ¬ F1' b0 := by
          intro hx
          rcases p6 b0 hx with e | e
          · exact g1 e
          · exact hb5.ne_none e rfl
        simp only [hb6.cell, List.getElem?_cons_succ, List.getElem?_cons_zero, xI_some]
        refine c12' T6.B (by omega) (fun hfull => absurd hfree (by omega)) ?_
        intro _ h7 F2' H7 e7 p7
        have T7 := T6.stepB H7 e7 p7
        have hb7 := e7.blk hb6 g2
        have g2' : ¬ F2' b0 := by
          intro hx
          rcases p7 b0 hx with e | e
          · exact g2 e
          · exact hb6.ne_none e rfl
        simp only [bne_self_eq_false, cond_false]
        refine cuts_j1 T7 hb7 g1' g2' ?_
        intro h8 a' F1'' F2'' T8 hla
        have : (armed a ahead[i].2.1 ahead[i].2.2).last = a.last + 1 := rfl
        exact ⟨⟨i + 1, a', F1'', F2'', rfl, hi2, T8, by omega⟩, by omega⟩
  · have : decide ((i : Int) < ((s0.n : Nat) : Int)) = false := by rw [S0.1]; simp; omega
    rw [this, cond_false]
    clear this
    have hna := T.A.nowle
    have hfl := fire_len (to := clampT a.now to) (n := a.ts.length) (ts := a.ts)
    unfold N6_l2
    refine loopP_inv (fun (x : Sl × Int) he => ∃ (j : Nat) (b : St) (F2 : Nat → Prop) (out : List Tm), x.2 = j ∧ j ≤ stops.length ∧ Two h he W1 W2 a b F1 F2 ∧ Own he 44 3 x.1 (frs out) ∧ (∀ y, x.1.p = some (bk y) → ¬ F1 y ∧ ¬ F2 y ∧ h y = none) ∧
        out ++ (advTs b to).1 = (advTs a to).1 ∧ advanced b to = advanced a to) (fun x _ => stops.length - x.2.toNat) ?_
      ⟨0, a, F2, [], rfl, Nat.zero_le _, T, Own.nil, (by intro y hy; cases hy), rfl, rfl⟩
    clear T S0 S1 hlast hi2 hi
    rintro ⟨l, x⟩ he ⟨j, b, F2, out, hj, hjl, T, hown, hfr, ho1, ho2⟩
    simp only at hj hown hfr
    subst hj
    have S1 := h1.ext T.x
    have hnb := T.B.nowle
    have outl : out.length ≤ 1024 := by
      have := congrArg List.length ho1
      rw [List.length_append] at this
      have h2 : (advTs a to).1.length ≤ a.ts.length := hfl.1
      omega
    have hln := Own44 hown
    -- one step of the second wheel, what comes is laid behind
    have adv : ∀ (t : Int) (G : Sl → Hp → Prop), t ≤ to → (∀ s2 h2 F2', Two h h2 W1 W2 a (advanced b t) F1 F2' → Own h2 44 3 s2 (frs (out ++ (advTs b t).1)) → (∀ y, s2.p = some (bk y) → ¬ F1 y ∧ ¬ F2' y ∧ h y = none) → G s2 h2) →
        C14 (some (bk W2)) t he fun s1 h5 => apK Try.prog 44 l (.slice s1.p s1.n s1.c) h5 fun s2 h6 => G s2 h6 := by
      intro t G ht hG
      refine c14' T.B ?_
      intro h2 F2' s H2 own2 fr2 e2 p2
      have T2 := T.stepB H2 e2 p2
      have ownl : Own h2 44 3 l (frs out) := hown.ext e2 (fun y hy => (hfr y hy).2.1)
      have sl := Own44 own2
      have hf2 := fire_len (to := clampT b.now t) (n := b.ts.length) (ts := b.ts)
      refine appN ownl own2 (by unfold advTs at sl; omega) ?_
      intro s' h3 own3 hn3 e3 row3
      have lnot : ∀ y, l.p = some (bk y) → ¬ F1 y ∧ ¬ F2' y ∧ h y = none := by
        intro y hy
        refine ⟨(hfr y hy).1, ?_, (hfr y hy).2.2⟩
        intro hy2
        rcases p2 y hy2 with e | e
        · exact (hfr y hy).2.1 e
        · obtain ⟨cs, hcs⟩ := Own44_row hown hy; exact hcs.ne_none e rfl
      have T3 : Two h h3 W1 W2 a (advanced b t) F1 F2' := ⟨T2.A.ext e3 (fun y hy e => (lnot y e).1 hy), T2.B.ext e3 (fun y hy e => (lnot y e).2.1 hy), T2.d, T2.f1, T2.f2, by
        intro y o ho _
        refine e3 y o (T2.x y o ho (fun e => e)) ?_
        intro e; rw [(lnot y e).2.2] at ho; cases ho⟩
      refine hG s' h3 F2' T3 ?_ ?_
      · have : frs (out ++ (advTs b t).1) = frs out ++ frs (advTs b t).1 := by simp [frs]
        rw [this]; exact own3
      · intro y hy
        rcases row3 y hy with e | e
        · exact lnot y e
        · exact ⟨fun hx => T2.A.there y hx e, fun hx => T2.B.there y hx e, none_of T2.x e⟩
    unfold N6_l2_B N6_l2_b
    by_cases hj2 : j < stops.length
    · have : decide ((j : Int) < ((s1.n : Nat) : Int)) = true := by rw [S1.1]; simp; omega
      rw [this, cond_true]
      refine idx_of (by omega) (by rw [S1.1]; omega) ?_
      obtain ⟨ad, hp, d0⟩ := S1.2 j stops[j] (List.getElem?_eq_getElem hj2)
      rw [hp]
      have wj : IntKind.wrap .i64 ((j : Int) + 1) = ((j + 1 : Nat) : Int) := by rw [wrap64 (by omega) (by omega)]; omega
      simp only [nn_some', Int.toNat_natCast, d0, xI_some, wj]
      by_cases hle : stops[j] ≤ to
      · have : decide (stops[j] ≤ to) = true := by simpa using hle
        rw [this, cond_true]
        refine idx_of (by omega) (by rw [S1.1]; omega) ?_
        refine adv stops[j] _ hle ?_
        intro s2 h2 F2' T2 own2 fr2
        obtain ⟨q1, q2⟩ := adv_two (t := to) hnb.1 hle
        refine ⟨⟨j + 1, advanced b stops[j], F2', out ++ (advTs b stops[j]).1, rfl, hj2, T2, own2, fr2, ?_, q2.trans ho2⟩, by omega⟩
        rw [List.append_assoc, ← q1]; exact ho1
      · have : decide (stops[j] ≤ to) = false := by simpa using hle
        rw [this, cond_false]
        exact ⟨⟨j + 1, b, F2, out, rfl, hj2, T, hown, hfr, ho1, ho2⟩, by omega⟩
    · have : decide ((j : Int) < ((s1.n : Nat) : Int)) = false := by rw [S1.1]; simp; omega
      rw [this, cond_false]
      refine adv to _ (Int.le_refl _) ?_
      intro s2 h2 F2' T2 own2 fr2
      rw [ho1] at own2
      rw [ho2] at T2
      refine c14' T2.A ?_
      intro h3 F1' s3 H3 own3 fr3 e3 p3
      have T3 := T2.stepA H3 e3 p3
      have own2' : Own h3 44 3 s2 (frs (advTs a to).1) := own2.ext e3 (fun y hy => (fr2 y hy).1)
      refine c18' own3 own2' (by unfold advTs; omega) ?_
      refine c15' T3.A ?_
      intro h4 y4
      have T4 := T3.ext y4
      have fin : ∀ (n0 : Int) (b4 : Bool), (C15 (some (bk W2)) h4 fun n1 b5 h10 =>
          bif true then bif (n0 == n1) then bif (b4 == b5) then C17 (some (bk W1)) h10 fun n2 h11 => C17 (some (bk W2)) h11 fun n3 h12 => bif (n2 == n3) then C16 (some (bk W1)) h12 fun n4 h13 => C16 (some (bk W2)) h13 fun n5 h14 => K (n4 == n5) h14 else K false h12
            else K false h10 else K false h10 else K false h10) ∨ ¬ (match first (advanced a to).ts with | some t => n0 = t.tim ∧ b4 = true | none => n0 = 0 ∧ b4 = false) := by
        intro n0 b4
        by_cases hm : (match first (advanced a to).ts with | some t => n0 = t.tim ∧ b4 = true | none => n0 = 0 ∧ b4 = false)
        · left
          refine c15' T4.B ?_
          intro h5 y5
          have T5 := T4.ext y5
          have rest : C17 (some (bk W1)) h5 fun n2 h11 => C17 (some (bk W2)) h11 fun n3 h12 => bif (n2 == n3) then C16 (some (bk W1)) h12 fun n4 h13 => C16 (some (bk W2)) h13 fun n5 h14 => K (n4 == n5) h14 else K false h12 := by
            refine c17' T5.A ?_
            refine c17' T5.B ?_
            simp only [beq_self_eq_true, cond_true]
            refine c16' T5.A ?_
            refine c16' T5.B ?_
            simp only [beq_self_eq_true]
            exact hK h5 T5.x
          cases hf : first (advanced a to).ts with
          | none =>
            rw [hf] at hm
            obtain ⟨rfl, rfl⟩ := hm
            simp only [beq_self_eq_true, cond_true]; exact rest
          | some u =>
            rw [hf] at hm
            obtain ⟨rfl, rfl⟩ := hm
            simp only [beq_self_eq_true, cond_true]; exact rest
        · exact .inr hm
      cases hf : first (advanced a to).ts with
      | none =>
        have := fin 0 false
        rw [hf] at this
        rcases this with h' | h'
        · exact h'
        · exact absurd ⟨rfl, rfl⟩ h'
      | some u =>
        have := fin u.tim true
        rw [hf] at this
        rcases this with h' | h'
        · exact h'
        · exact absurd ⟨rfl, rfl⟩ h'

end Go.Proofs.Ytfnlldbaplakoaa
