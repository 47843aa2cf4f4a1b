/-
  Two wheels side by side; one way in steps; the law's function WheelCuts.
-/
import Derived.Test.YtfnlldbaplakoaaWhc
import Derived.Test.YtfnlldbaplakoaaFwc
import Derived.Test.YtfnlldbaplakoaaGen
import Derived.SizedLaws
set_option linter.unusedSimpArgs false
set_option linter.unusedVariables false
namespace Go.Proofs.Ytfnlldbaplakoaa
open Go Go.Hw

theorem Whl.nowle {h : Hp} {W : Nat} {a : St} {F : Nat → Prop} (H : Whl h W a F) : a.now ≤ MaxT ∧ 0 ≤ a.last ∧ a.ts.length ≤ 1024 := by
  obtain ⟨tm, w, bl, H, e1, e2, e3, rfl⟩ := H
  exact ⟨by rw [e1]; exact H.n1, by rw [e2]; exact H.l0, by rw [e3, List.length_map]; exact H.len⟩

structure Two (h0 h : Hp) (W1 W2 : Nat) (a1 a2 : St) (F1 F2 : Nat → Prop) : Prop where
  A : Whl h W1 a1 F1
  B : Whl h W2 a2 F2
  d : ∀ x, F1 x → ¬ F2 x
  f1 : ∀ x, F1 x → h0 x = none
  f2 : ∀ x, F2 x → h0 x = none
  x : Ext none' h0 h
theorem Two.stepA {h0 h h' : Hp} {W1 W2 : Nat} {a1 a2 a' : St} {F1 F2 F' : Nat → Prop} (T : Two h0 h W1 W2 a1 a2 F1 F2) (H : Whl h' W1 a' F') (e : Ext F1 h h') (fp : ∀ x, F' x → F1 x ∨ h x = none) : Two h0 h' W1 W2 a' a2 F' F2 := by
  refine ⟨H, T.B.ext e (fun x hx h1 => T.d x h1 hx), ?_, fresh1 T.x T.f1 fp, T.f2, frame1 T.x T.f1 e⟩
  intro x hx h2
  rcases fp x hx with e1 | e1
  · exact T.d x e1 h2
  · exact T.B.there x h2 e1
theorem Two.stepB {h0 h h' : Hp} {W1 W2 : Nat} {a1 a2 a' : St} {F1 F2 F' : Nat → Prop} (T : Two h0 h W1 W2 a1 a2 F1 F2) (H : Whl h' W2 a' F') (e : Ext F2 h h') (fp : ∀ x, F' x → F2 x ∨ h x = none) : Two h0 h' W1 W2 a1 a' F1 F' := by
  refine ⟨T.A.ext e (fun x hx h1 => T.d x hx h1), H, ?_, T.f1, fresh1 T.x T.f2 fp, frame1 T.x T.f2 e⟩
  intro x hx h2
  rcases fp x h2 with e1 | e1
  · exact T.d x hx e1
  · exact T.A.there x hx e1
theorem Two.ext {h0 h h' : Hp} {W1 W2 : Nat} {a1 a2 : St} {F1 F2 : Nat → Prop} (T : Two h0 h W1 W2 a1 a2 F1 F2) (e : Ext none' h h') : Two h0 h' W1 W2 a1 a2 F1 F2 :=
  ⟨T.A.ext e (fun _ _ e => e), T.B.ext e (fun _ _ e => e), T.d, T.f1, T.f2, T.x.trans e⟩

/-! ### one way in steps -/
theorem filter_lt {ts : List Tm} {t : Tm} (h : t ∈ ts) : (ts.filter (fun x => x.id != t.id)).length < ts.length := by
  have := any_filter (l := ts) (id := t.id)
  have h2 : ts.any (fun x => t.id == x.id) = true := by rw [List.any_eq_true]; exact ⟨t, h, by simp⟩
  rw [h2] at this
  simp only [decide_eq_true_eq] at this
  omega
theorem fire_fuel {to : Int} : ∀ {n m : Nat} {ts : List Tm}, ts.length ≤ n → ts.length ≤ m → fire to n ts = fire to m ts := by
  intro n
  induction n with
  | zero =>
    intro m ts h1 h2
    have : ts = [] := List.length_eq_zero_iff.1 (by omega)
    subst this
    cases m <;> rfl
  | succ n ih =>
    intro m ts h1 h2
    cases m with
    | zero =>
      have : ts = [] := List.length_eq_zero_iff.1 (by omega)
      subst this; rfl
    | succ m =>
      simp only [fire]
      split
      · rename_i t ht
        have := filter_lt (first_in ht)
        rw [ih (m := m) (by omega) (by omega)]
      · rfl
theorem fire_len {to : Int} : ∀ {n : Nat} {ts : List Tm}, (fire to n ts).1.length ≤ n ∧ (fire to n ts).2.length ≤ ts.length := by
  intro n
  induction n with
  | zero => intro ts; exact ⟨Nat.le_refl _, Nat.le_refl _⟩
  | succ n ih =>
    intro ts
    simp only [fire]
    split
    · rename_i t ht
      split
      · have := ih (ts := ts.filter (fun x => x.id != t.id))
        have h2 := List.length_filter_le (fun x : Tm => x.id != t.id) ts
        simp only [List.length_cons]; omega
      · simp
    · simp
theorem fire_two {s t : Int} (hst : s ≤ t) : ∀ {n m : Nat} {ts : List Tm}, ts.length ≤ n → (fire s n ts).2.length ≤ m →
    fire t n ts = ((fire s n ts).1 ++ (fire t m (fire s n ts).2).1, (fire t m (fire s n ts).2).2) := by
  intro n
  induction n with
  | zero =>
    intro m ts h1 h2
    have : ts = [] := List.length_eq_zero_iff.1 (by omega)
    subst this
    cases m <;> rfl
  | succ n ih =>
    intro m ts h1 h2
    by_cases hq : ∃ u, first ts = some u ∧ u.tim ≤ s
    · obtain ⟨u, hu, hus⟩ := hq
      have hl := filter_lt (first_in hu)
      rw [fire_cut hu hus] at h2 ⊢
      rw [fire_cut hu (show u.tim ≤ t by omega)]
      rw [ih (m := m) (by omega) h2]
      rfl
    · have he : fire s (n + 1) ts = ([], ts) := fire_end (fun u hu h => hq ⟨u, hu, h⟩)
      rw [he] at h2 ⊢
      rw [fire_fuel h1 h2]; rfl
theorem clamp_two {now s t : Int} (hn : now ≤ MaxT) (hst : s ≤ t) : clampT (clampT now s) t = clampT now t := by
  unfold clampT MaxT at *
  repeat' split
  all_goals omega
theorem clamp_mono {now s t : Int} (hst : s ≤ t) : clampT now s ≤ clampT now t ∨ MaxT < now := by
  unfold clampT MaxT at *
  repeat' split
  all_goals omega
theorem adv_two {a : St} {s t : Int} (hn : a.now ≤ MaxT) (hst : s ≤ t) : (advTs a t).1 = (advTs a s).1 ++ (advTs (advanced a s) t).1 ∧ advanced (advanced a s) t = advanced a t := by
  have hc := clamp_two (t := t) hn hst
  have hm : clampT a.now s ≤ clampT a.now t := by rcases clamp_mono (now := a.now) hst with h | h <;> omega
  have e := fire_two hm (n := a.ts.length) (m := (advTs a s).2.length) (ts := a.ts) (Nat.le_refl _) (Nat.le_refl _)
  have e' : advTs (advanced a s) t = fire (clampT a.now t) (advTs a s).2.length (advTs a s).2 := by
    unfold advTs advanced
    simp only [hc]; rfl
  refine ⟨?_, ?_⟩
  · rw [e']; exact congrArg Prod.fst e
  · have : (advanced (advanced a s) t).ts = (advanced a t).ts := by
      show (advTs (advanced a s) t).2 = (advTs a t).2
      rw [e']; exact (congrArg Prod.snd e).symm
    unfold advanced at this ⊢
    simp only [hc] at this ⊢
    rw [this]

theorem appN {s s2 : Sl} {vs : List Value} {l : List Tm} {h : Hp} {F : Sl → Hp → Prop} (ho : Own h 44 3 s vs) (hb : Own h 44 3 s2 (frs l)) (hlen : s.n + s2.n ≤ 1099511627776)
    (hF : ∀ s' h', Own h' 44 3 s' (vs ++ frs l) → s'.n = s.n + s2.n → Ext (fun b => s.p = some (bk b)) h h' → (∀ b, s'.p = some (bk b) → s.p = some (bk b) ∨ h b = none) → F s' h') :
    apK Try.prog 44 s (.slice s2.p s2.n s2.c) h F := by
  refine apK_own (n := s2.n) (ns := frs l) ho p44a p44z (fun _ => rfl) ?_ hb.1 ?_ (by rw [p44b]; omega) hF
  · intro G hG
    refine srcK_own hb (Nat.le_refl _) ?_
    rw [← hb.1, List.take_length]; exact hG
  · intro v hv
    obtain ⟨t, _, ht⟩ := List.mem_flatMap.1 hv
    simp [frc] at ht
    rcases ht with rfl | rfl | rfl <;> rfl

end Go.Proofs.Ytfnlldbaplakoaa

/-
  What fires: each once, in order, neither early nor late.
-/
set_option linter.unusedSimpArgs false
set_option linter.unusedVariables false
namespace Go.Proofs.Ytfnlldbaplakoaa
open Go Go.Hw

theorem Whl.ids {h : Hp} {W : Nat} {a : St} {F : Nat → Prop} (H : Whl h W a F) : a.ts.Pairwise (fun a b => a.id < b.id) ∧ (∀ t ∈ a.ts, 1 ≤ t.id ∧ t.id ≤ a.last) ∧ ∀ t ∈ a.ts, a.now ≤ t.tim ∧ t.tim ≤ MaxT := by
  obtain ⟨tm, w, bl, H, e1, e2, e3, rfl⟩ := H
  rw [e3, e2, e1]
  refine ⟨by rw [List.pairwise_map]; exact H.ids, ?_, ?_⟩
  · intro t ht
    obtain ⟨b, hb, rfl⟩ := List.mem_map.1 ht
    exact H.idl b hb
  · intro t ht
    obtain ⟨b, hb, rfl⟩ := List.mem_map.1 ht
    obtain ⟨j, hj, hb'⟩ := (H.all b).1 hb
    exact H.pl.tim j hj b hb'

theorem same_id {ts : List Tm} (hp : ts.Pairwise (fun a b => a.id < b.id)) {t u : Tm} (ht : t ∈ ts) (hu : u ∈ ts) (e : t.id = u.id) : t = u := by
  obtain ⟨i, hi, rfl⟩ := List.getElem_of_mem ht
  obtain ⟨k, hk, rfl⟩ := List.getElem_of_mem hu
  rw [List.pairwise_iff_getElem] at hp
  rcases Nat.lt_trichotomy i k with q | q | q
  · have := hp i k hi hk q; omega
  · subst q; rfl
  · have := hp k i hk hi q; omega

/-- one before another one -/
def before (a b : Tm) : Prop := a.tim < b.tim ∨ a.tim = b.tim ∧ a.id < b.id
theorem first_least {ts : List Tm} {u : Tm} (hp : ts.Pairwise (fun a b => a.id < b.id)) (hf : first ts = some u) : ∀ x ∈ ts, x.id ≠ u.id → before u x := by
  cases ts with
  | nil => simp [first] at hf
  | cons a l =>
    simp only [first, Option.some.injEq] at hf
    obtain ⟨_, h2⟩ := foldl_pick hp
    rw [hf] at h2
    intro x hx hne
    have := h2 x hx
    unfold before; omega

structure Fired (to : Int) (ts o r : List Tm) : Prop where
  mem : ∀ t, t ∈ ts ↔ t ∈ o ∨ t ∈ r
  apart : ∀ t ∈ o, ∀ u ∈ r, t.id ≠ u.id
  sorted : o.Pairwise before
  due : ∀ t ∈ o, t.tim ≤ to
  late : ∀ t ∈ r, to < t.tim
  len : o.length + r.length = ts.length
  sub : r.Sublist ts

theorem fired {to : Int} : ∀ {n : Nat} {ts : List Tm}, ts.Pairwise (fun a b => a.id < b.id) → ts.length ≤ n → Fired to ts (fire to n ts).1 (fire to n ts).2 := by
  intro n
  induction n with
  | zero =>
    intro ts _ hl
    have : ts = [] := List.length_eq_zero_iff.1 (by omega)
    subst this
    exact ⟨by simp [fire], by simp [fire], by simp [fire], by simp [fire], by simp [fire], rfl, List.Sublist.refl _⟩
  | succ n ih =>
    intro ts hp hl
    cases hf : first ts with
    | none =>
      have := first_none hf
      subst this
      have e : fire to (n + 1) ([] : List Tm) = ([], []) := rfl
      rw [e]
      exact ⟨by simp, by simp, by simp, by simp, by simp, rfl, List.Sublist.refl _⟩
    | some u =>
      have hu := first_in hf
      have hbef := first_least hp hf
      by_cases hle : u.tim ≤ to
      · rw [fire_cut hf hle]
        have hlt := filter_lt hu
        have hp' : (ts.filter (fun x => x.id != u.id)).Pairwise (fun a b => a.id < b.id) := hp.filter _
        have I := ih hp' (by omega)
        have hmem : ∀ x, x ∈ ts.filter (fun x => x.id != u.id) ↔ x ∈ ts ∧ x.id ≠ u.id := by intro x; simp
        have hlen : (ts.filter (fun x => x.id != u.id)).length + 1 = ts.length := by
          obtain ⟨A, B, e⟩ := List.append_of_mem hu
          have hA : ∀ x ∈ A, x.id ≠ u.id := by
            intro x hx he
            rw [e, List.pairwise_append] at hp
            have := hp.2.2 x hx u (by simp); omega
          have hB : ∀ x ∈ B, x.id ≠ u.id := by
            intro x hx he
            rw [e, List.pairwise_append, List.pairwise_cons] at hp
            have := hp.2.1.1 x hx; omega
          have f1 : A.filter (fun x => x.id != u.id) = A := by rw [List.filter_eq_self]; intro x hx; simpa using hA x hx
          have f2 : B.filter (fun x => x.id != u.id) = B := by rw [List.filter_eq_self]; intro x hx; simpa using hB x hx
          rw [e, List.filter_append, List.filter_cons, f1, f2]
          simp; omega
        refine ⟨?_, ?_, ?_, ?_, I.late, ?_, I.sub.trans List.filter_sublist⟩
        · intro t
          constructor
          · intro ht
            by_cases e : t.id = u.id
            · have := same_id hp ht hu e; subst this; exact .inl (List.mem_cons_self ..)
            · rcases (I.mem t).1 ((hmem t).2 ⟨ht, e⟩) with h | h
              · exact .inl (List.mem_cons_of_mem _ h)
              · exact .inr h
          · rintro (h | h)
            · rcases List.mem_cons.1 h with e | h
              · rw [e]; exact hu
              · exact ((hmem t).1 ((I.mem t).2 (.inl h))).1
            · exact ((hmem t).1 ((I.mem t).2 (.inr h))).1
        · intro t ht x hx
          rcases List.mem_cons.1 ht with e | h
          · rw [e]; exact fun e' => ((hmem x).1 ((I.mem x).2 (.inr hx))).2 e'.symm
          · exact I.apart t h x hx
        · rw [List.pairwise_cons]
          refine ⟨fun x hx => ?_, I.sorted⟩
          have := (hmem x).1 ((I.mem x).2 (.inl hx))
          exact hbef x this.1 this.2
        · intro t ht
          rcases List.mem_cons.1 ht with e | h
          · rw [e]; exact hle
          · exact I.due t h
        · have := I.len
          simp only [List.length_cons]; omega
      · have e : fire to (n + 1) ts = ([], ts) := fire_end (fun t ht => by rw [hf] at ht; cases ht; exact hle)
        rw [e]
        refine ⟨by simp, by simp, by simp, by simp, ?_, by simp, List.Sublist.refl _⟩
        intro t ht
        by_cases e' : t.id = u.id
        · have := same_id hp ht hu e'; subst this; omega
        · have := hbef t ht e'; unfold before at this; omega

/-! ### the books of WheelOnce -/
def iv (n : Int) : Value := .int .i64 n
structure Book (at' th : List Int) (P : Tm → Prop) (last : Int) : Prop where
  la : (at'.length : Int) = last + 1
  lt : (th.length : Int) = last + 1
  ids : ∀ t, P t → 1 ≤ t.id ∧ t.id ≤ last
  tim : ∀ t, P t → at'[t.id.toNat]? = some t.tim
  one : ∀ t u, P t → P u → t.id = u.id → t = u
  yes : ∀ t, P t → th[t.id.toNat]? = some 1
  no : ∀ k : Nat, (k : Int) ≤ last → (∀ t, P t → t.id ≠ k) → th[k]? = some 0
theorem Book.cut {at' th : List Int} {P P' : Tm → Prop} {last id : Int} (B : Book at' th P last) (h0 : 0 ≤ id) (hP : ∀ t, P' t ↔ P t ∧ t.id ≠ id) (hid : id ≤ last) : Book at' (th.set id.toNat 0) P' last := by
  refine ⟨B.la, by rw [List.length_set]; exact B.lt, fun t ht => B.ids t ((hP t).1 ht).1, fun t ht => B.tim t ((hP t).1 ht).1, fun t u ht hu => B.one t u ((hP t).1 ht).1 ((hP u).1 hu).1, ?_, ?_⟩
  · intro t ht
    have h1 := (hP t).1 ht
    have h2 := B.ids t h1.1
    rw [List.getElem?_set_ne (by omega)]; exact B.yes t h1.1
  · intro k hk hno
    by_cases e : (k : Int) = id
    · have : id.toNat = k := by omega
      rw [this, List.getElem?_set_self (by have := B.lt; omega)]
    · rw [List.getElem?_set_ne (by omega)]
      refine B.no k hk ?_
      intro t ht hk'
      exact hno t ((hP t).2 ⟨ht, by omega⟩) hk'
theorem Book.add {at' th : List Int} {P P' : Tm → Prop} {last : Int} {u : Tm} (B : Book at' th P last) (hl : 0 ≤ last) (hu : u.id = last + 1) (hP : ∀ t, P' t ↔ P t ∨ t = u) : Book (at' ++ [u.tim]) (th ++ [1]) P' (last + 1) := by
  have hla := B.la
  have hlt := B.lt
  refine ⟨by simp; omega, by simp; omega, ?_, ?_, ?_, ?_, ?_⟩
  · intro t ht
    rcases (hP t).1 ht with h | h
    · have := B.ids t h; omega
    · subst h; omega
  · intro t ht
    rcases (hP t).1 ht with h | h
    · have := B.ids t h
      rw [List.getElem?_append_left (by omega)]; exact B.tim t h
    · subst h
      rw [List.getElem?_append_right (by omega)]
      have : t.id.toNat - at'.length = 0 := by omega
      rw [this]; rfl
  · intro t v ht hv e
    rcases (hP t).1 ht with h | h <;> rcases (hP v).1 hv with h' | h'
    · exact B.one t v h h' e
    · subst h'; have := B.ids t h; omega
    · subst h; have := B.ids v h'; omega
    · rw [h, h']
  · intro t ht
    rcases (hP t).1 ht with h | h
    · have := B.ids t h
      rw [List.getElem?_append_left (by omega)]; exact B.yes t h
    · subst h
      rw [List.getElem?_append_right (by omega)]
      have : t.id.toNat - th.length = 0 := by omega
      rw [this]; rfl
  · intro k hk hno
    by_cases e : (k : Int) = last + 1
    · exact absurd (by omega) (hno u ((hP u).2 (.inr rfl)))
    · rw [List.getElem?_append_left (by omega)]
      exact B.no k (by omega) (fun t ht => hno t ((hP t).2 (.inl ht)))
theorem Book.congr {at' th : List Int} {P P' : Tm → Prop} {last : Int} (B : Book at' th P last) (hP : ∀ t, P' t ↔ P t) : Book at' th P' last :=
  ⟨B.la, B.lt, fun t ht => B.ids t ((hP t).1 ht), fun t ht => B.tim t ((hP t).1 ht), fun t u ht hu => B.one t u ((hP t).1 ht) ((hP u).1 hu), fun t ht => B.yes t ((hP t).1 ht), fun k hk hno => B.no k hk (fun t ht => hno t ((hP t).2 ht))⟩

/-- append of one int -/
theorem p3a : Try.prog.cellsOf 3 = 1 := by kernel_rfl
theorem p3z : (zc Try.prog 3).length = 1 := by kernel_rfl
theorem p3b : Try.prog.bytesOf 3 = 8 := by kernel_rfl
theorem app8 {s : Sl} {l : List Int} {h : Hp} {F : Sl → Hp → Prop} {n : Int} {b0 : Nat} (ho : Own h 3 1 s (l.map iv)) (hb : Blk h b0 3 [iv n]) (hlen : s.n ≤ 15000000000000)
    (hF : ∀ s' h', Own h' 3 1 s' ((l ++ [n]).map iv) → s'.n = s.n + 1 → Ext (fun b => s.p = some (bk b)) h h' → (∀ b, s'.p = some (bk b) → s.p = some (bk b) ∨ h b = none) → F s' h') :
    apK Try.prog 3 s (.slice (some (bk b0)) 1 1) h F := by
  refine apK_own (n := 1) (ns := [iv n]) ho p3a p3z (fun _ => rfl) ?_ rfl (by simp [iv, plain]) (by rw [p3b]; omega) ?_
  · intro G hG
    have : rdN h (bk b0) 0 (1 * 1) = some [iv n] := by
      have := rdN_blk hb 1 0 (by simp)
      simpa using this
    unfold srcK
    simp only [this]; exact hG
  · intro s' h' ho'
    have : (l ++ [n]).map iv = l.map iv ++ [iv n] := by simp
    rw [← this] at ho'
    exact hF s' h' ho'

end Go.Proofs.Ytfnlldbaplakoaa

/-
  The law's function WheelOnce.
-/
set_option linter.unusedSimpArgs false
set_option linter.unusedVariables false
namespace Go.Proofs.Ytfnlldbaplakoaa
open Go Go.Hw

theorem mnmx {now t : Int} (hn : now ≤ MaxT) : mn (mx t now) 1125899906842624 = clampT now t := by
  unfold mn mx clampT MaxT at *
  repeat' split
  all_goals omega
theorem filter_len {ts : List Tm} {u : Tm} (hp : ts.Pairwise (fun a b => a.id < b.id)) (hu : u ∈ ts) : (ts.filter (fun x => x.id != u.id)).length + 1 = ts.length := by
  obtain ⟨A, B, e⟩ := List.append_of_mem hu
  have hA : ∀ x ∈ A, x.id ≠ u.id := by
    intro x hx he
    rw [e, List.pairwise_append] at hp
    have := hp.2.2 x hx u (by simp); omega
  have hB : ∀ x ∈ B, x.id ≠ u.id := by
    intro x hx he
    rw [e, List.pairwise_append, List.pairwise_cons] at hp
    have := hp.2.1.1 x hx; omega
  have f1 : A.filter (fun x => x.id != u.id) = A := by rw [List.filter_eq_self]; intro x hx; simpa using hA x hx
  have f2 : B.filter (fun x => x.id != u.id) = B := by rw [List.filter_eq_self]; intro x hx; simpa using hB x hx
  rw [e, List.filter_append, List.filter_cons, f1, f2]
  simp; omega

theorem Own3 {h : Hp} {s : Sl} {l : List Int} (ho : Own h 3 1 s (l.map iv)) : s.n = l.length := by
  have := ho.1; simpa using this.symm
theorem Own3_get {h : Hp} {s : Sl} {l : List Int} (ho : Own h 3 1 s (l.map iv)) {k : Nat} {n : Int} (hk : l[k]? = some n) : ∃ r, s.p = some (bk r) ∧ cell h ⟨r, k, none⟩ = some (.int .i64 n) :=
  ho.get (k := k) (v := iv n) (by rw [List.getElem?_map, hk]; rfl)
theorem Own3_row {h : Hp} {s : Sl} {vs : List Value} (ho : Own h 3 1 s vs) {x : Nat} (hx : s.p = some (bk x)) : ∃ l, Blk h x 3 l := by
  have := ho.2.2
  rw [hx] at this
  obtain ⟨_, cs, hb, _⟩ := this
  exact ⟨cs, hb⟩

structure Once (h0 h : Hp) (W : Nat) (a : St) (F : Nat → Prop) (sa st : Sl) (atL thL : List Int) : Prop where
  A : Whl h W a F
  ta : Own h 3 1 sa (atL.map iv)
  tt : Own h 3 1 st (thL.map iv)
  fA : ∀ x, sa.p = some (bk x) → ¬ F x ∧ h0 x = none
  fT : ∀ x, st.p = some (bk x) → ¬ F x ∧ h0 x = none
  ne : ∀ x, sa.p = some (bk x) → ¬ st.p = some (bk x)
  f : ∀ x, F x → h0 x = none
  x : Ext none' h0 h
theorem Once.ext {h0 h h' : Hp} {W : Nat} {a : St} {F : Nat → Prop} {sa st : Sl} {atL thL : List Int} (O : Once h0 h W a F sa st atL thL) (e : Ext none' h h') : Once h0 h' W a F sa st atL thL :=
  ⟨O.A.ext e (fun _ _ e => e), O.ta.ext e (fun _ _ e => e), O.tt.ext e (fun _ _ e => e), O.fA, O.fT, O.ne, O.f, O.x.trans e⟩
theorem Once.stepW {h0 h h' : Hp} {W : Nat} {a a' : St} {F F' : Nat → Prop} {sa st : Sl} {atL thL : List Int} (O : Once h0 h W a F sa st atL thL) (H : Whl h' W a' F') (e : Ext F h h') (fp : ∀ x, F' x → F x ∨ h x = none) : Once h0 h' W a' F' sa st atL thL := by
  refine ⟨H, O.ta.ext e (fun x hx => (O.fA x hx).1), O.tt.ext e (fun x hx => (O.fT x hx).1), ?_, ?_, O.ne, fresh1 O.x O.f fp, frame1 O.x O.f e⟩
  · intro x hx
    refine ⟨?_, (O.fA x hx).2⟩
    intro h2
    rcases fp x h2 with e1 | e1
    · exact (O.fA x hx).1 e1
    · obtain ⟨l, hl⟩ := Own3_row O.ta hx; exact hl.ne_none e1 rfl
  · intro x hx
    refine ⟨?_, (O.fT x hx).2⟩
    intro h2
    rcases fp x h2 with e1 | e1
    · exact (O.fT x hx).1 e1
    · obtain ⟨l, hl⟩ := Own3_row O.tt hx; exact hl.ne_none e1 rfl
/-- 'there' is written -/
theorem Once.wr {h0 h : Hp} {W : Nat} {a : St} {F : Nat → Prop} {sa s : Sl} {atL thL : List Int} (O : Once h0 h W a F sa s atL thL) {k : Nat} (hk : k < thL.length) {n : Int} {G : Hp → Prop}
    (hG : ∀ h' r, s.p = some (bk r) → Once h0 h' W a F sa s atL (thL.set k n) → Ext (fun x => x = r) h h' → G h') : ∃ r, s.p = some (bk r) ∧ st h ⟨r, k, none⟩ (.int .i64 n) G := by
  obtain ⟨r, hp, _, hst⟩ := O.tt.st (k := k) (by simpa using hk)
  refine ⟨r, hp, hst _ _ rfl ?_⟩
  intro h' ho' e
  have : (thL.map iv).set k (.int .i64 n) = (thL.set k n).map iv := by rw [List.map_set]; rfl
  rw [this] at ho'
  refine hG h' r hp ⟨O.A.ext e (fun x hx e' => (O.fT r hp).1 (e' ▸ hx)), O.ta.ext e (fun x hx e' => O.ne x hx (by rw [e']; exact hp)), ho', O.fA, O.fT, O.ne, O.f, ?_⟩ e
  intro x o ho _
  refine e x o (O.x x o ho (fun e => e)) ?_
  intro e'; subst e'; rw [(O.fT _ hp).2] at ho; cases ho

theorem once_j2 {s0 sa s : Sl} {W : Nat} {many now i : Int} {a : St} {F : Nat → Prop} {h : Hp} {Kn : Hp → Prop} {Kr : Bool → Hp → Prop} (H : Whl h W a F) (hm : many = a.ts.length) (hn : now = a.now) (hK : Kn h) :
    N5_j2 s0 (some (bk W)) sa s many now i h Kn Kr := by
  unfold N5_j2
  refine c16' H ?_
  have : (((a.ts.length : Nat) : Int) != many) = false := by rw [hm]; simp
  rw [this, cond_false]
  refine c17' H ?_
  have : (a.now != now) = false := by rw [hn]; simp
  rw [this, cond_false]; exact hK

theorem once_any {atL thL : List Int} {a : St} (B : Book atL thL (· ∈ a.ts) a.last) {id : Int} (h0 : 0 < id) (h1 : id ≤ a.last) : ∃ n, thL[id.toNat]? = some n ∧ (n == 1) = a.ts.any (fun x => id == x.id) := by
  by_cases hq : ∃ t ∈ a.ts, t.id = id
  · obtain ⟨t, ht, e⟩ := hq
    have := B.yes t ht
    rw [e] at this
    refine ⟨1, this, ?_⟩
    have : a.ts.any (fun x => id == x.id) = true := by rw [List.any_eq_true]; exact ⟨t, ht, by simp [e]⟩
    rw [this]; rfl
  · have := B.no id.toNat (by omega) (fun t ht e => hq ⟨t, ht, by omega⟩)
    refine ⟨0, this, ?_⟩
    have : a.ts.any (fun x => id == x.id) = false := by
      rw [List.any_eq_false]; intro x hx; simpa using fun e : id = x.id => hq ⟨x, hx, e.symm⟩
    rw [this]; rfl
theorem any_no {atL thL : List Int} {a : St} (B : Book atL thL (· ∈ a.ts) a.last) {id : Int} (h : id ≤ 0 ∨ a.last < id) : a.ts.any (fun x => id == x.id) = false := by
  rw [List.any_eq_false]; intro x hx
  have := B.ids x hx
  simp; omega

theorem once_j3 {s0 sa s : Sl} {W b0 : Nat} {many now i n0 n1 n2 : Int} {is : Bool} {a : St} {F : Nat → Prop} {atL thL : List Int} {h0 h : Hp} {Kn : Int → Hp → Prop} {Kr : Bool → Hp → Prop} (O : Once h0 h W a F sa s atL thL) (B : Book atL thL (· ∈ a.ts) a.last)
    (hb : Blk h b0 34 [.int .i64 n0, .int .i64 n1, .int .i64 n2]) (hbF : ¬ F b0) (hm : many = a.ts.length) (his : is = a.ts.any (fun x => n1 == x.id))
    (hK : ∀ h' F' thL', Once h0 h' W (cancel a n1) F' sa s atL thL' → Book atL thL' (· ∈ (cancel a n1).ts) (cancel a n1).last → Kn ((cancel a n1).ts.length : Int) h') :
    N5_j3 s0 (some (bk W)) sa s many now i (some (bk b0)) is h Kn Kr := by
  unfold N5_j3
  simp only [nn_some', add_bk, hb.cell, List.getElem?_cons_succ, List.getElem?_cons_zero, xI_some]
  refine c13' O.A ?_
  intro h1 F1 H1 e1 p1
  have O1 := O.stepW H1 e1 (fun x hx => .inl (p1 x hx))
  have hb1 := e1.blk hb hbF
  have ids := O.A.ids
  have hnl := O.A.nowle
  have hmem : ∀ t, t ∈ (cancel a n1).ts ↔ t ∈ a.ts ∧ t.id ≠ n1 := by intro t; show t ∈ List.filter _ _ ↔ _; simp
  rw [his]
  simp only [beq_self_eq_true, Bool.not_true, cond_false]
  cases hq : a.ts.any (fun x => n1 == x.id) with
  | true =>
    rw [cond_true]
    obtain ⟨t, ht, e⟩ := List.any_eq_true.1 hq
    have e : n1 = t.id := by simpa using e
    have hid := B.ids t ht
    have hlt := B.lt
    have hsn := Own3 O1.tt
    simp only [hb1.cell, List.getElem?_cons_succ, List.getElem?_cons_zero, xI_some]
    refine idx_of (by omega) (by omega) ?_
    obtain ⟨r, hp, hst⟩ := O1.wr (k := n1.toNat) (by omega) (n := 0) (G := fun h' => Kn (IntKind.wrap .i64 (many - 1)) h') (by
      intro h2 r hp O2 _
      have hfl := filter_len ids.1 ht
      have hlen : ((cancel a n1).ts.length : Int) = many - 1 := by
        show ((List.filter (fun x => x.id != n1) a.ts).length : Int) = _
        rw [e, hm]; omega
      rw [wrap64 (by omega) (by omega), ← hlen]
      exact hK h2 F1 _ O2 (B.cut (by omega) hmem (by omega)))
    rw [hp]
    simp only [nn_some', add_bk, Nat.mul_one]
    exact hst
  | false =>
    rw [cond_false]
    have hsame : (cancel a n1).ts = a.ts := by
      show List.filter _ _ = _
      rw [List.filter_eq_self]
      intro x hx
      have := (List.any_eq_false.1 hq) x hx
      simpa using fun e : x.id = n1 => this (by simp [e])
    have hlen : ((cancel a n1).ts.length : Int) = many := by rw [hsame, hm]
    rw [← hlen]
    exact hK h1 F1 thL O1 (B.congr (fun t => by rw [hsame]))

end Go.Proofs.Ytfnlldbaplakoaa

/-
  The law's function WheelOnce, whole.
-/
set_option linter.unusedSimpArgs false
set_option linter.unusedVariables false
namespace Go.Proofs.Ytfnlldbaplakoaa
open Go Go.Hw

theorem once_l4 {s0 sa s s4 : Sl} {W : Nat} {now i : Int} {ats : List Tm} {a' : St} {F : Nat → Prop} {atL thL : List Int} {out : List Tm} {h0 h : Hp} {Ke : Int → Hp → Prop} {Kr : Bool → Hp → Prop} (O : Once h0 h W a' F sa s atL thL)
    (B : Book atL thL (· ∈ ats) a'.last) (Fr : Fired now ats out a'.ts) (ho : Own h 44 3 s4 (frs out)) (hl : ats.length ≤ 1024) (hlast : a'.last < 4611686018427387904)
    (hK : ∀ h' thL', Once h0 h' W a' F sa s atL thL' → Book atL thL' (· ∈ a'.ts) a'.last → Ke (a'.ts.length : Int) h') :
    N5_l4 s0 (some (bk W)) sa s now i s4 (ats.length : Int) 0 h Ke Kr := by
  unfold N5_l4
  have hol := Fr.len
  refine loopP_inv (fun (x : Int × Int) hc => ∃ (n : Nat) (thL' : List Int), x.2 = n ∧ n ≤ out.length ∧ x.1 = ((a'.ts.length + (out.length - n) : Nat) : Int) ∧ Once h0 hc W a' F sa s atL thL' ∧ Own hc 44 3 s4 (frs out) ∧ Book atL thL' (fun t => t ∈ a'.ts ∨ t ∈ out.drop n) a'.last)
    (fun x _ => out.length - x.2.toNat) ?_ ⟨0, thL, rfl, Nat.zero_le _, by simp only []; omega, O, ho, B.congr (fun t => by rw [List.drop_zero, Fr.mem t]; exact Or.comm)⟩
  clear O B ho
  rintro ⟨many, x⟩ hc ⟨n, thL', hn, hno, hm, O, ho, B⟩
  simp only at hn hm
  subst hn
  subst hm
  have hs4 := Own44 ho
  have hsa := Own3 O.ta
  have hst := Own3 O.tt
  have hla := B.la
  have hlt := B.lt
  unfold N5_l4_B N5_l4_b
  by_cases hn2 : n < out.length
  · have : decide ((n : Int) < ((s4.n : Nat) : Int)) = true := by rw [hs4]; simp; omega
    rw [this, cond_true]
    refine idx_of (by omega) (by omega) ?_
    have hx : out[n]? = some out[n] := List.getElem?_eq_getElem hn2
    obtain ⟨r4, hp4, d0, d1, _⟩ := Own44_get ho hx
    rw [hp4]
    generalize hu : out[n] = u at *
    have hud : u ∈ out.drop n := by
      rw [List.drop_eq_getElem_cons hn2, hu]; exact List.mem_cons_self ..
    have hid := B.ids u (.inr hud)
    have hone := B.yes u (.inr hud)
    have htim := B.tim u (.inr hud)
    have huo : u ∈ out := List.mem_of_mem_drop hud
    simp only [nn_some', add_bk, add_mk, Nat.zero_add, Int.toNat_natCast, d1, xI_some]
    have f1 : decide (u.id < 1) = false := by simp; omega
    have f2 : decide (u.id ≥ ((sa.n : Nat) : Int)) = false := by simp; omega
    rw [f1, cond_false, f2, cond_false]
    refine idx_of (by omega) (by omega) ?_
    obtain ⟨rt, hpt, ct⟩ := Own3_get O.tt hone
    rw [hpt]
    simp only [nn_some', add_bk, Nat.mul_one, ct, xI_some]
    have f3 : ((1 : Int) == 0) = false := rfl
    rw [f3, cond_false]
    refine idx_of (by omega) (by omega) ?_
    obtain ⟨ra, hpa, ca⟩ := Own3_get O.ta htim
    rw [hpa]
    simp only [nn_some', add_bk, Nat.mul_one, ca, xI_some]
    refine idx_of (by omega) (by omega) ?_
    simp only [d0, xI_some]
    have f4 : (u.tim != u.tim) = false := by simp
    rw [f4, cond_false]
    refine idx_of (by omega) (by omega) ?_
    have f5 : decide (u.tim > now) = false := by have := Fr.due u huo; simp; omega
    rw [f5, cond_false]
    have wn : IntKind.wrap .i64 ((n : Int) + 1) = ((n + 1 : Nat) : Int) := by rw [wrap64 (by omega) (by omega)]; omega
    have hdrop : out.drop n = u :: out.drop (n + 1) := by rw [List.drop_eq_getElem_cons hn2, hu]
    have hnot : ∀ t, t ∈ a'.ts ∨ t ∈ out.drop (n + 1) → t.id ≠ u.id := by
      intro t ht e
      have hsame := B.one t u (ht.imp_right fun h => by rw [hdrop]; exact List.mem_cons_of_mem _ h) (.inr hud) e
      subst hsame
      rcases ht with h | h
      · exact Fr.apart t huo t h rfl
      · have hsort := Fr.sorted
        have : (out.drop n).Pairwise before := hsort.sublist (List.drop_sublist _ _)
        rw [hdrop, List.pairwise_cons] at this
        have := this.1 t h
        unfold before at this; omega
    -- the rest of a round
    have fin : N5_j5 s0 (some (bk W)) sa s (((a'.ts.length + (out.length - n) : Nat) : Int)) now i s4 n u.id hc (fun n10 h0' =>
        (∃ (n' : Nat) (thL' : List Int), ((n10, IntKind.wrap .i64 ((n : Int) + 1)) : Int × Int).2 = n' ∧ n' ≤ out.length ∧ ((n10, IntKind.wrap .i64 ((n : Int) + 1)) : Int × Int).1 = ((a'.ts.length + (out.length - n') : Nat) : Int) ∧ Once h0 h0' W a' F sa s atL thL' ∧ Own h0' 44 3 s4 (frs out) ∧ Book atL thL' (fun t => t ∈ a'.ts ∨ t ∈ out.drop n') a'.last) ∧
          out.length - (IntKind.wrap .i64 ((n : Int) + 1)).toNat < out.length - (n : Int).toNat) := by
      unfold N5_j5
      refine idx_of (by omega) (by omega) ?_
      obtain ⟨r, hp, hw⟩ := O.wr (k := u.id.toNat) (by omega) (n := 0) (G := fun h0' =>
        (∃ (n' : Nat) (thL' : List Int), ((IntKind.wrap .i64 (((a'.ts.length + (out.length - n) : Nat) : Int) - 1), IntKind.wrap .i64 ((n : Int) + 1)) : Int × Int).2 = n' ∧ n' ≤ out.length ∧ ((IntKind.wrap .i64 (((a'.ts.length + (out.length - n) : Nat) : Int) - 1), IntKind.wrap .i64 ((n : Int) + 1)) : Int × Int).1 = ((a'.ts.length + (out.length - n') : Nat) : Int) ∧ Once h0 h0' W a' F sa s atL thL' ∧ Own h0' 44 3 s4 (frs out) ∧ Book atL thL' (fun t => t ∈ a'.ts ∨ t ∈ out.drop n') a'.last) ∧
          out.length - (IntKind.wrap .i64 ((n : Int) + 1)).toNat < out.length - (n : Int).toNat) (by
        intro h2 r hp O2 e2
        refine ⟨⟨n + 1, _, wn, hn2, ?_, O2, ?_, B.cut (by omega) ?_ (by omega)⟩, by rw [wn]; omega⟩
        · show IntKind.wrap .i64 _ = _
          rw [wrap64 (by omega) (by omega)]; omega
        · refine ho.ext e2 ?_
          intro x hx e
          subst e
          obtain ⟨l1, h1⟩ := Own44_row ho hx
          obtain ⟨l2, h2⟩ := Own3_row O.tt hp
          exact h1.ne h2 (by decide) rfl
        · intro t
          constructor
          · intro ht
            exact ⟨ht.imp_right fun h => by rw [hdrop]; exact List.mem_cons_of_mem _ h, hnot t ht⟩
          · rintro ⟨ht | ht, hne⟩
            · exact .inl ht
            · rw [hdrop] at ht
              rcases List.mem_cons.1 ht with e | h
              · exact absurd (by rw [e]) hne
              · exact .inr h)
      rw [hp]
      simp only [nn_some', add_bk, Nat.mul_one]
      exact hw
    by_cases hn0 : n = 0
    · subst hn0
      have : decide (((0 : Nat) : Int) > 0) = false := rfl
      rw [this, cond_false]
      exact fin
    · have : decide ((n : Int) > 0) = true := by simp; omega
      rw [this, cond_true]
      have wp : IntKind.wrap .i64 ((n : Int) - 1) = ((n - 1 : Nat) : Int) := by rw [wrap64 (by omega) (by omega)]; omega
      rw [wp]
      refine idx_of (by omega) (by omega) ?_
      have hxp : out[n - 1]? = some out[n - 1] := List.getElem?_eq_getElem (by omega)
      obtain ⟨r5, hp5, g0, g1, _⟩ := Own44_get ho hxp
      have er : r5 = r4 := by rw [hp4] at hp5; exact (congrArg Addr.block (Option.some.inj hp5)).symm
      subst er
      have hbef : before out[n - 1] u := by
        have := Fr.sorted
        rw [List.pairwise_iff_getElem] at this
        have := this (n - 1) n (by omega) hn2 (by omega)
        rw [hu] at this; exact this
      simp only [nn_some', add_bk, add_mk, Nat.zero_add, Int.toNat_natCast, g0, xI_some]
      refine idx_of (by omega) (by omega) ?_
      unfold before at hbef
      have f6 : decide (out[n - 1].tim > u.tim) = false := by simp; omega
      rw [f6, cond_false]
      refine idx_of (by omega) (by omega) ?_
      refine idx_of (by omega) (by omega) ?_
      cases hq : (out[n - 1].tim == u.tim) with
      | false => rw [cond_false]; exact fin
      | true =>
        rw [cond_true]
        have e : out[n - 1].tim = u.tim := by simpa using hq
        refine idx_of (by omega) (by omega) ?_
        simp only [g1, xI_some]
        have f7 : decide (out[n - 1].id ≥ u.id) = false := by simp; omega
        rw [f7, cond_false]; exact fin
  · have : decide ((n : Int) < ((s4.n : Nat) : Int)) = false := by rw [hs4]; simp; omega
    rw [this, cond_false]
    have hne : n = out.length := by omega
    subst hne
    have e : a'.ts.length + (out.length - out.length) = a'.ts.length := by omega
    rw [e]
    refine hK hc thL' O (B.congr fun t => ?_)
    simp

end Go.Proofs.Ytfnlldbaplakoaa

/-
  The law's function WheelOnce, whole.
-/
set_option linter.unusedSimpArgs false
set_option linter.unusedVariables false
namespace Go.Proofs.Ytfnlldbaplakoaa
open Go Go.Hw

theorem Once.pushA {h0 h : Hp} {W b0 : Nat} {a : St} {F : Nat → Prop} {sa s : Sl} {atL thL : List Int} {n : Int} {G : Sl → Hp → Prop} (O : Once h0 h W a F sa s atL thL) (hb : Blk h b0 3 [iv n]) (hl : sa.n ≤ 15000000000000)
    (hG : ∀ sa' h', Once h0 h' W a F sa' s (atL ++ [n]) thL → G sa' h') : apK Try.prog 3 sa (.slice (some (bk b0)) 1 1) h G := by
  refine app8 O.ta hb hl ?_
  intro s' h' ho hn e row
  refine hG s' h' ⟨O.A.ext e (fun x hx hp => (O.fA x hp).1 hx), ho, O.tt.ext e (fun x hx hp => O.ne x hp hx), ?_, O.fT, ?_, O.f, ?_⟩
  · intro x hx
    rcases row x hx with e1 | e1
    · exact O.fA x e1
    · exact ⟨fun hf => O.A.there x hf e1, none_of O.x e1⟩
  · intro x hx ht
    rcases row x hx with e1 | e1
    · exact O.ne x e1 ht
    · obtain ⟨l, h2⟩ := Own3_row O.tt ht; exact h2.ne_none e1 rfl
  · intro x o ho' _
    refine e x o (O.x x o ho' (fun e => e)) ?_
    intro hp; rw [(O.fA x hp).2] at ho'; cases ho'
theorem Once.pushT {h0 h : Hp} {W b0 : Nat} {a : St} {F : Nat → Prop} {sa s : Sl} {atL thL : List Int} {n : Int} {G : Sl → Hp → Prop} (O : Once h0 h W a F sa s atL thL) (hb : Blk h b0 3 [iv n]) (hl : s.n ≤ 15000000000000)
    (hG : ∀ s' h', Once h0 h' W a F sa s' atL (thL ++ [n]) → G s' h') : apK Try.prog 3 s (.slice (some (bk b0)) 1 1) h G := by
  refine app8 O.tt hb hl ?_
  intro s' h' ho hn e row
  refine hG s' h' ⟨O.A.ext e (fun x hx hp => (O.fT x hp).1 hx), O.ta.ext e (fun x hx hp => O.ne x hx hp), ho, O.fA, ?_, ?_, O.f, ?_⟩
  · intro x hx
    rcases row x hx with e1 | e1
    · exact O.fT x e1
    · exact ⟨fun hf => O.A.there x hf e1, none_of O.x e1⟩
  · intro x hx ht
    rcases row x ht with e1 | e1
    · exact O.ne x hx e1
    · obtain ⟨l, h2⟩ := Own3_row O.ta hx; exact h2.ne_none e1 rfl
  · intro x o ho' _
    refine e x o (O.x x o ho' (fun e => e)) ?_
    intro hp; rw [(O.fT x hp).2] at ho'; cases ho'

theorem c5' {s0 : Sl} {script : List (Int × Int × Int)} {h : Hp} {K : Bool → Hp → Prop} (h0 : Trips h s0 script) (hl0 : script.length ≤ 6000000000000)
    (hK : ∀ h', Ext none' h h' → K true h') : C5 s0 h K := by
  apply S5; unfold N5
  refine c7' ?_
  intro ha xa
  refine c8' ?_
  intro W hb F A1 xb f1
  simp only [Bool.not_true, cond_false, peq_none, Option.isNone_some]
  intro b2 e2
  have y2 : Ext none' hb (upd hb b2 (.cells ⟨[iv 0]⟩ 3)) := Ext.new e2
  have hb2 : Blk (upd hb b2 (.cells ⟨[iv 0]⟩ 3)) b2 3 [iv 0] := Blk.upd_same
  change nw (upd hb b2 (.cells ⟨[iv 0]⟩ 3)) _ _
  revert y2 hb2
  generalize upd hb b2 _ = hc
  intro y2 hb2 b3 e3
  have y3 : Ext none' hc (upd hc b3 (.cells ⟨[iv 0]⟩ 3)) := Ext.new e3
  have hb3 : Blk (upd hc b3 (.cells ⟨[iv 0]⟩ 3)) b3 3 [iv 0] := Blk.upd_same
  change N5_l0 _ _ _ _ _ _ _ (upd hc b3 (.cells ⟨[iv 0]⟩ 3)) _ _
  have n23 : b2 ≠ b3 := hb2.ne_none e3
  have hb2' : Blk (upd hc b3 (.cells ⟨[iv 0]⟩ 3)) b2 3 [iv 0] := y3.blk hb2 (fun e => e)
  revert y3 hb3 hb2'
  generalize upd hc b3 _ = hd
  intro y3 hb3 hb2'
  have own1 : ∀ b, Blk hd b 3 [iv 0] → Own hd 3 1 ⟨some (bk b), 1, 1⟩ (([0] : List Int).map iv) := fun b hb => ⟨rfl, Nat.le_refl _, rfl, _, hb, rfl, rfl⟩
  have xab := xa.trans xb
  have O : Once h hd W ⟨0, 0, []⟩ F ⟨some (bk b2), 1, 1⟩ ⟨some (bk b3), 1, 1⟩ [0] [0] := by
    refine ⟨(A1.ext y2 (fun _ _ e => e)).ext y3 (fun _ _ e => e), own1 b2 hb2', own1 b3 hb3, ?_, ?_, ?_, fun x hx => none_of xa (f1 x hx), (xab.trans y2).trans y3⟩
    · intro x hx
      have : b2 = x := congrArg Addr.block (Option.some.inj hx)
      subst this
      exact ⟨fun hf => A1.there _ hf e2, none_of xab e2⟩
    · intro x hx
      have : b3 = x := congrArg Addr.block (Option.some.inj hx)
      subst this
      exact ⟨fun hf => (A1.ext y2 (fun _ _ e => e)).there _ hf e3, none_of (xab.trans y2) e3⟩
    · intro x hx hx2
      have h1 : b2 = x := congrArg Addr.block (Option.some.inj hx)
      have h2 : b3 = x := congrArg Addr.block (Option.some.inj hx2)
      exact n23 (h1.trans h2.symm)
  unfold N5_l0
  refine loopP_inv (fun (x : Sl × Sl × Int × Int × Int) he => ∃ (i : Nat) (a : St) (F : Nat → Prop) (atL thL : List Int), x.2.2.2.2 = i ∧ i ≤ script.length ∧ Once h he W a F x.1 x.2.1 atL thL ∧ Book atL thL (· ∈ a.ts) a.last ∧ x.2.2.1 = a.ts.length ∧ x.2.2.2.1 = a.now ∧ a.last ≤ i)
    (fun x _ => script.length - x.2.2.2.2.toNat) ?_ ⟨0, _, F, _, _, rfl, Nat.zero_le _, O, ⟨rfl, rfl, (by intro t ht; cases ht), (by intro t ht; cases ht), (by intro t u ht; cases ht), (by intro t ht; cases ht), ?_⟩, rfl, rfl, (by decide)⟩
  case refine_2 =>
    intro k hk _
    have : k = 0 := by have : (k : Int) ≤ 0 := hk; omega
    subst this; rfl
  clear O own1 hb2' hb3 y3 e3 n23 hb2 y2 e2 A1 xb f1 xa xab
  rintro ⟨sa, s, many, now, ix⟩ he ⟨i, a, F, atL, thL, hi, hil, O, B, hm, hno, hlast⟩
  simp only at hi O hm hno
  subst hi
  subst hm
  subst hno
  have S0 := h0.ext O.x
  have hnl := O.A.nowle
  have hla := B.la
  have hlt := B.lt
  have hsa := Own3 O.ta
  have hst := Own3 O.tt
  unfold N5_l0_B N5_l0_b
  dsimp only
  by_cases hi2 : i < script.length
  · have : decide ((i : Int) < ((s0.n : Nat) : Int)) = true := by rw [S0.1]; simp; omega
    rw [this, cond_true]
    refine idx_of (by omega) (by rw [S0.1]; omega) ?_
    obtain ⟨ad, hp, d0, d1, d2⟩ := S0.2 i script[i] (List.getElem?_eq_getElem hi2)
    rw [hp]
    simp only [nn_some', Int.toNat_natCast, d0, d1, d2, xI_some]
    intro b0 e0
    have y0 : Ext none' he (upd he b0 (.cells ⟨[.int .i64 0, .int .i64 0, .int .i64 0]⟩ 34)) := Ext.new e0
    have hb0 : Blk (upd he b0 (.cells ⟨[.int .i64 0, .int .i64 0, .int .i64 0]⟩ 34)) b0 34 [.int .i64 0, .int .i64 0, .int .i64 0] := Blk.upd_same
    have hn0 : h b0 = none := none_of O.x e0
    have g1 : ¬ F b0 := fun hx => O.A.there _ hx e0
    revert y0 hb0
    generalize upd he b0 _ = h2
    intro y0 hb0
    have O2 := O.ext y0
    have keep : ∀ {hh : Hp} {o : Obj}, Ext (fun x => x = b0) hh (upd hh b0 o) := Ext.upd rfl
    have three : ∀ (G : Hp → Prop), (∀ h5, Once h h5 W a F sa s atL thL → Blk h5 b0 34 [.int .i64 script[i].1, .int .i64 script[i].2.1, .int .i64 script[i].2.2] → G h5) →
        st h2 (bk b0) (.int .i64 script[i].1) fun h3 => st h3 ⟨b0, 1, none⟩ (.int .i64 script[i].2.1) fun h4 => st h4 ⟨b0, 2, none⟩ (.int .i64 script[i].2.2) fun h5 => G h5 := by
      intro G hG
      refine hb0.st (by simp) rfl ?_
      refine Blk.upd_same.st (by simp) rfl ?_
      refine Blk.upd_same.st (by simp) rfl ?_
      have e3 : Ext (fun x => x = b0) h2 (upd (upd (upd h2 b0 (.cells ⟨([.int .i64 0, .int .i64 0, .int .i64 0] : List Value).set 0 (.int .i64 script[i].1)⟩ 34 (0, 0))) b0
          (.cells ⟨(([.int .i64 0, .int .i64 0, .int .i64 0] : List Value).set 0 (.int .i64 script[i].1)).set 1 (.int .i64 script[i].2.1)⟩ 34 (0, 0))) b0
          (.cells ⟨((([.int .i64 0, .int .i64 0, .int .i64 0] : List Value).set 0 (.int .i64 script[i].1)).set 1 (.int .i64 script[i].2.1)).set 2 (.int .i64 script[i].2.2)⟩ 34 (0, 0))) := (keep.trans keep).trans keep
      refine hG _ ⟨O2.A.ext e3 (fun x hx e => g1 (e ▸ hx)), O2.ta.ext e3 ?_, O2.tt.ext e3 ?_, O.fA, O.fT, O.ne, O.f, ?_⟩ Blk.upd_same
      · intro x hx e; subst e; obtain ⟨l, hl⟩ := Own3_row O2.ta hx; exact hl.ne hb0 (by decide) rfl
      · intro x hx e; subst e; obtain ⟨l, hl⟩ := Own3_row O2.tt hx; exact hl.ne hb0 (by decide) rfl
      · intro x o ho _
        refine e3 x o (O2.x x o ho (fun e => e)) ?_
        intro e; subst e; rw [hn0] at ho; cases ho
    simp only [add_bk]
    refine three _ ?_
    clear three
    intro h5 O5 hb5
    have c0 : cell h5 (bk b0) = some (.int .i64 script[i].1) := by rw [hb5.cell]; rfl
    have wi : IntKind.wrap .i64 ((i : Int) + 1) = ((i + 1 : Nat) : Int) := by rw [wrap64 (by omega) (by omega)]; omega
    simp only [c0, hb5.cell, List.getElem?_cons_succ, List.getElem?_cons_zero, xI_some, wi]
    generalize script[i].1 = kind at *
    generalize script[i].2.1 = A at *
    generalize script[i].2.2 = tag at *
    cases hq1 : (kind == 1) with
    | true =>
      rw [cond_true]
      refine c12' O5.A (by omega) ?_ ?_
      · intro hfull
        have f1 : ((70 : Int) == 0) = false := rfl
        have f2 : decide (((a.ts.length : Nat) : Int) < 1024) = false := by simp; omega
        rw [f1, f2]
        simp only [beq_self_eq_true, Bool.not_true, cond_false]
        unfold N5_j1
        rw [f1, cond_false]
        exact once_j2 O5.A rfl rfl ⟨⟨i + 1, a, F, atL, thL, rfl, hi2, O5, B, rfl, rfl, by omega⟩, by omega⟩
      · intro hfree h6 F6 H6 e6 p6
        have O6 := O5.stepW H6 e6 p6
        have hb6 := e6.blk hb5 g1
        have f1 : ((0 : Int) == 0) = true := rfl
        have f2 : decide (((a.ts.length : Nat) : Int) < 1024) = true := by simp; omega
        have f3 : (a.last + 1 != ((sa.n : Nat) : Int)) = false := by simp; omega
        rw [f1, f2]
        simp only [beq_self_eq_true, Bool.not_true, cond_false, cond_true]
        rw [f3, cond_false]
        unfold N5_j1
        rw [f1, cond_true]
        simp only [nn_some', add_bk, hb6.cell, List.getElem?_cons_succ, List.getElem?_cons_zero, xI_some, mnmx hnl.1]
        intro b7 e7
        have y7 : Ext none' h6 (upd h6 b7 (.cells ⟨[iv (clampT a.now A)]⟩ 3)) := Ext.new e7
        have hb7 : Blk (upd h6 b7 (.cells ⟨[iv (clampT a.now A)]⟩ 3)) b7 3 [iv (clampT a.now A)] := Blk.upd_same
        change apK Try.prog 3 sa _ (upd h6 b7 (.cells ⟨[iv (clampT a.now A)]⟩ 3)) _
        revert y7 hb7
        generalize upd h6 b7 _ = h7
        intro y7 hb7
        refine (O6.ext y7).pushA hb7 (by omega) ?_
        intro sa' h8 O8
        intro b9 e9
        have y9 : Ext none' h8 (upd h8 b9 (.cells ⟨[iv 1]⟩ 3)) := Ext.new e9
        have hb9 : Blk (upd h8 b9 (.cells ⟨[iv 1]⟩ 3)) b9 3 [iv 1] := Blk.upd_same
        change apK Try.prog 3 s _ (upd h8 b9 (.cells ⟨[iv 1]⟩ 3)) _
        revert y9 hb9
        generalize upd h8 b9 _ = h9
        intro y9 hb9
        refine (O8.ext y9).pushT hb9 (by omega) ?_
        intro s' h10 O10
        have hlen : IntKind.wrap .i64 (((a.ts.length : Nat) : Int) + 1) = (((armed a A tag).ts.length : Nat) : Int) := by
          rw [wrap64 (by omega) (by omega)]; simp [armed]
        rw [hlen]
        have hl2 : (armed a A tag).last = a.last + 1 := rfl
        refine once_j2 O10.A rfl rfl ⟨⟨i + 1, _, F6, _, _, rfl, hi2, O10, ?_, rfl, rfl, by omega⟩, by omega⟩
        exact B.add (u := ⟨clampT a.now A, a.last + 1, tag⟩) hnl.2.1 rfl (fun t => by show t ∈ a.ts ++ [_] ↔ _; simp)
    | false =>
      rw [cond_false]
      cases hq2 : (kind == 2) with
      | true =>
        rw [cond_true]
        have fin : ∀ is, is = a.ts.any (fun x => A == x.id) → ∀ (KR : Bool → Hp → Prop), N5_j3 s0 (some (bk W)) sa s (a.ts.length : Int) a.now i (some (bk b0)) is h5 (fun n14 h11 => N5_j2 s0 (some (bk W)) sa s n14 a.now i h11 (fun h12 =>
            (∃ (i' : Nat) (a' : St) (F : Nat → Prop) (atL thL : List Int), ((sa, s, n14, a.now, ((i + 1 : Nat) : Int)) : Sl × Sl × Int × Int × Int).2.2.2.2 = i' ∧ i' ≤ script.length ∧ Once h h12 W a' F ((sa, s, n14, a.now, ((i + 1 : Nat) : Int)) : Sl × Sl × Int × Int × Int).1 ((sa, s, n14, a.now, ((i + 1 : Nat) : Int)) : Sl × Sl × Int × Int × Int).2.1 atL thL ∧ Book atL thL (· ∈ a'.ts) a'.last ∧
              ((sa, s, n14, a.now, ((i + 1 : Nat) : Int)) : Sl × Sl × Int × Int × Int).2.2.1 = a'.ts.length ∧ ((sa, s, n14, a.now, ((i + 1 : Nat) : Int)) : Sl × Sl × Int × Int × Int).2.2.2.1 = a'.now ∧ a'.last ≤ i') ∧ script.length - (((i + 1 : Nat) : Int)).toNat < script.length - (i : Int).toNat) (fun b h => KR b h)) (fun b h => KR b h) := by
          intro is his KR
          refine once_j3 O5 B hb5 g1 rfl his ?_
          intro h6 F6 thL6 O6 B6
          exact once_j2 O6.A rfl rfl ⟨⟨i + 1, cancel a A, F6, atL, thL6, rfl, hi2, O6, B6, rfl, rfl, by have : (cancel a A).last = a.last := rfl; omega⟩, by omega⟩
        by_cases hA0 : A > 0
        · have : decide (A > 0) = true := by simpa using hA0
          rw [this, cond_true]
          by_cases hA1 : A < ((sa.n : Nat) : Int)
          · have : decide (A < ((sa.n : Nat) : Int)) = true := by simpa using hA1
            rw [this, cond_true]
            refine idx_of (by omega) (by omega) ?_
            obtain ⟨n13, hth, his⟩ := once_any B (id := A) (by omega) (by omega)
            obtain ⟨rt, hpt, ct⟩ := Own3_get O5.tt hth
            have hpt2 := hpt
            rw [hpt]
            simp only [nn_some', add_bk, Nat.mul_one, ct, xI_some]
            exact fin _ his _
          · have : decide (A < ((sa.n : Nat) : Int)) = false := by simpa using hA1
            rw [this, cond_false]
            exact fin _ (any_no B (.inr (by omega))).symm _
        · have : decide (A > 0) = false := by simpa using hA0
          rw [this, cond_false]
          exact fin _ (any_no B (.inl (by omega))).symm _
      | false =>
        rw [cond_false]
        cases hq3 : (kind == 3) with
        | true =>
          rw [cond_true]
          rw [mnmx hnl.1]
          refine c14' O5.A ?_
          intro h6 F6 s4 H6 own6 fr6 e6 p6
          have O6 := O5.stepW H6 e6 p6
          have ids := O.A.ids
          have Fr : Fired (clampT a.now A) a.ts (advTs a A).1 (advanced a A).ts := fired ids.1 (Nat.le_refl _)
          refine once_l4 O6 B Fr own6 hnl.2.2 (by show a.last < _; omega) ?_
          intro h7 thL7 O7 B7
          refine c15' O7.A ?_
          intro h8 y8
          have O8 := O7.ext y8
          have fin : ∀ (KR : Bool → Hp → Prop), N5_j2 s0 (some (bk W)) sa s ((advanced a A).ts.length : Int) (clampT a.now A) i h8 (fun h26 =>
            (∃ (i' : Nat) (a' : St) (F : Nat → Prop) (atL thL : List Int), ((sa, s, ((advanced a A).ts.length : Int), clampT a.now A, ((i + 1 : Nat) : Int)) : Sl × Sl × Int × Int × Int).2.2.2.2 = i' ∧ i' ≤ script.length ∧ Once h h26 W a' F ((sa, s, ((advanced a A).ts.length : Int), clampT a.now A, ((i + 1 : Nat) : Int)) : Sl × Sl × Int × Int × Int).1 ((sa, s, ((advanced a A).ts.length : Int), clampT a.now A, ((i + 1 : Nat) : Int)) : Sl × Sl × Int × Int × Int).2.1 atL thL ∧ Book atL thL (· ∈ a'.ts) a'.last ∧
              ((sa, s, ((advanced a A).ts.length : Int), clampT a.now A, ((i + 1 : Nat) : Int)) : Sl × Sl × Int × Int × Int).2.2.1 = a'.ts.length ∧ ((sa, s, ((advanced a A).ts.length : Int), clampT a.now A, ((i + 1 : Nat) : Int)) : Sl × Sl × Int × Int × Int).2.2.2.1 = a'.now ∧ a'.last ≤ i') ∧ script.length - (((i + 1 : Nat) : Int)).toNat < script.length - (i : Int).toNat) (fun b h => KR b h) := by
            intro KR
            exact once_j2 O8.A rfl rfl ⟨⟨i + 1, advanced a A, F6, atL, thL7, rfl, hi2, O8, B7, rfl, rfl, by have : (advanced a A).last = a.last := rfl; omega⟩, by omega⟩
          cases hf : first (advanced a A).ts with
          | none =>
            have hz := first_none hf
            show (bif !(false == decide (((advanced a A).ts.length : Int) > 0)) then _ else _)
            have : decide (((advanced a A).ts.length : Int) > 0) = false := by rw [hz]; rfl
            rw [this]
            simp only [beq_self_eq_true, Bool.not_true, cond_false]
            exact fin _
          | some u =>
            have hu := first_in hf
            show (bif !(true == decide (((advanced a A).ts.length : Int) > 0)) then _ else _)
            have hpos := List.length_pos_of_mem hu
            have : decide (((advanced a A).ts.length : Int) > 0) = true := by simp; omega
            rw [this]
            simp only [beq_self_eq_true, Bool.not_true, cond_false, cond_true]
            have hlate := Fr.late u hu
            have : decide (u.tim ≤ clampT a.now A) = false := by simp; omega
            rw [this, cond_false]
            exact fin _
        | false =>
          rw [cond_false]
          exact once_j2 O5.A rfl rfl ⟨⟨i + 1, a, F, atL, thL, rfl, hi2, O5, B, rfl, rfl, by omega⟩, by omega⟩
  · have : decide ((i : Int) < ((s0.n : Nat) : Int)) = false := by rw [S0.1]; simp; omega
    rw [this, cond_false]
    exact hK he O.x

end Go.Proofs.Ytfnlldbaplakoaa

/-
  The facts that the laws' last texts share.
-/
set_option linter.unusedVariables false
namespace Go.Proofs.Ytfnlldbaplakoaa
open Go Go.Hw
open Go.ChangeShapes Go.WideShapes Go.ChangeAt Go.RowKit

theorem own_knob : ownKnob Try.prog.godebug = none := by kernel_rfl
theorem laid_out : laidOutB Try.prog = true := by kernel_rfl
theorem u23 : Try.prog.underlying 23 = some (.slice 34) := by kernel_rfl
theorem u36 : Try.prog.underlying 36 = some (.slice 3) := by kernel_rfl
theorem c34cells : Try.prog.cellsOf 34 = 3 := by kernel_rfl
theorem c3cells : Try.prog.cellsOf 3 = 1 := by kernel_rfl
theorem b34 : Try.prog.bytesOf 34 = 24 := by kernel_rfl
theorem b3 : Try.prog.bytesOf 3 = 8 := by kernel_rfl
theorem ops_int {H : Type} {enc : TypeId × Value → H} {W : World} {sp : Nat → Bool} {held : Bool} {n : Nat} {cs : List Value} {y : DataW H × List MemPlace} (h : DataW.trod enc Try.prog W 0 sp held n 34 cs = some y) :
    ∃ a b c, cs = [.int .i64 a, .int .i64 b, .int .i64 c] := by
  have hu : ∃ f0 f1 f2, Try.prog.underlying 34 = some (.struct #[f0, f1, f2]) ∧ (f0.type = 3 ∧ f0.offset = 0) ∧ (f1.type = 3 ∧ f1.offset = 1) ∧ (f2.type = 3 ∧ f2.offset = 2) := ⟨⟨"Kind", 3, 0, false, "", "", 0⟩, ⟨"A", 3, 1, false, "", "", 8⟩, ⟨"Tag", 3, 2, false, "", "", 16⟩, by kernel_rfl, ⟨rfl, rfl⟩, ⟨rfl, rfl⟩, ⟨rfl, rfl⟩⟩
  obtain ⟨f0, f1, f2, hu, ⟨a0, a1⟩, ⟨b0, b1⟩, ⟨g0, g1⟩⟩ := hu
  exact three_ints (k := .i64) hu c34cells ⟨by rw [a0]; exact u3, a1, by rw [a0]; exact c3cells⟩ ⟨by rw [b0]; exact u3, b1, by rw [b0]; exact c3cells⟩ ⟨by rw [g0]; exact u3, g1, by rw [g0]; exact c3cells⟩ h

end Go.Proofs.Ytfnlldbaplakoaa
