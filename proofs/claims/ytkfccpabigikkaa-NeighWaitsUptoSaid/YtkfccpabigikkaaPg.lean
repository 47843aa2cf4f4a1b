/-
 copy, maps that are written, a string that is walked; all effects in one.
-/
import Derived.Test.YtkfccpabigikkaaPf
import Derived.Test.YtkfccpabigikkaaPc
import Derived.Recover
import Derived.Test.YtkfccpabigikkaaPd
set_option linter.unusedSimpArgs false
set_option linter.unusedVariables false
namespace Go.Ix
open Go Go.Hw
section
variable {P : Program} {E : Nat → Bool} {G : Nat} {h0 : Hp} {σ σ' : Sig} {H : CH} {h : Hp} {env : CE} {ρ : Env}
def cpX (P : Program) (H : CH) (e : TypeId) (s y : CV) : Option (CV × CH) :=
 match lnX y with
 | some m => match s with
  | .snil => match srX H (P.cellsOf e) (Nat.min m 0) y with
   | some _ => some (.int .i64 0, H)
   | none => none
  | .slc b o n _ => match srX H (P.cellsOf e) (Nat.min m n) y with
   | some l => match wrX H b o l with
    | some H' => some (.int .i64 (Nat.min m n : Nat), H')
    | none => none
   | none => none
  | _ => none
 | none => none
theorem cpX_ok (hh : HR P G h0 σ H h) {e : TypeId} {s y z : CV} {H' : CH} {p : Option Addr} {n c : Nat} {vy : Value} (hx : cpX P H e s y = some (z, H')) (hs : VR σ s (.slice p n c)) (hy : VR σ y vy) {F : Nat → Hp → Prop}
  (hF : ∀ r h', VR σ z (.int .i64 (r : Nat)) → HR P G h0 σ H' h' → F r h') : cpK P e ⟨p, n, c⟩ vy h F := by
 unfold cpX at hx
 split at hx
 ·rename_i m hm
  unfold cpK
  refine lnX_ok hm hy ?_
  split at hx
  ·split at hx
   ·rename_i l hl
    cases hx
    unfold VR at hs; cases hs
    obtain ⟨vl, l1, l2⟩ := srX_ok hh hl hy
    refine l2 _ ?_
    refine hF _ h ?_ hh
    unfold VR
    have : Nat.min m 0 = 0 := Nat.min_eq_right (Nat.zero_le _)
    simp only [this]; rfl
   ·cases hx
  ·rename_i b o n' c'
   split at hx
   ·rename_i l hl
    split at hx
    ·rename_i H1 hw
     cases hx
     obtain ⟨p', c'', hp, hs⟩ := slc_ok hs
     cases hs
     obtain ⟨vl, l1, l2⟩ := srX_ok hh hl hy
     refine l2 _ ?_
     simp only []
     exact wrX_ok hh hw hp l1 fun h' hh' => hF _ h' (by unfold VR; rfl) hh'
    ·cases hx
   ·cases hx
  ·cases hx
 ·cases hx
def setE (k x : CV) : List (CV × CV × Nat) → Nat → List (CV × CV × Nat)
 | [], _ => []
 | (_, _, b) :: l, 0 => (k, x, b) :: l
 | e :: l, i + 1 => e :: setE k x l i
def muX (P : Program) (H : CH) (t : TypeId) (m k x : CV) : Option CH :=
 match P.underlying t with
 | some (.map kt et) => match P.underlying kt with
  | some kd => bif plainKey kd then (match m with
   | .map b => match H.t.get b with
    | some (.mp es c) => match findX kd k es 0 with
     | some none => some ⟨H.t.set b (some (.mp (es ++ [(k, x, c)]) (c + 1))), H.nx⟩
     | some (some (i, _)) => some ⟨H.t.set b (some (.mp (setE k x es i) c)), H.nx⟩
     | none => none
    | _ => none
   | _ => none) else none
  | none => none
 | _ => none
theorem entR_app {k x : CV} {c : Nat} {vk vx : Value} (hk : VR σ k vk) (hx : VR σ x vx) : ∀ {es : List (CV × CV × Nat)} {l : List MapEntry}, entR σ es l → entR σ (es ++ [(k, x, c)]) (l ++ [{ key := vk, val := vx, born := c }]) := by
 intro es
 induction es with
 | nil => intro l h; unfold entR at h; subst h; exact ⟨_, [], rfl, hk, hx, rfl, by unfold entR; rfl⟩
 | cons e es ih =>
  intro l h
  obtain ⟨a, b, d⟩ := e
  unfold entR at h; obtain ⟨e, r, rfl, h1, h2, h3, h4⟩ := h
  exact ⟨e, _, rfl, h1, h2, h3, ih h4⟩
theorem entR_set {k x : CV} {vk vx : Value} (hk : VR σ k vk) (hx : VR σ x vx) : ∀ {es : List (CV × CV × Nat)} {l : List MapEntry} {i : Nat}, entR σ es l → entR σ (setE k x es i) (l.modify i fun e => { e with key := vk, val := vx }) := by
 intro es
 induction es with
 | nil => intro l i h; unfold entR at h; subst h; cases i <;> (unfold setE entR; simp)
 | cons e es ih =>
  intro l i h
  obtain ⟨a, b, d⟩ := e
  unfold entR at h; obtain ⟨e, r, rfl, h1, h2, h3, h4⟩ := h
  cases i with
  | zero => simp only [setE, List.modify_zero_cons]; exact ⟨_, r, rfl, hk, hx, h3, h4⟩
  | succ i => simp only [setE, List.modify_succ_cons]; exact ⟨e, _, rfl, h1, h2, h3, ih h4⟩
theorem muX_ok (hh : HR P G h0 σ H h) {t : TypeId} {m k x : CV} {H' : CH} {vm vk vx : Value} (hu : muX P H t m k x = some H') (hm : VR σ m vm) (hk : VR σ k vk) (hx : VR σ x vx) {F : Hp → Prop} (hF : ∀ h', HR P G h0 σ H' h' → F h') :
  muK P t vm vk vx h F := by
 unfold muX at hu
 unfold muK
 split at hu
 ·rename_i kt et ht
  rw [ht]; simp only []
  split at hu
  ·rename_i kd hkd
   rw [hkd]; simp only []
   cases hp : plainKey kd with
   | false => rw [hp] at hu; cases hu
   | true =>
    rw [hp] at hu
    simp only [cond_true] at hu ⊢
    split at hu
    ·rename_i b
     split at hu
     ·rename_i es c hg
      unfold VR at hm; obtain ⟨p, hpb, rfl⟩ := hm
      obtain ⟨q, y, k1, k2, k3⟩ := hh.obj b _ hg
      rw [hpb] at k1; cases k1
      unfold OR at k3
      obtain ⟨l, rfl, he, h0r⟩ := k3
      unfold xMapO; simp only []; rw [k2]; simp only []
      split at hu
      ·rename_i hf
       cases hu
       obtain ⟨r, g1, g2⟩ := findX_ok hk hf he
       unfold keyAt
       simp only []
       rw [g1]
       cases r with
       | some r => obtain ⟨j, u⟩ := r; exact g2.elim
       | none =>
        refine hF _ (hh.chg hg hpb h0r ?_)
        unfold mset OR
        exact ⟨_, by simp only []; rw [List.push_toArray], entR_app hk hx he, h0r⟩
      ·rename_i i w hf
       cases hu
       obtain ⟨r, g1, g2⟩ := findX_ok hk hf he
       unfold keyAt
       simp only []
       rw [g1]
       cases r with
       | none => exact g2.elim
       | some r =>
        obtain ⟨j, u⟩ := r
        obtain ⟨rfl, _⟩ := g2
        refine hF _ (hh.chg hg hpb h0r ?_)
        unfold mset OR
        refine ⟨(l.modify i fun e => { e with key := vk, val := vx }), ?_, entR_set hk hx he, h0r⟩
        simp only [Obj.map.injEq, and_true]
        apply Array.ext'; simp
      ·cases hu
     ·cases hu
    ·cases hu
  ·cases hu
 ·cases hu
def delE : List (CV × CV × Nat) → Nat → List (CV × CV × Nat)
 | [], _ => []
 | _ :: l, 0 => l
 | e :: l, i + 1 => e :: delE l i
theorem entR_del : ∀ {es : List (CV × CV × Nat)} {l : List MapEntry} {i : Nat}, entR σ es l → entR σ (delE es i) (l.eraseIdx i) := by
 intro es
 induction es with
 | nil => intro l i h; unfold entR at h; subst h; cases i <;> (unfold delE entR; simp)
 | cons e es ih =>
  intro l i h
  obtain ⟨a, b, d⟩ := e
  unfold entR at h; obtain ⟨e, r, rfl, h1, h2, h3, h4⟩ := h
  cases i with
  | zero => simp only [delE, List.eraseIdx_cons_zero]; exact h4
  | succ i => simp only [delE, List.eraseIdx_cons_succ]; exact ⟨e, _, rfl, h1, h2, h3, ih h4⟩
def mdX (P : Program) (H : CH) (t : TypeId) (m k : CV) : Option CH :=
 match P.underlying t with
 | some (.map kt et) => match P.underlying kt with
  | some kd => bif plainKey kd then (match m with
   | .mnil => some H
   | .map b => match H.t.get b with
    | some (.mp es c) => match findX kd k es 0 with
     | some none => some ⟨H.t.set b (some (.mp es c)), H.nx⟩
     | some (some (i, _)) => some ⟨H.t.set b (some (.mp (delE es i) c)), H.nx⟩
     | none => none
    | _ => none
   | _ => none) else none
  | none => none
 | _ => none
theorem mdX_ok (hh : HR P G h0 σ H h) {t : TypeId} {m k : CV} {H' : CH} {vm vk : Value} (hu : mdX P H t m k = some H') (hm : VR σ m vm) (hk : VR σ k vk) {F : Hp → Prop} (hF : ∀ h', HR P G h0 σ H' h' → F h') :
  mdK P t vm vk h F := by
 unfold mdX at hu
 unfold mdK
 split at hu
 ·rename_i kt et ht
  rw [ht]; simp only []
  split at hu
  ·rename_i kd hkd
   rw [hkd]; simp only []
   cases hp : plainKey kd with
   | false => rw [hp] at hu; cases hu
   | true =>
    rw [hp] at hu
    simp only [cond_true] at hu ⊢
    split at hu
    ·cases hu; unfold VR at hm; subst hm; exact hF _ hh
    ·rename_i b
     split at hu
     ·rename_i es c hg
      unfold VR at hm; obtain ⟨p, hpb, rfl⟩ := hm
      obtain ⟨q, y, k1, k2, k3⟩ := hh.obj b _ hg
      rw [hpb] at k1; cases k1
      unfold OR at k3
      obtain ⟨l, rfl, he, h0r⟩ := k3
      simp only []
      unfold xMapO; simp only []; rw [k2]; simp only []
      split at hu
      ·rename_i hf
       cases hu
       obtain ⟨r, g1, g2⟩ := findX_ok hk hf he
       unfold keyAt
       simp only []
       rw [g1]
       cases r with
       | some r => obtain ⟨j, u⟩ := r; exact g2.elim
       | none =>
        refine hF _ (hh.chg hg hpb h0r ?_)
        unfold mdel OR
        exact ⟨_, rfl, he, h0r⟩
      ·rename_i i w hf
       cases hu
       obtain ⟨r, g1, g2⟩ := findX_ok hk hf he
       unfold keyAt
       simp only []
       rw [g1]
       cases r with
       | none => exact g2.elim
       | some r =>
        obtain ⟨j, u⟩ := r
        obtain ⟨rfl, _⟩ := g2
        refine hF _ (hh.chg hg hpb h0r ?_)
        unfold mdel OR
        refine ⟨l.eraseIdx i, ?_, entR_del he, h0r⟩
        simp only [Obj.map.injEq, and_true]
        apply Array.ext'
        simp only [Array.eraseIdxIfInBounds]
        split
        ·simp
        ·rename_i hn; simp at hn; simp [List.eraseIdx_of_length_le hn]
      ·cases hu
     ·cases hu
    ·cases hu
  ·cases hu
 ·cases hu
def mmpX (H : CH) : CV × CH := (.map H.nx, addB H (.mp [] 0))
theorem newObj_swp {o : Obj} {K : Nat → Hp → Prop} : swp P (newObj o) h K = ∀ b, h b = none → K b (upd h b o) := rfl
theorem mmpX_ok (hh : HR P G h0 σ H h) {t : TypeId} {K : Value → Hp → Prop} (hK : ∀ σ' v h', Le σ σ' → VR σ' (mmpX H).1 v → HR P G h0 σ' (mmpX H).2 h' → K v h') : swp P (Instr.makeMap t none) h K := by
 unfold Instr.makeMap
 simp only [swp_bind']
 rw [newObj_swp]
 intro b hb
 obtain ⟨hl, hn⟩ := hh.add (o := .mp [] 0) (x := .map #[] 0) (p := ⟨b, 0, 0, 0⟩) hb rfl fun h0b => by unfold OR; exact ⟨[], rfl, by unfold entR; rfl, h0b⟩
 exact hK _ _ _ hl (by unfold mmpX VR; exact ⟨_, by simp [plus]; rfl, rfl⟩) hn
def rgX (P : Program) (H : CH) (t : TypeId) (x : CV) : Option (CV × CH) :=
 match P.underlying t, x with
 | some .string, .str l => some (.ptr H.nx 0, addB H (.sit l 0))
 | some (.map _ _), .map m => match H.t.get m with
  | some (.mp es c) => some (.ptr H.nx 0, addB H (.mit (some m) c [] c))
  | _ => none
 | _, _ => none
theorem rgX_ok (hh : HR P G h0 σ H h) {t : TypeId} {x y : CV} {v : Value} {H' : CH} (hx : rgX P H t x = some (y, H')) (hv : VR σ x v) {K : Value → Hp → Prop} (hK : ∀ σ' v h', Le σ σ' → VR σ' y v → HR P G h0 σ' H' h' → K v h') :
  rgK P t v h fun p h' => K (.pointer p) h' := by
 unfold rgX at hx
 split at hx
 ·rename_i l hu
  cases hx
  unfold VR at hv; obtain ⟨s, rfl, rfl⟩ := hv
  unfold rgK
  rw [hu]
  simp only []
  intro b hb
  obtain ⟨hl, hn⟩ := hh.add (o := .sit (bl s) 0) (x := .stringIter s 0) (p := ⟨b, 0, 0, 0⟩) hb rfl fun h0b => by unfold OR; exact ⟨s, rfl, rfl, h0b, rfl⟩
  exact hK _ _ _ hl (by unfold VR; exact ⟨_, by simp [plus]; rfl, rfl⟩) hn
 ·rename_i m hu
  split at hx
  ·rename_i es c hg
   cases hx
   unfold VR at hv; obtain ⟨p, hp, rfl⟩ := hv
   obtain ⟨l, g1, g2⟩ := mp_at hh hg hp
   unfold rgK
   rw [hu]
   simp only []
   unfold rgM
   simp only [g1]
   intro b hb
   obtain ⟨hl, hn⟩ := hh.add (o := .mit (some m) c [] c) (x := .mapIter (some p.r) c #[] c) (p := ⟨b, 0, 0, 0⟩) hb rfl fun h0b => by
    unfold OR; exact ⟨_, rfl, ⟨p, plus_le (hh.fresh _ (Nat.le_refl _)) _ _ hp, rfl⟩, h0b, rfl⟩
   exact hK _ _ _ hl (by unfold VR; exact ⟨_, by simp [plus]; rfl, rfl⟩) hn
  ·cases hx
 ·cases hx
def nxX (H : CH) (x : CV) : Option (CV × CH) :=
 match x with
 | .ptr b 0 => match H.t.get b with
  | some (.sit l n) => match l[n]? with
   | some c => bif Nat.blt c 128 then some (.tup [.bool true, .int .i64 (n : Nat), .int .i32 (c : Nat)], ⟨H.t.set b (some (.sit l (n + 1))), H.nx⟩) else none
   | none => some (.tup [.bool false], H)
  | _ => none
 | _ => none
theorem nxX_ok (hh : HR P G h0 σ H h) {x y : CV} {v : Value} {H' : CH} (hx : nxX H x = some (y, H')) (hv : VR σ x v) {K : Value → Hp → Prop} (hK : ∀ v h', VR σ y v → HR P G h0 σ H' h' → K v h') : ∃ p, v = .pointer p ∧ nxS h p (fun i c h' => K (.tuple ⟨[.bool true, goInt i, .int .i32 c]⟩) h') fun h' => K (.tuple ⟨[.bool false]⟩) h' := by
 unfold nxX at hx
 split at hx
 ·rename_i b
  split at hx
  ·rename_i l n hg
   unfold VR at hv; obtain ⟨p, hp, rfl⟩ := hv
   obtain ⟨q, z, k1, k2, k3⟩ := hh.obj b _ hg
   rw [hp] at k1; cases k1
   unfold OR at k3
   obtain ⟨s, rfl, rfl, h0r, hd⟩ := k3
   have hat : p.at 0 = ⟨p.r, 0, none⟩ := by simp [Pl.at, hd]
   rw [hat]
   refine ⟨_, rfl, ?_⟩
   unfold nxS
   simp only [k2]
   split at hx
   ·rename_i c hc
    obtain ⟨hb, hxx⟩ := condN hx
    cases hxx
    have hb : c < 128 := by simpa [Nat.blt_eq] using hb
    obtain ⟨hlt, hgc⟩ := bl_get hc
    rw [decide_eq_true hlt, cond_true]
    have hdec : Utf8.decode s n = (c, 1) := by
     unfold Utf8.decode
     have : (s.get! (n + 0)).toNat = c := by
      rw [Nat.add_zero, ← hgc]
      rfl
     simp only [this]
     rw [if_pos hb]
    rw [hdec]
    dsimp only
    refine hK _ _ ?_ (hh.chg hg hp h0r (by unfold OR; exact ⟨s, rfl, rfl, h0r, hd⟩))
    unfold VR
    refine ⟨_, rfl, ?_⟩
    unfold VRs; refine ⟨_, _, rfl, by unfold VR; rfl, ?_⟩
    unfold VRs; refine ⟨_, _, rfl, by unfold VR; rfl, ?_⟩
    unfold VRs; refine ⟨_, _, rfl, by unfold VR; rfl, ?_⟩
    unfold VRs; rfl
   ·rename_i hc
    cases hx
    have hge : ¬ n < s.size := by
     intro hlt
     rw [List.getElem?_eq_none_iff, bl_len] at hc; omega
    rw [decide_eq_false hge, cond_false]
    refine hK _ _ ?_ hh
    unfold VR
    refine ⟨_, rfl, ?_⟩
    unfold VRs; refine ⟨_, _, rfl, by unfold VR; rfl, ?_⟩
    unfold VRs; rfl
  ·cases hx
 ·cases hx
end
end Go.Ix

/-
 All effects in one.
-/
set_option linter.unusedSimpArgs false
set_option linter.unusedVariables false
namespace Go.Ix
open Go Go.Hw
section
variable {P : Program} {E : Nat → Bool} {G : Nat} {h0 : Hp} {σ σ' : Sig} {H : CH} {h : Hp} {env : CE} {ρ : Env}
def bltX (P : Program) (H : CH) (b : Builtin) (ts : List TypeId) (l : List CV) : Option (CV × CH) :=
 match b, ts, l with
 | .append, t :: u :: _, [s, y] => match P.underlying t with
  | some (.slice e) => bif bytes0 P e && notIntT P u then apX P H e s y else none
  | _ => none
 | .copy, t :: _, [s, y] => match P.underlying t with
  | some (.slice e) => bif (P.info? e).isSome then cpX P H e s y else none
  | _ => none
 | .delete, t :: _, [m, k] => match mdX P H t m k with
  | some H' => some (.tup [], H')
  | none => none
 | .clear, t :: _, [m] => match P.underlying t with
  | some (.map _ _) => match m with
   | .mnil => some (.tup [], H)
   | .map b => match H.t.get b with
    | some (.mp _ c) => some (.tup [], ⟨H.t.set b (some (.mp [] c)), H.nx⟩)
    | _ => none
   | _ => none
  | _ => none
 | _, _, _ => none
theorem isSl {s : CV} {v : Value} {P : Program} {H : CH} {e : TypeId} {y z : CV} {H' : CH} (hx : apX P H e s y = some (z, H') ∨ cpX P H e s y = some (z, H')) (hs : VR σ s v) : ∃ p n c, v = .slice p n c := by
 cases s
 case snil => unfold VR at hs; exact ⟨_, _, _, hs⟩
 case slc => obtain ⟨p, c, _, rfl⟩ := slc_ok hs; exact ⟨_, _, _, rfl⟩
 all_goals
  exfalso
  rcases hx with hx | hx
  ·unfold apX at hx
   split at hx
   ·split at hx <;> cases hx
   ·cases hx
  ·unfold cpX at hx
   split at hx <;> cases hx
theorem bltX_known {b : Builtin} {ts : List TypeId} {l : List CV} {y : CV} {H' : CH} (hx : bltX P H b ts l = some (y, H')) : knownB b = true := by
 unfold bltX at hx
 split at hx <;> first | rfl | cases hx
theorem bltX_ok (hh : HR P G h0 σ H h) {b : Builtin} {ts : List TypeId} {l : List CV} {vs : List Value} {y : CV} {H' : CH} (hx : bltX P H b ts l = some (y, H')) (hv : VRs σ l vs) {K : Value → Hp → Prop}
  (hK : ∀ σ' v h', Le σ σ' → VR σ' y v → HR P G h0 σ' H' h' → K v h') : bltK P b ts vs h K := by
 unfold bltX at hx
 split at hx
 ·split at hx
  ·rename_i e hu
   cases hb : bytes0 P e && notIntT P _ with
   | false => rw [hb] at hx; cases hx
   | true =>
    rw [hb] at hx
    unfold VRs at hv; obtain ⟨v, r, rfl, h1, h2⟩ := hv
    unfold VRs at h2; obtain ⟨w, r, rfl, h2, h3⟩ := h2
    unfold VRs at h3; subst h3
    unfold bltK; simp only []
    unfold elT; rw [hu]; simp only []; rw [hb]
    obtain ⟨p, n, c, rfl⟩ := isSl (.inl hx) h1
    exact apX_ok hh hx h1 h2 fun σ' s h' hl hr hh' => hK σ' _ h' hl hr hh'
  ·cases hx
 ·split at hx
  ·rename_i e hu
   cases hb : (P.info? e).isSome with
   | false => rw [hb] at hx; cases hx
   | true =>
    rw [hb] at hx
    unfold VRs at hv; obtain ⟨v, r, rfl, h1, h2⟩ := hv
    unfold VRs at h2; obtain ⟨w, r, rfl, h2, h3⟩ := h2
    unfold VRs at h3; subst h3
    unfold bltK; simp only []
    unfold elT; rw [hu]; simp only []; rw [hb]
    obtain ⟨p, n, c, rfl⟩ := isSl (.inr hx) h1
    exact cpX_ok hh hx h1 h2 fun r h' hr hh' => hK σ _ h' (Le.refl σ) hr hh'
  ·cases hx
 ·split at hx
  ·rename_i H1 hm
   cases hx
   unfold VRs at hv; obtain ⟨v, r, rfl, h1, h2⟩ := hv
   unfold VRs at h2; obtain ⟨w, r, rfl, h2, h3⟩ := h2
   unfold VRs at h3; subst h3
   unfold bltK; simp only []
   exact mdX_ok hh hm h1 h2 fun h' hh' => hK σ _ h' (Le.refl σ) VR_undef hh'
  ·cases hx
 ·split at hx
  ·rename_i hu
   unfold VRs at hv; obtain ⟨v, r, rfl, h1, h2⟩ := hv
   unfold VRs at h2; subst h2
   unfold bltK; simp only []; rw [hu]; simp only []
   split at hx
   ·cases hx; unfold VR at h1; subst h1; exact hK σ _ h (Le.refl σ) VR_undef hh
   ·rename_i b
    split at hx
    ·rename_i es c hg
     cases hx
     unfold VR at h1; obtain ⟨p, hp, rfl⟩ := h1
     obtain ⟨q, z, k1, k2, k3⟩ := hh.obj b _ hg
     rw [hp] at k1; cases k1
     unfold OR at k3
     obtain ⟨l, rfl, he, h0r⟩ := k3
     simp only []; unfold clM; simp only [k2]
     exact hK σ _ _ (Le.refl σ) VR_undef (hh.chg hg hp h0r (by unfold OR; exact ⟨[], rfl, by unfold entR; rfl, h0r⟩))
    ·cases hx
   ·cases hx
  ·cases hx
 ·cases hx
def eX (P : Program) (G : Nat) (H : CH) (env : CE) (o : Oper) : Option (CV × CH) :=
 match o.op with
 | .store t a x => match evC G env a, evC G env x with
  | some a, some x => match stX P H t a x with
   | some H' => some (.tup [], H')
   | none => none
  | _, _ => none
 | .alloc e => allocX P H e
 | .box e x => match evC G env x with
  | some x => some (boxX H e x)
  | none => none
 | .buildSlice t n ps => match evPs G env ps.toList with
  | some ps => bsX P H t n ps
  | none => none
 | .makeSlice t l c => match evC G env l, evC G env c with
  | some l, some c => mkX P H t l c
  | _, _ => none
 | .convert s d x => match evC G env x with
  | some x => s2bX P H s d x
  | none => none
 | .mapUpdate t m k x => match evC G env m, evC G env k, evC G env x with
  | some m, some k, some x => match muX P H t m k x with
   | some H' => some (.tup [], H')
   | none => none
  | _, _, _ => none
 | .insert t m k x => match evC G env m, evC G env k, evC G env x with
  | some m, some k, some x => match muX P H t m k x with
   | some H' => some (.tup [], H')
   | none => none
  | _, _, _ => none
 | .makeMap t none => some (mmpX H)
 | .range t x => match evC G env x with
  | some x => rgX P H t x
  | none => none
 | .next x true => match evC G env x with
  | some x => nxX H x
  | none => none
 | .call ⟨.builtin b, args, ts⟩ => match evCs G env args.toList with
  | some l => bltX P H b ts.toList l
  | none => none
 | _ => none
theorem some_unit {o : Oper} {K : Value → Hp → Prop} {s : Sem Unit} {l : List Operand} (hl : o.op.operands.toList = l) (hs : isSel o.op = false) (ho : okAll ρ l = true)
  (he : execOp (evD ρ) o = do s; pure Next.skip) (hk : swp P s h fun _ h' => K undef h') : someAny ρ P o h K := by
 unfold someAny
 rw [hl, ho, hs]
 show opS P o (evD ρ) h K
 unfold opS
 rw [he]
 exact uswp hk
theorem eX_ok (he : ER σ env ρ) (hh : HR P G h0 σ H h) {o : Oper} {y : CV} {H' : CH} (hx : eX P G H env o = some (y, H')) {K : Value → Hp → Prop} (hK : ∀ σ' v h', Le σ σ' → VR σ' y v → HR P G h0 σ' H' h' → K v h') : opK P E o ρ h K := by
 obtain ⟨dst, op, type, pos, after, guard⟩ := o
 unfold eX at hx
 cases op <;> simp only [] at hx <;> first | (cases hx; done) | skip
 case store t a x =>
  split at hx
  ·rename_i ca cx ha hxx
   split at hx
   ·rename_i H1 hs
    cases hx
    obtain ⟨va, a1, a2⟩ := evC_ok ha he hh
    obtain ⟨vx, x1, x2⟩ := evC_ok hxx he hh
    unfold opK
    refine mv_ok a1 (mv_ok x1 ?_)
    exact stX_ok (F := fun h' => K undef h') hh hs a2 x2 fun h' hh' => hK σ _ h' (Le.refl σ) VR_undef hh'
   ·cases hx
  ·cases hx
 case alloc e =>
  unfold opK
  exact some_any (l := []) rfl rfl rfl rfl (alloc_ok hh hx hK)
 case box e x =>
  split at hx
  ·rename_i c hc
   cases hx
   obtain ⟨v, h1, h2⟩ := evC_ok hc he hh
   unfold opK
   exact some_any rfl rfl (ok1 h1) rfl (by rw [(some1 h1).2]; exact box_ok hh h2 hK)
  ·cases hx
 case buildSlice t n ps =>
  split at hx
  ·rename_i c hc
   obtain ⟨h1, h2⟩ := evPs_ok he hh hc
   unfold opK
   have e0 : execOp (evD ρ) ⟨dst, .buildSlice t n ps, type, pos, after, guard⟩ = (Instr.buildSlice t n (ps.map fun (p : Nat × Operand) => (p.1, evD ρ p.2)) >>= fun x => pure (Next.value x)) :=
    congrArg (fun q => Instr.buildSlice t n q >>= fun x => pure (Next.value x)) rfl
   refine some_any (l := ps.toList.map (·.2)) (s := Instr.buildSlice t n (ps.map fun (p : Nat × Operand) => (p.1, evD ρ p.2))) (by simp [Op.operands]) rfl h2 e0 ?_
   have e : (ps.map fun (p : Nat × Operand) => (p.1, evD ρ p.2)) = ⟨ps.toList.map fun (p : Nat × Operand) => (p.1, evD ρ p.2)⟩ := by apply Array.ext'; simp
   show swp P (Instr.buildSlice t n (ps.map fun (p : Nat × Operand) => (p.1, evD ρ p.2))) h K
   rw [e]; exact bsX_ok hh hx h1 hK
  ·cases hx
 case makeSlice t l c =>
  split at hx
  ·rename_i cl cc hl hc
   obtain ⟨vl, l1, l2⟩ := evC_ok hl he hh
   obtain ⟨vc, c1, c2⟩ := evC_ok hc he hh
   unfold opK
   exact mv_ok l1 (mv_ok c1 (mkX_ok hh hx l2 c2 hK))
  ·cases hx
 case convert s d x =>
  split at hx
  ·rename_i c hc
   obtain ⟨v, h1, h2⟩ := evC_ok hc he hh
   unfold opK
   exact mv_ok h1 (s2bX_ok hh hx h2 hK)
  ·cases hx
 case mapUpdate t m k x =>
  split at hx
  ·rename_i cm ck cx hm hk hxx
   split at hx
   ·rename_i H1 hu
    cases hx
    obtain ⟨vm, m1, m2⟩ := evC_ok hm he hh
    obtain ⟨vk, k1, k2⟩ := evC_ok hk he hh
    obtain ⟨vx, x1, x2⟩ := evC_ok hxx he hh
    unfold opK
    refine mv_ok m1 (mv_ok k1 (mv_ok x1 ?_))
    exact muX_ok (F := fun h' => K undef h') hh hu m2 k2 x2 fun h' hh' => hK σ _ h' (Le.refl σ) VR_undef hh'
   ·cases hx
  ·cases hx
 case insert t m k x =>
  split at hx
  ·rename_i cm ck cx hm hk hxx
   split at hx
   ·rename_i H1 hu
    cases hx
    obtain ⟨vm, m1, m2⟩ := evC_ok hm he hh
    obtain ⟨vk, k1, k2⟩ := evC_ok hk he hh
    obtain ⟨vx, x1, x2⟩ := evC_ok hxx he hh
    unfold opK
    refine some_unit (l := [m, k, x]) (s := Instr.mapUpdate t (evD ρ m) (evD ρ k) (evD ρ x)) rfl rfl (by simp [okAll, (some1 m1).1, (some1 k1).1, (some1 x1).1]) rfl ?_
    rw [(some1 m1).2, (some1 k1).2, (some1 x1).2]
    exact muK_swp (K := fun _ h' => K undef h') (muX_ok (F := fun h' => K undef h') hh hu m2 k2 x2 fun h' hh' => hK σ _ h' (Le.refl σ) VR_undef hh')
   ·cases hx
  ·cases hx
 case makeMap t r =>
  cases r with
  | some r => cases hx
  | none =>
   cases hx
   unfold opK
   exact some_any (l := []) rfl rfl rfl rfl (mmpX_ok hh hK)
 case range t x =>
  split at hx
  ·rename_i c hc
   obtain ⟨v, h1, h2⟩ := evC_ok hc he hh
   unfold opK
   exact mv_ok h1 (rgX_ok hh hx h2 hK)
  ·cases hx
 case next x b =>
  cases b with
  | false => cases hx
  | true =>
   simp only [] at hx
   split at hx
   ·rename_i c hc
    obtain ⟨v, h1, h2⟩ := evC_ok hc he hh
    unfold opK
    obtain ⟨p, rfl, hn⟩ := nxX_ok (K := K) hh hx h2 fun v h' hv hh' => hK σ v h' (Le.refl σ) hv hh'
    exact mv_ok h1 hn
   ·cases hx
 case call c =>
  obtain ⟨callee, args, ts⟩ := c
  cases callee with
  | value f => cases hx
  | invoke r m => cases hx
  | builtin b =>
   simp only [] at hx
   split at hx
   ·rename_i l hl
    obtain ⟨vs, a1, a2, a3, a4⟩ := evCs_ok he hh hl
    unfold opK
    show bif knownB b then (mvs ρ args.toList [] fun vs => bltK P b ts.toList vs h K) else _
    rw [show knownB b = true from bltX_known hx]
    show mvs ρ args.toList [] fun vs => bltK P b ts.toList vs h K
    exact a4 [] _ (bltX_ok hh hx a1 hK)
   ·cases hx
end
end Go.Ix

/-
  Functions of the library without a body that the machine knows by name.
-/
set_option linter.unusedSimpArgs false
set_option linter.unusedVariables false
namespace Go.Ix
open Go Go.Hw
inductive ExK where
  | ib | ns
def exOf (P : Program) (g : Nat) : Option ExK := match P.funcs[g]? with
  | some fn => match fn.body with
    | some _ => none
    | none => bif fn.origin == "" && !(fn.name == "runtime.NumGoroutine") then
        (bif fn.name == "internal/bytealg.IndexByte" then some .ib else bif fn.name == "internal/bytealg.IndexByteString" then some .ib else bif fn.name == "internal/abi.NoEscape" then some .ns else none) else none
  | none => none
def byX (H : CH) : CV → Option (List Nat)
  | .str l => some l
  | .snil => some []
  | .slz _ _ _ => some []
  | .slc b o n _ => match rdC H b o n with
    | some l => bytesX l
    | none => none
  | _ => none
def idxX (c : Nat) : List Nat → Nat → Option Nat
  | [], _ => none
  | x :: l, i => bif Nat.beq x c then some i else idxX c l (i + 1)
def extX (k : ExK) (H : CH) (args : List CV) : Option CV :=
  match k with
  | .ib => match args with
    | [b, .int .u8 c] => match byX H b with
      | some l => match idxX (c.toNat % 256) l 0 with
        | some i => some (.int .i64 (Int.ofNat i))
        | none => some (.int .i64 (-1))
      | none => none
    | _ => none
  | .ns => match args with
    | [x] => some x
    | _ => none
section
variable {P : Program} {G : Nat} {h0 : Hp} {σ : Sig} {H : CH} {h : Hp}
theorem loadBytes_swp : ∀ {n : Nat} {l : List CV} {r : List Nat} {vs : List Value} {a : Addr} {acc : ByteArray} {K : ByteArray → Hp → Prop}, bytesX l = some r → VRs σ l vs → vs.length = n →
    (∀ (j : Nat) (v : Value), vs[j]? = some v → cell h (a.add j) = some v) → (∀ s, bl s = bl acc ++ r → K s h) → swp P (Extern.Bytes.loadBytes a n acc) h K := by
  intro n
  induction n with
  | zero =>
    intro l r vs a acc K hb hv hn hc hK
    have := List.length_eq_zero_iff.1 hn; subst this
    have hl : l = [] := by have := hv.len; simp at this; exact List.length_eq_zero_iff.1 this.symm
    subst hl
    cases hb
    exact hK acc (by simp)
  | succ n ih =>
    intro l r vs a acc K hb hv hn hc hK
    cases l with
    | nil => unfold VRs at hv; subst hv; simp at hn
    | cons x l =>
      unfold VRs at hv; obtain ⟨v, vs, rfl, hx, hv⟩ := hv
      cases x <;> first | (simp [bytesX] at hb; done) | skip
      rename_i k m
      cases k <;> first | (simp [bytesX] at hb; done) | skip
      simp only [bytesX] at hb
      split at hb
      · rename_i r' hr
        cases hb
        unfold VR at hx; subst hx
        unfold Extern.Bytes.loadBytes
        rw [swp_bind']
        refine ⟨_, by simpa [Addr.add] using hc 0 _ rfl, ?_⟩
        refine ih hr hv (by simpa using hn) ?_ ?_
        · intro j v hj
          have := hc (j + 1) v (by simpa using hj)
          rw [← this]
          congr 1
          unfold Addr.add
          by_cases e : j = 0
          · subst e; simp
          · simp [e]; omega
        · intro s hs
          refine hK s ?_
          rw [hs]
          simp [bl]
      · cases hb
theorem bytesOf_ok (hh : HR P G h0 σ H h) {x : CV} {l : List Nat} {v : Value} (hx : byX H x = some l) (hv : VR σ x v) {K : ByteArray → Hp → Prop} (hK : ∀ s, bl s = l → K s h) : swp P (Extern.Bytes.bytesOf v) h K := by
  cases x <;> simp [byX] at hx
  · subst hx; unfold VR at hv; obtain ⟨s, rfl, rfl⟩ := hv; exact hK s rfl
  · subst hx; unfold VR at hv; subst hv; exact hK _ rfl
  · split at hx
    · rename_i m hm
      obtain ⟨p, c, hp, rfl⟩ := slc_ok hv
      obtain ⟨vs, h1, h2, h3⟩ := rdC_ok hh hm hp
      unfold Extern.Bytes.bytesOf
      refine loadBytes_swp hx h1 h2 ?_ ?_
      · intro j v hj; rw [at_add]; exact h3 j v hj
      · intro s hs; exact hK s (by rw [hs]; rfl)
    · cases hx
  · subst hx; unfold VR at hv; obtain ⟨p, c, hp, rfl, hc, hsz, hl⟩ := hv
    unfold Extern.Bytes.bytesOf
    exact hK _ rfl
theorem idxX_ok (c : UInt8) (f : Nat → UInt8) : ∀ (u : List UInt8) (k : Nat), (∀ (j : Nat) (x : UInt8), u[j]? = some x → f (k + j) = x) → (List.range' k u.length).find? (fun i => f i == c) = idxX c.toNat (u.map UInt8.toNat) k := by
  intro u
  induction u with
  | nil => intro k _; rfl
  | cons x u ih =>
    intro k hf
    simp only [List.length_cons, List.range'_succ, List.map_cons, idxX]
    have h0 : f k = x := by simpa using hf 0 x rfl
    rw [List.find?_cons, h0]
    have e : (x == c) = Nat.beq x.toNat c.toNat := by
      cases hb : Nat.beq x.toNat c.toNat with
      | true => have := UInt8.toNat_inj.1 (Nat.eq_of_beq_eq_true hb); simp [this]
      | false => have : x ≠ c := by (rintro rfl; exact Nat.ne_of_beq_eq_false hb rfl)
                 simp [this]
    rw [e]
    cases Nat.beq x.toNat c.toNat with
    | true => rfl
    | false =>
      simp only [cond_false]
      exact ih (k + 1) fun j y hy => by
        have := hf (j + 1) y (by simpa using hy)
        rw [← this]; congr 1; omega
theorem ib_ok (hh : HR P G h0 σ H h) {args : List CV} {vs : List Value} {y : CV} (hx : extX .ib H args = some y) (hv : VRs σ args vs) : ∃ v, VR σ y v ∧ ∀ K : Value → Hp → Prop, K v h → swp P (Extern.BytealgIndexByte.indexByte ⟨vs⟩) h K := by
  unfold extX at hx
  simp only [] at hx
  split at hx
  · rename_i b c
    split at hx
    · rename_i l hl
      unfold VRs at hv; obtain ⟨v1, r, rfl, h1, hv⟩ := hv
      unfold VRs at hv; obtain ⟨v2, r, rfl, h2, hv⟩ := hv
      unfold VRs at hv; subst hv
      unfold VR at h2; subst h2
      have key : ∀ s : ByteArray, bl s = l → (List.range s.size).find? (fun i => s[i]! == c.toNat.toUInt8) = idxX (c.toNat % 256) l 0 := by
        intro s hs
        subst hs
        have := idxX_ok c.toNat.toUInt8 (fun i => s[i]!) s.data.toList 0 (by
          intro j x hj
          rw [Nat.zero_add]
          have hlt := (List.getElem?_eq_some_iff.1 hj).1
          rw [List.getElem?_eq_getElem hlt] at hj
          simp only [Option.some.injEq] at hj
          rw [← hj]
          have : j < s.size := by simpa using hlt
          rw [getElem!_pos s j this]
          simp [ByteArray.getElem_eq_getElem_data])
        rw [List.range_eq_range', ← (show c.toNat.toUInt8.toNat = c.toNat % 256 from by simp [Nat.toUInt8])]
        simpa [bl] using this
      split at hx
      · rename_i i hi
        cases hx
        refine ⟨.int .i64 (Int.ofNat i), by unfold VR; rfl, fun K hK => ?_⟩
        refine Eq.mpr (swp_bind' (Extern.Bytes.bytesOf v1) (fun b => do let c ← Extern.Bytes.asByte (.int .u8 c); match (List.range b.size).find? fun i => b[i]! == c with | some i => pure (goInt i) | none => pure (goInt (-1))) h K) ?_
        refine bytesOf_ok hh hl h1 fun s hs => ?_
        change swp P (match (List.range s.size).find? fun i => s[i]! == c.toNat.toUInt8 with | some i => pure (goInt i) | none => pure (goInt (-1))) h K
        rw [key s hs, hi]
        exact hK
      · rename_i hi
        cases hx
        refine ⟨.int .i64 (-1), by unfold VR; rfl, fun K hK => ?_⟩
        refine Eq.mpr (swp_bind' (Extern.Bytes.bytesOf v1) (fun b => do let c ← Extern.Bytes.asByte (.int .u8 c); match (List.range b.size).find? fun i => b[i]! == c with | some i => pure (goInt i) | none => pure (goInt (-1))) h K) ?_
        refine bytesOf_ok hh hl h1 fun s hs => ?_
        change swp P (match (List.range s.size).find? fun i => s[i]! == c.toNat.toUInt8 with | some i => pure (goInt i) | none => pure (goInt (-1))) h K
        rw [key s hs, hi]
        exact hK
    · cases hx
  · cases hx
theorem und (fn : Func) (n : String) (hn : fn.name = n) (e : Array Value → Sem Value) (h1 : Extern.allNextRows.lookup n = none) (h2 : Extern.allGenericRows.lookup n = none) (h3 : Extern.allTypedRows.lookup n = none)
    (h4 : Extern.allRows.lookup n = some e) (ho : fn.origin = "") (h5 : Extern.allNextRows.lookup "" = none) : Extern.findNext fn = none ∧ Extern.find fn = some e := by
  unfold Extern.findNext Extern.find
  simp only [hn, ho, h1, h2, h3, h4, h5]
  exact ⟨rfl, rfl⟩
theorem ext_fn {g : Nat} {k : ExK} (hk : exOf P g = some k) : ∃ fn, P.funcs[g]? = some fn ∧ fn.body = none ∧ (fn.name == "runtime.NumGoroutine") = false ∧ Extern.findNext fn = none ∧
    Extern.find fn = some (match k with | .ib => Extern.BytealgIndexByte.indexByte | .ns => Extern.AbiNoEscape.same) := by
  unfold exOf at hk
  split at hk
  · rename_i fn hfn
    split at hk
    · cases hk
    · rename_i hb
      cases hc : fn.origin == "" && !(fn.name == "runtime.NumGoroutine") with
      | false => rw [hc] at hk; cases hk
      | true =>
        rw [hc] at hk
        simp only [cond_true] at hk
        simp only [Bool.and_eq_true, Bool.not_eq_true', beq_iff_eq] at hc
        have ho := hc.1
        refine ⟨fn, hfn, hb, by simpa using hc.2, ?_⟩
        cases h1 : fn.name == "internal/bytealg.IndexByte" with
        | true =>
          rw [h1] at hk; cases hk
          exact und fn _ (by simpa using h1) _ (by kernel_rfl) (by kernel_rfl) (by kernel_rfl) (by kernel_rfl) ho (by kernel_rfl)
        | false =>
          rw [h1] at hk
          cases h2 : fn.name == "internal/bytealg.IndexByteString" with
          | true =>
            rw [h2] at hk; cases hk
            exact und fn _ (by simpa using h2) _ (by kernel_rfl) (by kernel_rfl) (by kernel_rfl) (by kernel_rfl) ho (by kernel_rfl)
          | false =>
            rw [h2] at hk
            cases h3 : fn.name == "internal/abi.NoEscape" with
            | true =>
              rw [h3] at hk; cases hk
              exact und fn _ (by simpa using h3) _ (by kernel_rfl) (by kernel_rfl) (by kernel_rfl) (by kernel_rfl) ho (by kernel_rfl)
            | false => rw [h3] at hk; cases hk
  · cases hk
theorem ext_ok (hh : HR P G h0 σ H h) {g : Nat} {k : ExK} (hk : exOf P g = some k) {args : List CV} {vs : List Value} {y : CV} (hx : extX k H args = some y) (hv : VRs σ args vs) :
    ∃ v, VR σ y v ∧ ∀ K : Value → Hp → Prop, K v h → swp P (callFunc g ⟨vs⟩) h (nextK P K) := by
  obtain ⟨fn, h1, h2, h3, h4, h5⟩ := ext_fn hk
  have key : ∀ (e : Array Value → Sem Value), Extern.find fn = some e → ∀ K : Value → Hp → Prop, swp P (e ⟨vs⟩) h K → swp P (callFunc g ⟨vs⟩) h (nextK P K) := by
    intro e he K hK
    unfold callFunc
    simp only [swp_bind']
    change swp P (match P.funcs[g]? with | none => _ | some fn => _) h _
    rw [h1]
    simp only [h3, h2, h4, he, Bool.false_eq_true, if_false, Option.isNone_none, if_true]
    exact vswp hK
  cases k with
  | ib =>
    obtain ⟨v, g1, g2⟩ := ib_ok hh hx hv
    exact ⟨v, g1, fun K hK => key _ h5 K (g2 K hK)⟩
  | ns =>
    unfold extX at hx
    simp only [] at hx
    split at hx
    · cases hx
      unfold VRs at hv; obtain ⟨v, r, rfl, g1, hv⟩ := hv
      unfold VRs at hv; subst hv
      exact ⟨v, g1, fun K hK => key _ h5 K hK⟩
    · cases hx
end
end Go.Ix

/-
  Maps that are walked: every order is looked at.
-/
set_option linter.unusedSimpArgs false
set_option linter.unusedVariables false
namespace Go.Ix
open Go Go.Hw
def memN (n : Nat) : List Nat → Bool
  | [] => false
  | x :: l => Nat.beq n x || memN n l
def leftX (seen : List Nat) : List (CV × CV × Nat) → List (CV × CV × Nat)
  | [] => []
  | (k, v, b) :: l => bif memN b seen then leftX seen l else (k, v, b) :: leftX seen l
def allLt (n : Nat) : List (CV × CV × Nat) → Bool
  | [] => true
  | (_, _, b) :: l => Nat.blt b n && allLt n l
def anyLt (n : Nat) : List (CV × CV × Nat) → Bool
  | [] => false
  | (_, _, b) :: l => Nat.blt b n || anyLt n l
def nilB {α : Type} : List α → Bool
  | [] => true
  | _ => false
def outsX (H : CH) (b : Nat) (m since : Nat) (seen : List Nat) (c : Nat) : List (CV × CV × Nat) → List (CV × CH)
  | [] => []
  | (k, v, n) :: l => (.tup [.bool true, k, v], ⟨H.t.set b (some (.mit (some m) since (seen ++ [n]) c)), H.nx⟩) :: outsX H b m since seen c l
def mnX (H : CH) (x : CV) : Option (List (CV × CH)) :=
  match x with
  | .ptr b 0 => match H.t.get b with
    | some (.mit none _ _ _) => some [(.tup [.bool false], H)]
    | some (.mit (some m) since seen last) => match H.t.get m with
      | some (.mp es c) =>
        bif (nilB seen || nilB es || anyLt last es) && allLt since (leftX seen es) then
          (match leftX seen es with
          | [] => some [(.tup [.bool false], H)]
          | e :: l => some (outsX H b m since seen c (e :: l)))
        else none
      | _ => none
    | _ => none
  | _ => none
section
variable {P : Program} {G : Nat} {h0 : Hp} {σ : Sig} {H : CH} {h : Hp}
theorem memN_ok {n : Nat} : ∀ {l : List Nat}, memN n l = l.contains n := by
  intro l
  induction l with
  | nil => rfl
  | cons x l ih =>
    simp only [memN, List.contains_cons, ih]
    cases hb : Nat.beq n x with
    | true => rw [Nat.eq_of_beq_eq_true hb]; simp
    | false => have : (n == x) = false := by simpa using Nat.ne_of_beq_eq_false hb
               rw [this]
theorem entR_left {seen : List Nat} : ∀ {es : List (CV × CV × Nat)} {l : List MapEntry}, entR σ es l → entR σ (leftX seen es) (l.filter fun e => !seen.contains e.born) := by
  intro es
  induction es with
  | nil => intro l h; unfold entR at h; subst h; unfold leftX entR; rfl
  | cons e es ih =>
    intro l h
    obtain ⟨k, v, b⟩ := e
    unfold entR at h; obtain ⟨e, r, rfl, h1, h2, h3, h4⟩ := h
    unfold leftX
    rw [memN_ok, ← h3]
    cases hc : seen.contains e.born with
    | true => simp only [cond_true]; rw [List.filter_cons_of_neg (by show ¬ (!seen.contains e.born) = true; rw [hc]; decide)]; exact ih h4
    | false =>
      simp only [cond_false]
      rw [List.filter_cons_of_pos (by show (!seen.contains e.born) = true; rw [hc]; rfl)]
      exact ⟨e, _, rfl, h1, h2, rfl, ih h4⟩
theorem allLt_ok {n : Nat} : ∀ {es : List (CV × CV × Nat)} {l : List MapEntry}, entR σ es l → allLt n es = true → ∀ e ∈ l, e.born < n := by
  intro es
  induction es with
  | nil => intro l h _ e he; unfold entR at h; subst h; cases he
  | cons e es ih =>
    intro l h hl x hx
    obtain ⟨k, v, b⟩ := e
    unfold entR at h; obtain ⟨e, r, rfl, h1, h2, h3, h4⟩ := h
    simp only [allLt, Bool.and_eq_true] at hl
    cases hx with
    | head => rw [h3]; simpa [Nat.blt_eq] using hl.1
    | tail _ hm => exact ih h4 hl.2 x hm
theorem anyLt_ok {n : Nat} : ∀ {es : List (CV × CV × Nat)} {l : List MapEntry}, entR σ es l → anyLt n es = true → ∃ e ∈ l, e.born < n := by
  intro es
  induction es with
  | nil => intro l h hl; cases hl
  | cons e es ih =>
    intro l h hl
    obtain ⟨k, v, b⟩ := e
    unfold entR at h; obtain ⟨e, r, rfl, h1, h2, h3, h4⟩ := h
    simp only [anyLt, Bool.or_eq_true] at hl
    rcases hl with hl | hl
    · exact ⟨e, List.mem_cons_self .., by rw [h3]; simpa [Nat.blt_eq] using hl⟩
    · obtain ⟨x, hx, hlt⟩ := ih h4 hl
      exact ⟨x, List.mem_cons_of_mem _ hx, hlt⟩
theorem entR_get : ∀ {es : List (CV × CV × Nat)} {l : List MapEntry}, entR σ es l → ∀ {j : Nat} {e : MapEntry}, l[j]? = some e → ∃ k v, es[j]? = some (k, v, e.born) ∧ VR σ k e.key ∧ VR σ v e.val := by
  intro es
  induction es with
  | nil => intro l h j e he; unfold entR at h; subst h; simp at he
  | cons x es ih =>
    intro l h j e he
    obtain ⟨k, v, b⟩ := x
    unfold entR at h; obtain ⟨y, r, rfl, h1, h2, h3, h4⟩ := h
    cases j with
    | zero => simp at he; subst he; exact ⟨k, v, by simp [h3], h1, h2⟩
    | succ j => simp at he; obtain ⟨k', v', g1, g2⟩ := ih h4 he; exact ⟨k', v', by simpa using g1, g2⟩
theorem outsX_mem {b m since : Nat} {seen : List Nat} {c : Nat} : ∀ {es : List (CV × CV × Nat)} {j : Nat} {k v : CV} {n : Nat}, es[j]? = some (k, v, n) →
    (.tup [.bool true, k, v], ⟨H.t.set b (some (.mit (some m) since (seen ++ [n]) c)), H.nx⟩) ∈ outsX H b m since seen c es := by
  intro es
  induction es with
  | nil => intro j k v n h; simp at h
  | cons x es ih =>
    intro j k v n h
    obtain ⟨k', v', b'⟩ := x
    unfold outsX
    cases j with
    | zero => simp at h; obtain ⟨rfl, rfl, rfl⟩ := h; exact List.mem_cons_self ..
    | succ j => simp at h; exact List.mem_cons_of_mem _ (ih h)
theorem tup1_ok (b : Bool) : VR σ (.tup [.bool b]) (.tuple ⟨[.bool b]⟩) := by
  unfold VR; refine ⟨_, rfl, ?_⟩
  unfold VRs; refine ⟨_, _, rfl, by unfold VR; rfl, ?_⟩
  unfold VRs; rfl
theorem mnX_ok (hh : HR P G h0 σ H h) {x : CV} {v : Value} {l : List (CV × CH)} (hx : mnX H x = some l) (hv : VR σ x v) {K : Value → Hp → Prop}
    (hK : ∀ y H', (y, H') ∈ l → ∀ v h', VR σ y v → HR P G h0 σ H' h' → K v h') : ∃ p, v = .pointer p ∧ nxM h p fun b r h' => K (.tuple ⟨.bool b :: r⟩) h' := by
  unfold mnX at hx
  split at hx
  · rename_i b
    unfold VR at hv; obtain ⟨p, hp, rfl⟩ := hv
    refine ⟨_, rfl, ?_⟩
    split at hx
    · rename_i si se la hg
      cases hx
      obtain ⟨q, z, k1, k2, k3⟩ := hh.obj b _ hg
      rw [hp] at k1; cases k1
      unfold OR at k3
      obtain ⟨r, rfl, hr, h0r, hd⟩ := k3
      have hat : p.at 0 = ⟨p.r, 0, none⟩ := by simp [Pl.at, hd]
      rw [hat]
      cases r with
      | some r => exact hr.elim
      | none =>
        unfold nxM
        simp only [k2]
        exact hK _ _ (List.mem_singleton.2 rfl) _ h (tup1_ok false) hh
    · rename_i m since seen last hg
      split at hx
      · rename_i es c hm
        obtain ⟨q, z, k1, k2, k3⟩ := hh.obj b _ hg
        rw [hp] at k1; cases k1
        unfold OR at k3
        obtain ⟨r, rfl, hr, h0r, hd⟩ := k3
        have hat : p.at 0 = ⟨p.r, 0, none⟩ := by simp [Pl.at, hd]
        rw [hat]
        cases r with
        | none => exact hr.elim
        | some r =>
          obtain ⟨q, hq, rfl⟩ := hr
          obtain ⟨es', g1, g2⟩ := mp_at hh hm hq
          cases hc : (nilB seen || nilB es || anyLt last es) && allLt since (leftX seen es) with
          | false => rw [hc] at hx; cases hx
          | true =>
            rw [hc] at hx
            simp only [cond_true] at hx
            simp only [Bool.and_eq_true] at hc
            have hleft := entR_left (seen := seen) g2
            have hall := allLt_ok hleft hc.2
            have e1 : leftM ⟨seen⟩ ⟨es'⟩ = ⟨es'.filter fun e => !seen.contains e.born⟩ := by simp [leftM]
            have hno : (!(⟨seen⟩ : Array Nat).isEmpty && !(⟨es'⟩ : Array MapEntry).isEmpty && (⟨es'⟩ : Array MapEntry).all (·.born ≥ last)) = false := by
              cases h1 : nilB seen with
              | true => cases seen with
                | nil => rfl
                | cons => cases h1
              | false => cases h2 : nilB es with
                | true => cases es with
                  | nil => unfold entR at g2; subst g2; simp
                  | cons => cases h2
                | false =>
                  rw [h1, h2] at hc
                  obtain ⟨e, he, hlt⟩ := anyLt_ok g2 (by simpa using hc.1)
                  have : (⟨es'⟩ : Array MapEntry).all (·.born ≥ last) = false := by
                    rw [Bool.eq_false_iff]
                    intro ha
                    simp at ha
                    have := ha e he; omega
                  rw [this]; simp
            unfold nxM
            simp only [k2, g1]
            rw [e1]
            refine ⟨hno, fun e he => hall e (by simpa using he), ?_, ?_⟩
            · intro hnil
              have hl0 : (es'.filter fun e => !seen.contains e.born) = [] := by simpa using congrArg Array.toList hnil
              rw [hl0] at hleft
              have hln := entR_len hleft
              have hcons : leftX seen es = [] := List.length_eq_zero_iff.1 (by rw [List.length_nil] at hln; omega)
              rw [hcons] at hx
              cases hx
              exact hK _ _ (List.mem_singleton.2 rfl) _ h (tup1_ok false) hh
            · intro e he
              have he : e ∈ es'.filter fun e => !seen.contains e.born := by simpa using he
              obtain ⟨j, hj, rfl⟩ := List.getElem_of_mem he
              obtain ⟨k, w, f1, f2, f3⟩ := entR_get hleft (List.getElem?_eq_getElem hj)
              split at hx
              · rename_i hnil
                rw [hnil] at f1; simp at f1
              · rename_i e0 l0 hcons
                cases hx
                rw [hcons] at f1
                generalize es'.filter (fun e => !seen.contains e.born) = L at hj f2 f3 f1
                refine hK _ _ (outsX_mem f1) (.tuple ⟨[.bool true, L[j].key, L[j].val]⟩) _ ?_ (hh.chg hg hp h0r ?_)
                · unfold VR; refine ⟨_, rfl, ?_⟩
                  unfold VRs; refine ⟨_, _, rfl, by unfold VR; rfl, ?_⟩
                  unfold VRs; refine ⟨_, _, rfl, f2, ?_⟩
                  unfold VRs; refine ⟨_, _, rfl, f3, ?_⟩
                  unfold VRs; rfl
                · unfold OR
                  exact ⟨some q.r, by simp, ⟨q, hq, rfl⟩, h0r, hd⟩
      · cases hx
    · cases hx
  · cases hx
def lastN : List Nat → Option Nat
  | [] => none
  | [x] => some x
  | _ :: y :: l => lastN (y :: l)
def bornX (n : Nat) : List (CV × CV × Nat) → Option (CV × CV)
  | [] => none
  | (k, v, b) :: l => bif Nat.beq b n then some (k, v) else bornX n l
def entX (H : CH) (x : CV) : Option CV :=
  match x with
  | .ptr b 0 => match H.t.get b with
    | some (.mit (some m) _ seen last) => match lastN seen, H.t.get m with
      | some n, some (.mp es c) => bif Nat.beq c last then (match bornX n es with
        | some (k, v) => some (.tup [k, v])
        | none => none) else none
      | _, _ => none
    | _ => none
  | _ => none
theorem lastN_ok : ∀ {l : List Nat} {n : Nat}, lastN l = some n → (⟨l⟩ : Array Nat).back? = some n := by
  intro l n h
  have : l.getLast? = some n := by
    induction l with
    | nil => cases h
    | cons x l ih =>
      cases l with
      | nil => simpa [lastN] using h
      | cons y l => rw [List.getLast?_cons_cons]; exact ih h
  simpa using this
theorem bornX_ok {n : Nat} : ∀ {es : List (CV × CV × Nat)} {l : List MapEntry}, entR σ es l → ∀ {k v : CV}, bornX n es = some (k, v) → ∃ e, l.find? (·.born == n) = some e ∧ VR σ k e.key ∧ VR σ v e.val := by
  intro es
  induction es with
  | nil => intro l h k v hb; cases hb
  | cons x es ih =>
    intro l h k v hb
    obtain ⟨k', v', b⟩ := x
    unfold entR at h; obtain ⟨e, r, rfl, h1, h2, h3, h4⟩ := h
    simp only [bornX] at hb
    cases hq : Nat.beq b n with
    | true =>
      rw [hq] at hb; cases hb
      exact ⟨e, by rw [List.find?_cons_of_pos (by rw [h3]; simpa using Nat.eq_of_beq_eq_true hq)], h1, h2⟩
    | false =>
      rw [hq] at hb
      obtain ⟨e', g1, g2⟩ := ih h4 hb
      exact ⟨e', by rw [List.find?_cons_of_neg (by rw [h3]; simpa using Nat.ne_of_beq_eq_false hq)]; exact g1, g2⟩
theorem entX_ok (hh : HR P G h0 σ H h) {x y : CV} {v : Value} (hx : entX H x = some y) (hv : VR σ x v) : ∃ w p, v = .pointer p ∧ VR σ y w ∧ ∀ K : Value → Hp → Prop, K w h → enM h p fun a b => K (.tuple ⟨[a, b]⟩) h := by
  unfold entX at hx
  split at hx
  · rename_i b
    unfold VR at hv; obtain ⟨p, hp, rfl⟩ := hv
    split at hx
    · rename_i m since seen last hg
      split at hx
      · rename_i n es c hn hm
        cases hcl : Nat.beq c last with
        | false => rw [hcl] at hx; cases hx
        | true =>
          rw [hcl] at hx
          simp only [cond_true] at hx
          have hcl := Nat.eq_of_beq_eq_true hcl
          subst hcl
          split at hx
          · rename_i k u hb
            cases hx
            obtain ⟨q, z, k1, k2, k3⟩ := hh.obj b _ hg
            rw [hp] at k1; cases k1
            unfold OR at k3
            obtain ⟨r, rfl, hr, h0r, hd⟩ := k3
            have hat : p.at 0 = ⟨p.r, 0, none⟩ := by simp [Pl.at, hd]
            rw [hat]
            cases r with
            | none => exact hr.elim
            | some r =>
              obtain ⟨q, hq, rfl⟩ := hr
              obtain ⟨es', g1, g2⟩ := mp_at hh hm hq
              obtain ⟨e, f1, f2, f3⟩ := bornX_ok g2 hb
              refine ⟨.tuple ⟨[e.key, e.val]⟩, _, rfl, ?_, fun K hK => ?_⟩
              · unfold VR; refine ⟨_, rfl, ?_⟩
                unfold VRs; refine ⟨_, _, rfl, f2, ?_⟩
                unfold VRs; refine ⟨_, _, rfl, f3, ?_⟩
                unfold VRs; rfl
              · unfold enM
                have hf : (⟨es'⟩ : Array MapEntry).find? (·.born == n) = some e := by simpa using f1
                simp only [k2, lastN_ok hn, g1, hf]
                exact ⟨trivial, hK⟩
          · cases hx
      · cases hx
    · cases hx
  · cases hx
end
end Go.Ix

/-
 Two states of the small machine that are one but for the numbers of their blocks.
-/
set_option linter.unusedSimpArgs false
set_option linter.unusedVariables false
namespace Go.Ix
open Go Go.Hw
def pi : List (Nat × Nat × Nat) → Nat → Nat
 | [], b => b
 | (s, n, s') :: l, b => bif Nat.ble s b && Nat.blt b (s + n) then s' + (b - s) else pi l b
mutual
def CV.eqr (π : Nat → Nat) : CV → CV → Bool
 | .int k n, .int k' n' => kindEq k k' && decide (n = n')
 | .bool b, .bool b' => b == b'
 | .str l, .str l' => leq l l'
 | .pnil, .pnil => true
 | .ptr b o, .ptr b' o' => Nat.beq (π b) b' && Nat.beq o o'
 | .snil, .snil => true
 | .slc b o n c, .slc b' o' n' c' => Nat.beq (π b) b' && Nat.beq o o' && Nat.beq n n' && oeq c c'
 | .slz b o l, .slz b' o' l' => Nat.beq (π b) b' && Nat.beq o o' && Nat.beq l l'
 | .mnil, .mnil => true
 | .map b, .map b' => Nat.beq (π b) b'
 | .agg l, .agg l' => CV.eqrs π l l'
 | .tup l, .tup l' => CV.eqrs π l l'
 | .nili, .nili => true
 | .ifc t v, .ifc t' v' => Nat.beq t t' && CV.eqr π v v'
 | .fn f a b, .fn f' a' b' => Nat.beq f f' && CV.eqrs π a a' && CV.eqrs π b b'
 | .nilf, .nilf => true
 | _, _ => false
def CV.eqrs (π : Nat → Nat) : List CV → List CV → Bool
 | [], [] => true
 | x :: l, y :: m => CV.eqr π x y && CV.eqrs π l m
 | _, _ => false
end
section
variable {σ τ : Sig} {π : Nat → Nat}
mutual
theorem CV.eqr_VR (hp : ∀ b p, σ b = some p → τ (π b) = some p) : ∀ (x y : CV) (v : Value), CV.eqr π x y = true → VR σ x v → VR τ y v := by
 intro x y v h hv
 cases x <;> cases y <;> first | (simp [CV.eqr] at h; done) | skip
 case int.int k n k' n' => simp only [CV.eqr, Bool.and_eq_true, decide_eq_true_eq] at h; rw [← kindEq_eq h.1, ← h.2]; exact hv
 case bool.bool => simp [CV.eqr] at h; rw [← h]; exact hv
 case str.str => simp only [CV.eqr] at h; rw [← leq_eq h]; exact hv
 case pnil.pnil => exact hv
 case ptr.ptr =>
  simp only [CV.eqr, Bool.and_eq_true] at h
  rw [← Nat.eq_of_beq_eq_true h.1, ← Nat.eq_of_beq_eq_true h.2]
  unfold VR at hv ⊢; obtain ⟨p, h1, h2⟩ := hv; exact ⟨p, hp _ _ h1, h2⟩
 case snil.snil => exact hv
 case slc.slc b o n c b' o' n' c' =>
  simp only [CV.eqr, Bool.and_eq_true] at h
  rw [← Nat.eq_of_beq_eq_true h.1.1.1, ← Nat.eq_of_beq_eq_true h.1.1.2, ← Nat.eq_of_beq_eq_true h.1.2, ← oeq_eq h.2]
  cases c with
  | some c => unfold VR at hv ⊢; obtain ⟨p, h1, h2⟩ := hv; exact ⟨p, hp _ _ h1, h2⟩
  | none => unfold VR at hv ⊢; obtain ⟨p, c, h1, h2⟩ := hv; exact ⟨p, c, hp _ _ h1, h2⟩
 case slz.slz =>
  simp only [CV.eqr, Bool.and_eq_true] at h
  rw [← Nat.eq_of_beq_eq_true h.1.1, ← Nat.eq_of_beq_eq_true h.1.2, ← Nat.eq_of_beq_eq_true h.2]
  unfold VR at hv ⊢; obtain ⟨p, c, h1, h2⟩ := hv; exact ⟨p, c, hp _ _ h1, h2⟩
 case mnil.mnil => exact hv
 case map.map =>
  simp only [CV.eqr] at h
  rw [← Nat.eq_of_beq_eq_true h]
  unfold VR at hv ⊢; obtain ⟨p, h1, h2⟩ := hv; exact ⟨p, hp _ _ h1, h2⟩
 case agg.agg l m => simp only [CV.eqr] at h; unfold VR at hv ⊢; obtain ⟨vs, h1, h2⟩ := hv; exact ⟨vs, h1, CV.eqrs_VR hp l m vs h h2⟩
 case tup.tup l m => simp only [CV.eqr] at h; unfold VR at hv ⊢; obtain ⟨vs, h1, h2⟩ := hv; exact ⟨vs, h1, CV.eqrs_VR hp l m vs h h2⟩
 case nili.nili => exact hv
 case ifc.ifc t x t' x' =>
  simp only [CV.eqr, Bool.and_eq_true] at h
  rw [← Nat.eq_of_beq_eq_true h.1]
  unfold VR at hv ⊢; obtain ⟨w, h1, h2⟩ := hv; exact ⟨w, h1, CV.eqr_VR hp x x' w h.2 h2⟩
 case fn.fn f a b f' a' b' =>
  simp only [CV.eqr, Bool.and_eq_true] at h
  rw [← Nat.eq_of_beq_eq_true h.1.1]
  unfold VR at hv ⊢; obtain ⟨xs, ys, h1, h2, h3⟩ := hv
  exact ⟨xs, ys, h1, CV.eqrs_VR hp a a' xs h.1.2 h2, CV.eqrs_VR hp b b' ys h.2 h3⟩
 case nilf.nilf => exact hv
theorem CV.eqrs_VR (hp : ∀ b p, σ b = some p → τ (π b) = some p) : ∀ (l m : List CV) (vs : List Value), CV.eqrs π l m = true → VRs σ l vs → VRs τ m vs := by
 intro l m vs h hv
 cases l <;> cases m <;> first | (simp [CV.eqrs] at h; done) | skip
 case nil.nil => exact hv
 case cons.cons x l y m =>
  simp only [CV.eqrs, Bool.and_eq_true] at h
  unfold VRs at hv ⊢; obtain ⟨v, r, h1, h2, h3⟩ := hv
  exact ⟨v, r, h1, CV.eqr_VR hp x y v h.1 h2, CV.eqrs_VR hp l m r h.2 h3⟩
end
theorem CV.eqrs_get : ∀ {l m : List CV}, CV.eqrs π l m = true → l.length = m.length ∧ ∀ {i : Nat} {y : CV}, m[i]? = some y → ∃ x, l[i]? = some x ∧ CV.eqr π x y = true := by
 intro l
 induction l with
 | nil => intro m h; cases m with
  | nil => exact ⟨rfl, fun h => by simp at h⟩
  | cons => cases h
 | cons x l ih =>
  intro m h
  cases m with
  | nil => cases h
  | cons y m =>
   simp only [CV.eqrs, Bool.and_eq_true] at h
   obtain ⟨h1, h2⟩ := ih h.2
   refine ⟨by simp [h1], ?_⟩
   intro i z hz
   cases i with
   | zero => simp at hz; subst hz; exact ⟨x, rfl, h.1⟩
   | succ i => simp at hz; obtain ⟨u, g1, g2⟩ := h2 hz; exact ⟨u, by simpa using g1, g2⟩
def entEq (π : Nat → Nat) : List (CV × CV × Nat) → List (CV × CV × Nat) → Bool
 | [], [] => true
 | (k, v, b) :: l, (k', v', b') :: m => CV.eqr π k k' && CV.eqr π v v' && Nat.beq b b' && entEq π l m
 | _, _ => false
def COeq (π : Nat → Nat) : CO → CO → Bool
 | .row o p m e cs, .row o' p' m' e' cs' => (o == o') && (p == p') && (m == m') && Nat.beq e e' && CV.eqrs π cs cs'
 | .tab cs, .tab cs' => CV.eqrs π cs cs'
 | .mp es c, .mp es' c' => entEq π es es' && Nat.beq c c'
 | .sit l n, .sit l' n' => leq l l' && Nat.beq n n'
 | .mit m s e l, .mit m' s' e' l' => (match m, m' with | none, none => true | some b, some b' => Nat.beq (π b) b' | _, _ => false) && Nat.beq s s' && leq e e' && Nat.beq l l'
 | _, _ => false
theorem entEq_ok (hp : ∀ b p, σ b = some p → τ (π b) = some p) : ∀ {es fs : List (CV × CV × Nat)} {l : List MapEntry}, entEq π es fs = true → entR σ es l → entR τ fs l := by
 intro es
 induction es with
 | nil => intro fs l h he; cases fs with
  | nil => exact he
  | cons x fs => obtain ⟨a, b, c⟩ := x; cases h
 | cons x es ih =>
  intro fs l h he
  obtain ⟨k, v, b⟩ := x
  cases fs with
  | nil => cases h
  | cons y fs =>
   obtain ⟨k', v', b'⟩ := y
   simp only [entEq, Bool.and_eq_true] at h
   unfold entR at he ⊢
   obtain ⟨e, r, h1, h2, h3, h4, h5⟩ := he
   exact ⟨e, r, h1, CV.eqr_VR hp _ _ _ h.1.1.1 h2, CV.eqr_VR hp _ _ _ h.1.1.2 h3, by rw [h4]; exact Nat.eq_of_beq_eq_true h.1.2, ih h.2 h5⟩
theorem COeq_ok {P : Program} {h0 : Hp} (hp : ∀ b p, σ b = some p → τ (π b) = some p) {p : Pl} {o o' : CO} {x : Obj} (h : COeq π o o' = true) (ho : OR P h0 σ p o x) : OR P h0 τ p o' x := by
 cases o <;> cases o' <;> first | (simp [COeq] at h; done) | skip
 case row.row ow op mk e cs ow' op' mk' e' cs' =>
  simp only [COeq, Bool.and_eq_true, beq_iff_eq] at h
  obtain ⟨⟨⟨⟨rfl, rfl⟩, rfl⟩, he⟩, hcs⟩ := h
  have := Nat.eq_of_beq_eq_true he; subst this
  obtain ⟨hl, hg⟩ := CV.eqrs_get hcs
  unfold OR at ho ⊢
  obtain ⟨vs, lo, hi, h1, h2, h3, h4, h5, h6⟩ := ho
  refine ⟨vs, lo, hi, h1, h2, by omega, fun e => by rw [← hl]; exact h4 e, fun i c hc => ?_, h6⟩
  obtain ⟨u, g1, g2⟩ := hg hc
  obtain ⟨v, k1, k2⟩ := h5 i u g1
  exact ⟨v, k1, CV.eqr_VR hp _ _ _ g2 k2⟩
 case tab.tab cs cs' =>
  simp only [COeq] at h
  obtain ⟨hl, hg⟩ := CV.eqrs_get h
  unfold OR at ho ⊢
  obtain ⟨vs, e, fr, h1, h5⟩ := ho
  refine ⟨vs, e, fr, h1, fun i c hc => ?_⟩
  obtain ⟨u, g1, g2⟩ := hg hc
  obtain ⟨v, k1, k2⟩ := h5 i u g1
  exact ⟨v, k1, CV.eqr_VR hp _ _ _ g2 k2⟩
 case mp.mp es c es' c' =>
  simp only [COeq, Bool.and_eq_true] at h
  have := Nat.eq_of_beq_eq_true h.2; subst this
  unfold OR at ho ⊢
  obtain ⟨l, h1, h2, h3⟩ := ho
  exact ⟨l, h1, entEq_ok hp h.1 h2, h3⟩
 case sit.sit l n l' n' =>
  simp only [COeq, Bool.and_eq_true] at h
  rw [← leq_eq h.1, ← Nat.eq_of_beq_eq_true h.2]; exact ho
 case mit.mit m s e l m' s' e' l' =>
  simp only [COeq, Bool.and_eq_true] at h
  obtain ⟨⟨⟨hm, hs⟩, he⟩, hl⟩ := h
  rw [← Nat.eq_of_beq_eq_true hs, ← leq_eq he, ← Nat.eq_of_beq_eq_true hl]
  unfold OR at ho ⊢
  obtain ⟨r, h1, h2, h3⟩ := ho
  refine ⟨r, h1, ?_, h3⟩
  cases m <;> cases m' <;> cases r <;> first | (simp at hm; done) | exact h2 | skip
  obtain ⟨q, g1, g2⟩ := h2
  exact ⟨q, by rw [← Nat.eq_of_beq_eq_true hm]; exact hp _ _ g1, g2⟩
end
/-! trees -/
def allT {α : Type} (q : Nat → α → Bool) : T α → Nat → Nat → Bool
 | .leaf, _, _ => true
 | .node l v r, a, b => (match v with | some x => q b x | none => true) && (allT q l (2 * a) (a + b) && allT q r (2 * a) (2 * a + b))
theorem allT_get {α : Type} {q : Nat → α → Bool} : ∀ {t : T α} {a b k : Nat} {x : α}, allT q t a b = true → t.get k = some x → q (a * k + b) x = true := by
 intro t
 induction t with
 | leaf => intro a b k x _ h; cases h
 | node l v r ihl ihr =>
  intro a b k x h hg
  simp only [allT, Bool.and_eq_true] at h
  simp only [T.get] at hg
  cases h0 : Nat.beq k 0 with
  | true =>
   rw [h0] at hg
   have := Nat.eq_of_beq_eq_true h0; subst this
   simp only [cond_true] at hg
   rw [hg] at h
   simpa using h.1
  | false =>
   rw [h0] at hg
   have hk := Nat.ne_of_beq_eq_false h0
   simp only [cond_false] at hg
   cases h1 : Nat.beq (k % 2) 1 with
   | true =>
    rw [h1] at hg
    have := ihl h.2.1 hg
    have hk2 := Nat.eq_of_beq_eq_true h1
    have e : 2 * a * (k / 2) + (a + b) = a * k + b := by
     obtain ⟨m, rfl⟩ : ∃ m, k = 2 * m + 1 := ⟨k / 2, by omega⟩
     rw [show (2 * m + 1) / 2 = m by omega, Nat.mul_add, Nat.mul_one, Nat.mul_right_comm, Nat.mul_comm (2 * m) a, ← Nat.mul_assoc, Nat.mul_comm a 2]; omega
    rw [e] at this; exact this
   | false =>
    rw [h1] at hg
    have := ihr h.2.2 hg
    have hk2 := Nat.ne_of_beq_eq_false h1
    have e : 2 * a * (k / 2 - 1) + (2 * a + b) = a * k + b := by
     obtain ⟨m, rfl⟩ : ∃ m, k = 2 * m + 2 := ⟨k / 2 - 1, by omega⟩
     rw [show (2 * m + 2) / 2 - 1 = m by omega, Nat.mul_add, ← Nat.mul_assoc, Nat.mul_comm a 2]; omega
    rw [e] at this; exact this
def ranB (q : Nat → Bool) : Nat → Bool
 | 0 => true
 | n + 1 => q n && ranB q n
theorem ranB_get {q : Nat → Bool} : ∀ {n : Nat}, ranB q n = true → ∀ i, i < n → q i = true := by
 intro n
 induction n with
 | zero => intro _ i h; omega
 | succ n ih =>
  intro h i hi
  simp only [ranB, Bool.and_eq_true] at h
  by_cases e : i = n
  ·subst e; exact h.1
  ·exact ih h.2 i (by omega)
abbrev Lg := List (Nat × Nat × Nat)
def mapLg (lb : Lg) : Lg → List (Nat × Nat × Nat)
 | [] => []
 | (i, s', e') :: l => (match lb.find? fun x => Nat.beq x.1 i with
  | some (_, s, e) => bif Nat.beq (e - s) (e' - s') && Nat.blt s e then (s, e - s, s') :: mapLg lb l else mapLg lb l
  | none => mapLg lb l)
def swapL : List (Nat × Nat × Nat) → List (Nat × Nat × Nat)
 | [] => []
 | (s, n, s') :: l => (s', n, s) :: swapL l
def oneX (G nx0 : Nat) (lb la : Lg) (eb ea : CE) (HB HA : CH) : Bool :=
 let m := mapLg lb la
 let m' := swapL m
 Nat.beq HA.nx HB.nx && Nat.ble G nx0 && Nat.ble nx0 HA.nx && ranB (fun b => Nat.beq (pi m' (pi m b)) b && Nat.blt (pi m b) HA.nx && Nat.beq (pi m (pi m' b)) b && Nat.blt (pi m' b) HA.nx) HA.nx &&
 ranB (fun b => Nat.beq (pi m' b) b) nx0 &&
 allT (fun a o => Nat.blt a HA.nx && (match HB.t.get (pi m' a) with | some o' => COeq (pi m) o' o | none => false)) HA.t 1 0 &&
 allT (fun t x => match eb.get t with | some y => CV.eqr (pi m) y x | none => false) ea 1 0
theorem oneX_ok {P : Program} {G nx0 : Nat} {h0 : Hp} {lb la : Lg} {eb ea : CE} {HB HA : CH} (hs : oneX G nx0 lb la eb ea HB HA = true) {σ0 σ : Sig} {ρ : Env} {h : Hp} (hfr : ∀ b, nx0 ≤ b → σ0 b = none) (hle : Le σ0 σ)
  (he : ER σ eb ρ) (hh : HR P G h0 σ HB h) : ∃ τ, Le σ0 τ ∧ ER τ ea ρ ∧ HR P G h0 τ HA h := by
 unfold oneX at hs
 simp only [Bool.and_eq_true] at hs
 obtain ⟨⟨⟨⟨⟨⟨s1, s2⟩, s3⟩, s4⟩, s5⟩, s6⟩, s7⟩ := hs
 have hnx := Nat.eq_of_beq_eq_true s1
 have hG := Nat.le_of_ble_eq_true s2
 have hn0 := Nat.le_of_ble_eq_true s3
 have inv : ∀ b, b < HA.nx → pi (swapL (mapLg lb la)) (pi (mapLg lb la) b) = b ∧ pi (mapLg lb la) b < HA.nx ∧ pi (mapLg lb la) (pi (swapL (mapLg lb la)) b) = b ∧ pi (swapL (mapLg lb la)) b < HA.nx := by
  intro b hb
  have := ranB_get s4 b hb
  simp only [Bool.and_eq_true] at this
  exact ⟨Nat.eq_of_beq_eq_true this.1.1.1, by simpa [Nat.blt_eq] using this.1.1.2, Nat.eq_of_beq_eq_true this.1.2, by simpa [Nat.blt_eq] using this.2⟩
 have fix : ∀ b, b < nx0 → pi (swapL (mapLg lb la)) b = b := fun b hb => Nat.eq_of_beq_eq_true (ranB_get s5 b hb)
 generalize mapLg lb la = m at *
 generalize hm' : swapL m = m' at *
 let τ : Sig := fun a => if a < HA.nx then σ (pi m' a) else none
 have hp : ∀ b p, σ b = some p → τ (pi m b) = some p := by
  intro b p hb
  have hlt : b < HA.nx := by
   rcases Nat.lt_or_ge b HA.nx with h1 | h1
   ·exact h1
   ·rw [hh.fresh b (by omega)] at hb; cases hb
  obtain ⟨i1, i2, _, _⟩ := inv b hlt
  show (if pi m b < HA.nx then σ (pi m' (pi m b)) else none) = some p
  rw [if_pos i2, i1]; exact hb
 refine ⟨τ, ?_, ?_, ?_, ?_, ?_, hh.keep, ?_⟩
 ·intro b p hb
  have hlt : b < nx0 := by
   rcases Nat.lt_or_ge b nx0 with h1 | h1
   ·exact h1
   ·rw [hfr b h1] at hb; cases hb
  show (if b < HA.nx then σ (pi m' b) else none) = some p
  rw [if_pos (by omega), fix b hlt]; exact hle _ _ hb
 ·intro t x hx
  have := allT_get s7 hx
  simp only [Nat.one_mul, Nat.add_zero] at this
  split at this
  ·rename_i y hy
   obtain ⟨v, g1, g2⟩ := he t y hy
   exact ⟨v, g1, CV.eqr_VR hp _ _ _ this g2⟩
  ·cases this
 ·intro a o ho
  have := allT_get s6 ho
  simp only [Nat.one_mul, Nat.add_zero, Bool.and_eq_true] at this
  obtain ⟨q1, q2⟩ := this
  have hlt : a < HA.nx := by simpa [Nat.blt_eq] using q1
  split at q2
  ·rename_i o' ho'
   obtain ⟨p, x, g1, g2, g3⟩ := hh.obj _ _ ho'
   refine ⟨p, x, ?_, g2, COeq_ok hp q2 g3⟩
   show (if a < HA.nx then σ (pi m' a) else none) = some p
   rw [if_pos hlt]; exact g1
  ·cases q2
 ·intro a a' o o' p p' ga ga' hne hpa hpa'
  have q1 := allT_get s6 ga
  have q2 := allT_get s6 ga'
  simp only [Nat.one_mul, Nat.add_zero, Bool.and_eq_true] at q1 q2
  have l1 : a < HA.nx := by simpa [Nat.blt_eq] using q1.1
  have l2 : a' < HA.nx := by simpa [Nat.blt_eq] using q2.1
  have r1 := q1.2
  have r2 := q2.2
  split at r1
  ·rename_i b hb
   split at r2
   ·rename_i b' hb'
    have e1 : σ (pi m' a) = some p := by
     have : (if a < HA.nx then σ (pi m' a) else none) = some p := hpa
     rwa [if_pos l1] at this
    have e2 : σ (pi m' a') = some p' := by
     have : (if a' < HA.nx then σ (pi m' a') else none) = some p' := hpa'
     rwa [if_pos l2] at this
    refine hh.inj _ _ _ _ p p' hb hb' ?_ e1 e2
    intro e
    have i1 := (inv a l1).2.2.1
    have i2 := (inv a' l2).2.2.1
    rw [e] at i1
    exact hne (i1.symm.trans i2)
   ·cases r2
  ·cases r1
 ·intro b hb
  show (if b < HA.nx then σ (pi m' b) else none) = none
  rw [if_neg (by omega)]
 ·intro g hg
  obtain ⟨p, g1, g2⟩ := hh.glob g hg
  refine ⟨p, ?_, g2⟩
  show (if g < HA.nx then σ (pi m' g) else none) = some p
  rw [if_pos (by omega), fix g (by omega)]; exact g1
end Go.Ix

/-
 A function that defers one closure, which asks for a panic: what a call of it gives where nothing panics.
-/
set_option linter.unusedSimpArgs false
set_option linter.unusedVariables false
namespace Go.Hw
open Go
structure DefShape where
 r0 : Code
 td : Nat
 g : Nat
 caps : List Operand
 rest : Code
def mkOf (mk df : Oper) : Option (Nat × Nat × List Operand) :=
 match mk.dst, mk.op, mk.guard with
 | some td, .makeFunc (.func g) ⟨[]⟩ ⟨caps⟩, none => (match df.dst, df.op, df.guard with
  | none, .defer ⟨.value (.tmp t), ⟨[]⟩, _⟩, none => bif Nat.beq t td then some (td, g, caps) else none
  | _, _, _ => none)
 | _, _, _ => none
def defOf : Code → Option DefShape
 | .seq r0 (.seq (.region _ ⟨[mk, df]⟩ false) rest) => (match mkOf mk df with
  | some (td, g, caps) => some ⟨r0, td, g, caps, rest⟩
  | none => none)
 | _ => none
def rcOf (rc : Oper) : Option Nat :=
 match rc.dst, rc.op, rc.guard with
 | some tr, .call ⟨.builtin .recover, ⟨[]⟩, _⟩, none => some tr
 | _, _, _ => none
def recOf : Code → Option (Nat × Code)
 | .seq (.region _ ⟨[rc]⟩ false) rest => (match rcOf rc with
  | some tr => some (tr, rest)
  | none => none)
 | _ => none
theorem mkOf_some {mk df : Oper} {td g : Nat} {caps : List Operand} (h : mkOf mk df = some (td, g, caps)) :
  mk.dst = some td ∧ mk.op = .makeFunc (.func g) #[] ⟨caps⟩ ∧ mk.guard = none ∧ df.dst = none ∧ (∃ ts, df.op = .defer ⟨.value (.tmp td), #[], ts⟩) ∧ df.guard = none := by
 unfold mkOf at h
 split at h
 ·rename_i h1 h2 h3
  split at h
  ·rename_i t ts h4 h5 h6
   cases hb : Nat.beq t _ with
   | false => rw [hb] at h; cases h
   | true =>
    rw [hb] at h
    have := Nat.eq_of_beq_eq_true hb
    subst this
    cases h
    exact ⟨h1, h2, h3, h4, ⟨_, h5⟩, h6⟩
  ·cases h
 ·cases h
theorem rcOf_some {rc : Oper} {tr : Nat} (h : rcOf rc = some tr) : rc.dst = some tr ∧ (∃ ts, rc.op = .call ⟨.builtin .recover, #[], ts⟩) ∧ rc.guard = none := by
 unfold rcOf at h
 split at h
 ·rename_i h1 h2 h3
  cases h
  exact ⟨h1, ⟨_, h2⟩, h3⟩
 ·cases h
theorem defOf_some {c : Code} {S : DefShape} (h : defOf c = some S) : ∃ id mk df, c = .seq S.r0 (.seq (.region id #[mk, df] false) S.rest) ∧ mkOf mk df = some (S.td, S.g, S.caps) := by
 unfold defOf at h
 split at h
 ·split at h
  ·rename_i hm
   cases h
   exact ⟨_, _, _, rfl, hm⟩
  ·cases h
 ·cases h
theorem recOf_some {c : Code} {tr : Nat} {r : Code} (h : recOf c = some (tr, r)) : ∃ id rc, c = .seq (.region id #[rc] false) r ∧ rcOf rc = some tr := by
 unfold recOf at h
 split at h
 ·split at h
  ·rename_i hm
   cases h
   exact ⟨_, _, rfl, hm⟩
  ·cases h
 ·cases h
theorem ag0 {args : Array Value} {n : Nat} (hn : args.size ≤ n) : Ag n (env0 args) { tmps := args ++ Array.replicate (n - args.size) undef, defers := [] } := by
 refine ⟨?_, trivial, ?_⟩
 ·simp; omega
 ·intro t v ht
  obtain ⟨_, h2⟩ := argsE_get args.toList 0 t v ht
  have h3 : args[t]? = some v := by simpa using h2
  have hlt : t < args.size := (Array.getElem?_eq_some_iff.1 h3).1
  rw [Array.getElem?_append_left hlt]; exact h3
theorem callFunc_run {P : Program} {E : Nat → Bool} (hE : EnterOk P E) {g : Nat} (hg : E g = true) (args : Array Value) (w : World) : (callFunc g args).run P w = .ok (.enter g args) w := by
 obtain ⟨fn, h1, h2, h3⟩ := hE g hg
 unfold callFunc
 refine (Sem.run_bind' P _ _ w).trans ?_
 have hb : fn.body ≠ none := by intro q; rw [q] at h2; cases h2
 have hnm : fn.name ≠ "runtime.NumGoroutine" := by simpa using h3
 simp [program, Sem.run, h1, hb, hnm]
theorem calls_of_defer {P : Program} {E : Nat → Bool} (hE : EnterOk P E) {f : FuncId} {fn gn : Func} {c gc : Code} {S : DefShape} {tr : Nat} {grest : Code} {args : Array Value} {h : Hp} {K : Value → Hp → Prop}
  (hgE : E S.g = true) (hf : P.funcs[f]? = some fn) (hb : fn.body = some c) (hd : defOf c = some S) (hg : P.funcs[S.g]? = some gn) (hgb : gn.body = some gc) (hr : recOf gc = some (tr, grest)) (hgr : gn.results = #[])
  (hn : args.size ≤ fn.ntmps) (htd : S.td < fn.ntmps) (hgn : S.caps.length ≤ gn.ntmps) (htr : tr < gn.ntmps)
  (hD : D P fn.ntmps S.r0 (env0 args) h (fun e ρ h1 => e = .normal ∧ okAll ρ S.caps = true ∧
   D P fn.ntmps S.rest (putd ρ (some S.td) (.func (.func S.g) #[] ⟨S.caps.map (evD ρ)⟩)) h1 (fun e2 ρ2 h2 => (e2 = .normal ∨ e2 = .ret) ∧
    D P gn.ntmps grest (putd (env0 ⟨S.caps.map (evD ρ)⟩) (some tr) .nilIface) h2 (fun e3 _ h3 => (e3 = .normal ∨ e3 = .ret) ∧ resM P h3 fn.results.toList ρ2 [] fun l => K (resV l) h3)))) :
  HCalls P f args h K := by
 intro w hw
 refine calls_of_wp_defers hf hb ?_
 obtain ⟨id, mk, df, rfl, hmk⟩ := defOf_some hd
 obtain ⟨m1, m2, m3, d1, ⟨ts, d2⟩, d3⟩ := mkOf_some hmk
 obtain ⟨jd, rc, rfl, hrc⟩ := recOf_some hr
 obtain ⟨r1, ⟨ts2, r2⟩, r3⟩ := rcOf_some hrc
 refine wp_seq (wp_mono (hD _ w (ag0 hn) hw) ?_)
 rintro e a1 w1 ⟨ρ1, g1, g2, rfl, hok, hrest⟩
 have hmap : S.caps.map a1.eval = S.caps.map (evD ρ1) := List.map_congr_left fun x hx => g1.evD (okAll_mem hok x hx)
 generalize hv : (Value.func (.func S.g) #[] ⟨S.caps.map (evD ρ1)⟩) = v at hrest
 have g3 := g1.put (d := some S.td) (by simpa [okDst] using htd) v
 show (Code.seq (.region id #[mk, df] false) S.rest).wp P _ a1 w1
 refine wp_seq (wp_region ?_)
 have e1 : (execOp a1.eval mk).run P w1 = .ok (.value v) w1 := by
  unfold execOp
  rw [m2]
  subst hv
  simp only [Instr.makeFunc]
  have : (⟨S.caps⟩ : Array Operand).map a1.eval = ⟨S.caps.map (evD ρ1)⟩ := by rw [← hmap]; simp
  rw [this]
  have : (#[] : Array Operand).map a1.eval = #[] := by simp
  rw [this]
  rfl
 have wmk : ∀ y, Region.wanted mk y = true := fun y => by simp [Region.wanted, m3]
 have wdf : ∀ y, Region.wanted df y = true := fun y => by simp [Region.wanted, d3]
 show wpOps P #[mk, df] _ [0, 1] a1 w1
 simp only [wpOps, List.getElem?_toArray, List.getElem?_cons_zero, List.getElem?_cons_succ, wmk, wdf, if_true]
 left
 unfold Oper.wp
 rw [e1, Oper.upon_value, m1]
 left
 have ev2 : (a1.put (some S.td) v).eval (.tmp S.td) = v := g3.ev (x := .tmp S.td) (by show putd ρ1 (some S.td) v S.td = some v; simp [putd])
 have e2 : (execOp (a1.put (some S.td) v).eval df).run P w1 = .ok (.defer ⟨.fn (.func S.g) ⟨S.caps.map (evD ρ1)⟩, #[]⟩) w1 := by
  unfold execOp
  rw [d2]
  simp only [resolve]
  rw [ev2]
  subst hv
  have me : ∀ F : Operand → Value, (#[] : Array Operand).map F = #[] := fun F => by simp
  rw [me]
  have ap : (#[] : Array Value) ++ #[] = #[] := by simp
  show Result.ok (Next.defer ⟨.fn (.func S.g) ⟨S.caps.map (evD ρ1)⟩, #[] ++ #[]⟩) w1 = _
  rw [ap]
 rw [e2, Oper.upon_defer, d1]
 show S.rest.wp P _ { (a1.put (some S.td) v) with defers := ⟨.fn (.func S.g) ⟨S.caps.map (evD ρ1)⟩, #[]⟩ :: (a1.put (some S.td) v).defers } w1
 have hdef : (a1.put (some S.td) v).defers = [] := g2.2.1
 rw [hdef]
 refine wp_mono (hrest _ w1 ⟨g3.1, trivial, g3.2.2⟩ rfl) ?_
 rintro e3 a3 w3 ⟨ρ3, k1, k2, he3, hgD⟩
 have hds : a3.defers = [⟨.fn (.func S.g) ⟨S.caps.map (evD ρ1)⟩, #[]⟩] := k2.2.1
 have key : Leaves P fn a3.tmps (fun e w' => ∃ v, e = .returned v ∧ K v (hpOf w') ∧ Kp w w') a3.defers .returning w3 := by
  rw [hds]
  refine leaves_cons (by intro q; cases q) (f := S.g) (args := ⟨S.caps.map (evD ρ1)⟩) ?_ ?_
  ·show (callFunc S.g (#[] ++ ⟨S.caps.map (evD ρ1)⟩)).run P w3 = _
   rw [callFunc_run hE hgE]
   simp
  ·refine callsD_of_wpS hg hgb ?_
   intro c₀ cs hc₀
   refine wpS_seq (wpS_region ?_)
   have wrc : ∀ y, Region.wanted rc y = true := fun y => by simp [Region.wanted, r3]
   show wpOpsS P #[rc] _ [0] _ _ w3
   have e4 : ∀ ρ, (execOp ρ rc).run P w3 = .ok .recover w3 := by
    intro ρ
    unfold execOp
    rw [r2]
    rfl
   have hrec : recoverD (c₀ :: cs) = none := by simp [recoverD, hc₀]
   simp only [wpOpsS, List.getElem?_toArray, List.getElem?_cons_zero, wrc, if_true, e4, hrec]
   show grest.wpS P _ _ _ w3
   refine wpS_of_wp ?_
   have ga := ag0 (args := ⟨S.caps.map (evD ρ1)⟩) (n := gn.ntmps) (by simpa using hgn)
   have gb := ga.put (d := some tr) (by simpa [okDst] using htr) .nilIface
   rw [r1]
   refine wp_mono (hgD _ w3 gb rfl) ?_
   rintro e5 a5 w5 ⟨ρ5, q1, q2, he5, hres⟩
   have q3 : a5.defers = [] := q2.2.1
   obtain ⟨l, hl, hrun⟩ := results_M P fn ρ3 a3 _ k1 w5 _ hres
   have ends : a5.defers = [] ∧ ∃ u', (c₀ :: cs) = { c₀ with mode := u' } :: cs ∧ ∃ v, (results gn a5.tmps).run P w5 = .ok v w5 ∧ Leaves P fn a3.tmps (fun e w' => ∃ v, e = .returned v ∧ K v (hpOf w') ∧ Kp w w') [] (settle u') w5 := by
    refine ⟨q3, .returning, by rw [← hc₀], ?_⟩
    obtain ⟨l2, _, hrun2⟩ := results_M P gn ρ5 a5 _ q1 w5 (fun _ => True) (by rw [hgr]; exact trivial)
    refine ⟨_, hrun2, ?_⟩
    exact ⟨_, hrun, _, rfl, hl, g2.2.2.trans (k2.2.2.trans q2.2.2)⟩
   rcases he5 with rfl | rfl <;> exact ends
 rcases he3 with rfl | rfl <;> exact key
end Go.Hw

/-
 Code of the small machine: regions, loops, calls; what it reckons to 'true' holds of the machine's own walk.
-/
set_option linter.unusedSimpArgs false
set_option linter.unusedVariables false
namespace Go.Ix
open Go Go.Hw
class Both (R : Type) where
 an : R → R → R
instance : Both Bool := ⟨fun a b => a && b⟩
instance : Both Nat := ⟨fun a b => bif Nat.beq a 0 then b else a⟩
instance {α : Type} : Both (Option α) := ⟨fun a _ => a⟩
section
variable {R : Type} [Both R]
def entB (P : Program) (g : Nat) : Bool := match P.funcs[g]? with
 | some fn => (match fn.body with | some _ => true | none => false) && !(fn.name == "runtime.NumGoroutine")
 | none => false
theorem entB_ok (P : Program) : EnterOk P (entB P) := by
 intro f hf
 unfold entB at hf
 split at hf
 ·rename_i fn hfn
  simp only [Bool.and_eq_true, Bool.not_eq_true'] at hf
  refine ⟨fn, hfn, ?_, hf.2⟩
  cases hb : fn.body with
  | none => rw [hb] at hf; simp at hf
  | some c => rfl
 ·cases hf
abbrev Call (R : Type) := Nat → List CV → CH → (CV → CH → R) → R
def vksOk (P : Program) : List TypeId → List CV → Bool
 | [], [] => true
 | t :: l, x :: m => vkOk P t x && vksOk P l m
 | _, _ => false
def rsOk (P : Program) (t : TypeId) (x : CV) : Bool :=
 match P.underlying t with
 | some (.tuple ⟨[]⟩) => true
 | some (.tuple ⟨ts⟩) => match x with
  | .tup l => vksOk P ts l
  | _ => false
 | _ => vkOk P t x
def invX (P : Program) (name : String) (t : TypeId) : Option Nat := match P.info? t with
 | some i => match i.methods.find? (·.name == name) with
  | some m => match m.path.toList, m.func with
   | [], some (f, pr) => match P.underlying t with
    | some (.pointer _) => bif pr then some f else none
    | some _ => bif pr then none else some f
    | none => none
   | _, _ => none
  | none => none
 | none => none
def allK (fl : Nat → R) (k : CV → CH → R) : List (CV × CH) → R
 | [] => fl 21
 | [(y, H')] => k y H'
 | (y, H') :: z :: l => Both.an (k y H') (allK fl k (z :: l))
def tagO : Op → Nat
 | .move _ => 1 | .assign _ => 2 | .pick .. => 3 | .alloc _ => 4 | .box .. => 5 | .build .. => 6 | .buildSlice .. => 7 | .insert .. => 8 | .load .. => 9 | .store .. => 10
 | .nilCheck _ => 11 | .binOp .. => 12 | .unOp .. => 13 | .convert .. => 14 | .makeInterface .. => 15 | .makeFunc .. => 16 | .makeMap .. => 17 | .makeSlice .. => 18 | .slice .. => 19 | .fieldAddr .. => 20
 | .field .. => 21 | .indexAddr .. => 22 | .index .. => 23 | .lookup .. => 24 | .mapUpdate .. => 25 | .mapEntry .. => 26 | .entryStore .. => 27 | .range .. => 28 | .next .. => 29 | .entry _ => 30
 | .typeAssert .. => 31 | .extract .. => 32 | .call ⟨.builtin .append, _, _⟩ => 41 | .call ⟨.builtin .copy, _, _⟩ => 42 | .call ⟨.builtin .len, _, _⟩ => 43 | .call ⟨.builtin _, _, _⟩ => 44 | .call ⟨.invoke .., _, _⟩ => 45 | .call _ => 46
 | .panic _ => 47 | .sliceToArrayPointer .. => 48 | .ready _ => 49 | .waits _ => 50
 | _ => 51
def opX (fl : Nat → R) (P : Program) (G : Nat) (call : Call R) (o : Oper) (env : CE) (H : CH) (k : CV → CH → R) : R :=
 match vX P G H env o with
 | some y => k y H
 | none => match eX P G H env o with
  | some (y, H') => k y H'
  | none => match o.op with
   | .call ⟨.value f, args, _⟩ => match evC G env f with
    | some (.fn g fs cs) => match evCs G env args.toList with
     | some vs => bif entB P g then call g (fs ++ (vs ++ cs)) H fun y H' => bif rsOk P o.type y then k y H' else fl 1
       else (match exOf P g with
       | some e => match extX e H (fs ++ (vs ++ cs)) with
        | some y => bif rsOk P o.type y then k y H else fl 1
        | none => fl 20
       | none => fl (1000 + g))
     | none => fl 2
    | _ => fl 3
   | .call ⟨.invoke r name, args, _⟩ => match evC G env r with
    | some (.ifc t x) => match evCs G env args.toList with
     | some vs => match invX P name t with
      | some g => bif entB P g then call g (x :: vs) H k else fl (1000 + g)
      | none => fl 24
     | none => fl 2
    | _ => fl 25
   | .entry x => match evC G env x with
    | some x => match entX H x with
     | some y => k y H
     | none => fl 23
    | none => fl 2
   | .next x false => match evC G env x with
    | some x => match mnX H x with
     | some l => allK fl k l
     | none => fl 22
    | none => fl 2
   | _ => fl (2000 + tagO o.op)
def gdX (l : List Oper) (j : Nat) (env : CE) : Option (Option Bool) := match gdstL l j with
 | some d => match env.get d with
  | some (.bool c) => some (some c)
  | some (.tup _) => some none
  | _ => none
 | none => none
def stepX (fl : Nat → R) (P : Program) (G : Nat) (call : Call R) (n : Nat) (all : List Oper) (o : Oper) (env : CE) (H : CH) (k : CE → CH → R) : R :=
 bif okDst n o.dst then
  match o.guard with
  | none => opX fl P G call o env H fun y H' => k (putE env o.dst y) H'
  | some (j, want) => match gdX all j env with
   | some c => bif gEq c want then opX fl P G call o env H fun y H' => k (putE env o.dst y) H' else k (putE env o.dst (.tup [])) H
   | none => fl 5
 else fl 6
def opsX (fl : Nat → R) (P : Program) (G : Nat) (call : Call R) (n : Nat) (all : List Oper) : List Oper → CE → CH → (CE → CH → R) → R
 | [], env, H, k => k env H
 | o :: l, env, H, k => stepX fl P G call n all o env H fun env' H' => opsX fl P G call n all l env' H' k
abbrev WX := List (Nat × Oper × CE × CV)
def chkW (P : Program) (G : Nat) (m : Nat) (H : CH) : WX → Bool
 | [] => true
 | (i, o, env, y) :: W => (bit m i || (match vX P G H env o with
  | some z => CV.eq y z
  | none => false)) && chkW P G m H W
def dDX (fl : Nat → R) (P : Program) (G : Nat) (call : Call R) (n : Nat) (all : List Oper) (M : List Nat) : WX → List Nat → CE → CH → (CE → CH → R) → R
 | _, [], env, H, k => k env H
 | W, i :: l, env, H, k =>
  match all[i]? with
  | none => fl 7
  | some o => match clsO P o with
   | .pure => stepX fl P G call n all o env H fun env' H' => dDX fl P G call n all M W l env' H' k
   | .eff => stepX fl P G call n all o env H fun env' H' => bif chkW P G (M.getD i 0) H' W then dDX fl P G call n all M W l env' H' k else fl 8
   | .read => bif okDst n o.dst then
     match o.guard with
     | none => match vX P G H env o with
      | some y => dDX fl P G call n all M ((i, o, env, y) :: W) l (putE env o.dst y) H k
      | none => fl 9
     | some (j, want) => match gdX all j env with
      | some c => bif gEq c want then (match vX P G H env o with
        | some y => dDX fl P G call n all M ((i, o, env, y) :: W) l (putE env o.dst y) H k
        | none => fl 9) else dDX fl P G call n all M W l (putE env o.dst (.tup [])) H k
      | none => fl 5
    else fl 6
def pickO (P : Program) (done : Nat) (M : List Nat) (any : Bool) : List Oper → Nat → Option Nat
 | [], _ => none
 | o :: l, i => bif !bit done i && (Nat.beq (Nat.land (M.getD i 0) done) (M.getD i 0) && (any || (match clsO P o with | .eff => false | _ => true))) then some i else pickO P done M any l (i + 1)
def ordX (P : Program) (ops : List Oper) (M : List Nat) : Nat → Nat → List Nat
 | 0, _ => []
 | f + 1, done => match pickO P done M false ops 0 with
  | some i => i :: ordX P ops M f (Nat.lor done (Nat.shiftLeft 1 i))
  | none => match pickO P done M true ops 0 with
   | some i => i :: ordX P ops M f (Nat.lor done (Nat.shiftLeft 1 i))
   | none => []
def valG (P : Program) (G n : Nat) (all : List Oper) (o : Oper) (env : CE) (H : CH) : Option CV :=
 bif okDst n o.dst then
  match o.guard with
  | none => vX P G H env o
  | some (j, want) => match gdX all j env with
   | some c => bif gEq c want then vX P G H env o else some (.tup [])
   | none => none
 else none
def chkT (P : Program) (G n : Nat) (all : List Oper) (m : Nat) (H : CH) : WX → Bool
 | [] => true
 | (i, o, env, y) :: W => (bit m i || (match valG P G n all o env H with
  | some z => CV.eq y z
  | none => false)) && chkT P G n all m H W
def rdB (done : Nat) (o : Oper) (i : Nat) : Bool := !bit done i && (o.after.toList.all fun e => !Region.binds .any e || bit done e.on)
def pickT (P : Program) (done : Nat) : List Oper → Nat → Option Nat
 | [], _ => none
 | o :: l, i => bif rdB done o i && (match clsO P o with | .eff => false | _ => true) then some i else pickT P done l (i + 1)
def effsT (done : Nat) : List Oper → Nat → List Nat
 | [], _ => []
 | o :: l, i => bif rdB done o i then i :: effsT done l (i + 1) else effsT done l (i + 1)
def allI (run : Nat → R) : Nat → List Nat → R
 | i, [] => run i
 | i, j :: r => Both.an (run i) (allI run j r)
def treeX (fl : Nat → R) (P : Program) (G : Nat) (call : Call R) (n : Nat) (all : List Oper) (M : List Nat) (one : Bool) : Nat → Nat → WX → Lg → CE → CH → (Lg → CE → CH → R) → R
 | 0, done, _, lg, env, H, k => (match pickT P done all 0, effsT done all 0 with
  | none, [] => k lg env H
  | _, _ => fl 31)
 | f + 1, done, W, lg, env, H, k => (match pickT P done all 0 with
  | some i => (match all[i]? with
   | none => fl 7
   | some o => (match valG P G n all o env H with
    | some y => (match clsO P o with
     | .pure => treeX fl P G call n all M one f (Nat.lor done (Nat.shiftLeft 1 i)) W lg (putE env o.dst y) H k
     | .read => treeX fl P G call n all M one f (Nat.lor done (Nat.shiftLeft 1 i)) ((i, o, env, y) :: W) lg (putE env o.dst y) H k
     | .eff => fl 7)
    | none => fl 9))
  | none => (match effsT done all 0 with
   | [] => k lg env H
   | i :: r =>
    let run : Nat → R := fun i => (match all[i]? with
     | none => fl 7
     | some o => (match clsO P o with
      | .eff => stepX fl P G call n all o env H fun env' H' => bif chkT P G n all (M.getD i 0) H' W then treeX fl P G call n all M one f (Nat.lor done (Nat.shiftLeft 1 i)) W ((i, H.nx, H'.nx) :: lg) env' H' k else fl 8
      | _ => fl 7))
    bif one then run i else allI run i r))
abbrev Tre (R : Type) := Call R → Nat → List Oper → CE → CH → (CE → CH → R) → R
def tree1 (fl : Nat → R) (P : Program) (G : Nat) : Tre R := fun call n ops env H k => treeX fl P G call n ops (masks ops []) true ops.length 0 [] [] env H fun _ e h => k e h
def regX (fl : Nat → R) (P : Program) (G : Nat) (tr : Tre R) (call : Call R) (n : Nat) (ops : List Oper) (draw : Bool) (env : CE) (H : CH) (k : CE → CH → R) : R :=
 bif draw then
  (bif orderGood P ops (ordX P ops (masks ops []) ops.length 0) then dDX fl P G call n ops (masks ops []) [] (ordX P ops (masks ops []) ops.length 0) env H k else tr call n ops env H k)
 else opsX fl P G call n ops ops env H k
def loopX (fl : Nat → R) (body : CE → CH → (Exit → CE → CH → R) → R) : Nat → CE → CH → (Exit → CE → CH → R) → R
 | 0, _, _, _ => fl 11
 | m + 1, env, H, k => body env H fun e env' H' => match e with
  | .normal => loopX fl body m env' H' k
  | .exit i => k (.exit i) env' H'
  | .goto l => k (.goto l) env' H'
  | .ret => k .ret env' H'
  | _ => fl 12
def cX (fl : Nat → R) (P : Program) (G : Nat) (tr : Tre R) (call : Call R) (lf : Nat) (n : Nat) : Code → CE → CH → (Exit → CE → CH → R) → R
 | .skip, env, H, k => k .normal env H
 | .region _ ops draw, env, H, k => regX fl P G tr call n ops.toList draw env H fun env' H' => k .normal env' H'
 | .seq x y, env, H, k => cX fl P G tr call lf n x env H fun e env' H' => match e with
  | .normal => cX fl P G tr call lf n y env' H' k
  | .exit i => k (.exit i) env' H'
  | .goto l => k (.goto l) env' H'
  | .ret => k .ret env' H'
  | _ => fl 12
 | .cond c x y, env, H, k => match evC G env c with
  | some (.bool b) => bif b then cX fl P G tr call lf n x env H k else cX fl P G tr call lf n y env H k
  | _ => fl 13
 | .block id c, env, H, k => cX fl P G tr call lf n c env H fun e env' H' => match e with
  | .normal => k .normal env' H'
  | .exit i => bif Nat.beq i id then k .normal env' H' else k (.exit i) env' H'
  | .goto l => k (.goto l) env' H'
  | .ret => k .ret env' H'
  | _ => fl 12
 | .scope c, env, H, k => cX fl P G tr call lf n c env H fun e env' H' => match e with
  | .normal => k .normal env' H'
  | .exit i => k (.exit i) env' H'
  | .ret => k .ret env' H'
  | _ => fl 12
 | .loop c, env, H, k => loopX fl (cX fl P G tr call lf n c) lf env H k
 | .exit id, env, H, k => k (.exit id) env H
 | .label _, env, H, k => k .normal env H
 | .ret, env, H, k => k .ret env H
 | _, _, _, _ => fl 14
def argsX : Nat → List CV → CE
 | _, [] => .leaf
 | i, x :: l => (argsX (i + 1) l).set i (some x)
def resX (P : Program) (H : CH) (env : CE) : List ResultVar → Option (List CV)
 | [] => some []
 | .tmp t :: r => match env.get t, resX P H env r with
  | some x, some l => some (x :: l)
  | _, _ => none
 | .cell a t :: r => match env.get a with
  | some (.ptr b o) => bif (P.underlying t).isSome then (match ldX P H t b o, resX P H env r with
   | some x, some l => some (x :: l)
   | _, _ => none) else none
  | _ => none
def resC : List CV → CV
 | [x] => x
 | l => .tup l
def endE : Exit → Bool
 | .normal => true
 | .ret => true
 | _ => false
def dfX (fl : Nat → R) (P : Program) (G : Nat) (run : Nat → Code → CE → CH → (Exit → CE → CH → R) → R) (fn : Func) (S : DefShape) (args : List CV) (H : CH) (k : CV → CH → R) : R :=
 match P.funcs[S.g]? with
 | some gn => (match gn.body with
  | some gc => (match recOf gc with
   | some (tr, grest) =>
    bif Nat.beq gn.results.toList.length 0 && (Nat.blt S.td fn.ntmps && (Nat.ble S.caps.length gn.ntmps && (Nat.blt tr gn.ntmps && entB P S.g))) then
     run fn.ntmps S.r0 (argsX 0 args) H fun e env1 H1 => (match e with
     | .normal => (match evCs G env1 S.caps with
      | some cs => run fn.ntmps S.rest (putE env1 (some S.td) (.fn S.g [] cs)) H1 fun e2 env2 H2 => bif endE e2 then
        (run gn.ntmps grest (putE (argsX 0 cs) (some tr) .nili) H2 fun e3 _ H3 => bif endE e3 then
         (match resX P H3 env2 fn.results.toList with
         | some l => k (resC l) H3
         | none => fl 16) else fl 12) else fl 12
      | none => fl 2)
     | _ => fl 12)
    else fl 32
   | none => fl 33)
  | none => fl 18)
 | none => fl 19
def callX (fl : Nat → R) (P : Program) (G : Nat) (tr : Tre R) (lf : Nat) : Nat → Call R
 | 0, _, _, _, _ => fl 15
 | m + 1, g, args, H, k => match P.funcs[g]? with
  | some fn => match fn.body with
   | some c => bif Nat.ble args.length fn.ntmps then (match defOf c with
    | some S => dfX (fun i => fl (i + 10000 * g)) P G (fun n c => cX (fun i => fl (i + 10000 * g)) P G tr (callX fl P G tr lf m) lf n c) fn S args H k
    | none => cX (fun i => fl (i + 10000 * g)) P G tr (callX fl P G tr lf m) lf fn.ntmps c (argsX 0 args) H fun e env' H' =>
     (match e with
     | .normal => (match resX P H' env' fn.results.toList with
      | some l => k (resC l) H'
      | none => fl 16)
     | .ret => (match resX P H' env' fn.results.toList with
      | some l => k (resC l) H'
      | none => fl 16)
     | _ => fl 12)) else fl 17
   | none => fl 18
  | none => fl 19
end
section
variable {P : Program} {G : Nat} {h0 : Hp}
abbrev no : Nat → Bool := fun _ => false
def CallOk (P : Program) (G : Nat) (h0 : Hp) (call : Call Bool) : Prop := ∀ g args H k, call g args H k = true → ∀ σ h vs, VRs σ args vs → HR P G h0 σ H h →
 ∀ K : Value → Hp → Prop, (∀ σ' y v H' h', Le σ σ' → VR σ' y v → HR P G h0 σ' H' h' → k y H' = true → K v h') → HCalls P g ⟨vs⟩ h K
theorem vkOk_VT {t : TypeId} {σ : Sig} {x : CV} {v : Value} (hk : vkOk P t x = true) (hr : VR σ x v) {F : (vtOf P t).T → Prop} (hf : ∀ y, (vtOf P t).mk y = v → F y) : (vtOf P t).on (some v) F := by
 unfold vkOk at hk
 generalize vtOf P t = vt at hk F hf ⊢
 split at hk
 ·exact kOk_on (F := F) hk hr hf
 ·split at hk
  ·unfold VR at hr; obtain ⟨vs, rfl, hvs⟩ := hr
   exact ksOk_on hk hvs fun y hy => hf y (by show Value.agg ⟨TL.mk _ y⟩ = _; rw [hy])
  ·cases hk
theorem vksOk_on {σ : Sig} : ∀ {ts : List TypeId} {l : List CV} {vs : List Value} {F : TVs (mapT (vtOf P) ts) → Prop}, vksOk P ts l = true → VRs σ l vs → (∀ y, TVs.mk (mapT (vtOf P) ts) y = vs → F y) → TVs.on (mapT (vtOf P) ts) vs F
 | [], l, vs, F, hk, hv, hf => by
  cases l with
  | nil => unfold VRs at hv; subst hv; exact hf () rfl
  | cons => cases hk
 | [t], l, vs, F, hk, hv, hf => by
  rcases l with _ | ⟨x, _ | ⟨y, l⟩⟩
  ·cases hk
  ·unfold VRs at hv; obtain ⟨v, r, rfl, h1, h2⟩ := hv
   unfold VRs at h2; subst h2
   simp only [vksOk, Bool.and_true] at hk
   exact vkOk_VT hk h1 fun y hy => hf y (by simp [TVs.mk, mapT, hy])
  ·simp [vksOk] at hk
 | t :: u :: ts, l, vs, F, hk, hv, hf => by
  cases l with
  | nil => cases hk
  | cons x l =>
   unfold VRs at hv; obtain ⟨v, r, rfl, h1, h2⟩ := hv
   simp only [vksOk, Bool.and_eq_true] at hk
   refine vkOk_VT hk.1 h1 fun y hy => ?_
   have hk2 : vksOk P (u :: ts) l = true := by
    cases l with
    | nil => simp [vksOk] at hk
    | cons => simpa [vksOk] using hk.2
   exact vksOk_on (ts := u :: ts) hk2 h2 fun z hz => hf (y, z) (by
    show (vtOf P t).mk y :: TVs.mk (mapT (vtOf P) (u :: ts)) z = _
    rw [hy, hz])
theorem rsOk_ok {t : TypeId} {σ : Sig} {x : CV} {v : Value} (hk : rsOk P t x = true) (hr : VR σ x v) {F : Value → Prop} (hf : F v) : resOn P t v F := by
 unfold rsOk at hk
 unfold resOn
 split at hk
 ·rename_i hu; rw [hu]; exact hf
 ·rename_i ts hn hu
  rw [hu]; simp only []
  split at hk
  ·unfold VR at hr; obtain ⟨vs, rfl, hvs⟩ := hr
   unfold tupOn; simp only []
   exact vksOk_on hk hvs fun y hy => by rw [hy]; exact hf
  ·cases hk
 ·rename_i h1 h2
  split
  ·rename_i hu; exact absurd hu h1
  ·rename_i ts hts hu; exact absurd hu (h2 ts)
  ·exact vkOk_VT hk hr fun y hy => by rw [hy]; exact hf
theorem allK_ok {k : CV → CH → Bool} : ∀ {l : List (CV × CH)}, allK no k l = true → ∀ y H', (y, H') ∈ l → k y H' = true
 | [], h, y, H', hm => by cases hm
 | [(a, A)], h, y, H', hm => by
  rw [List.mem_singleton] at hm; cases hm; exact h
 | (a, A) :: z :: l, h, y, H', hm => by
  have h2 : (k a A && allK no k (z :: l)) = true := h
  rw [Bool.and_eq_true] at h2
  cases hm with
  | head => exact h2.1
  | tail _ hm => exact allK_ok h2.2 y H' hm
theorem invX_ok {name : String} {t : TypeId} {g : Nat} (hi : invX P name t = some g) {v : Value} {h : Hp} {n : Nat} {K : FuncId × Value → Hp → Prop} (hK : K (g, v) h) : swp P (method (n + 1) t v name) h K := by
 unfold invX at hi
 split at hi
 ·rename_i i hinf
  split at hi
  ·rename_i m hm
   split at hi
   ·rename_i f pr hp hf
    unfold method
    rw [swp_bind']
    refine typeInfo_swp hinf ?_
    rw [hm]
    simp only [hp, swp_bind']
    unfold follow
    rw [swp_pure]
    simp only [hf, swp_bind']
    split at hi
    ·rename_i e hu
     cases pr with
     | false => cases hi
     | true =>
      cases hi
      unfold receiverAt
      rw [swp_bind']
      refine underlying_swp hu ?_
      exact hK
    ·rename_i d hn hu
     cases pr with
     | true => cases hi
     | false =>
      cases hi
      unfold receiverAt
      rw [swp_bind']
      refine underlying_swp hu ?_
      cases d <;> first | exact hK | exact absurd rfl (hn _)
    ·cases hi
   ·cases hi
  ·cases hi
 ·cases hi
theorem opX_ok {call : Call Bool} (hc : CallOk P G h0 call) {o : Oper} {env : CE} {H : CH} {k : CV → CH → Bool} (hx : opX no P G call o env H k = true) {σ : Sig} {ρ : Env} {h : Hp} (he : ER σ env ρ) (hh : HR P G h0 σ H h)
  {K : Value → Hp → Prop} (hK : ∀ σ' y v H' h', Le σ σ' → VR σ' y v → HR P G h0 σ' H' h' → k y H' = true → K v h') : opK P (entB P) o ρ h K := by
 unfold opX at hx
 split at hx
 ·rename_i y hy
  obtain ⟨v, h1, h2⟩ := vX_ok (E := entB P) he hh hy
  exact h2 K (hK σ y v H h (Le.refl σ) h1 hh hx)
 ·split at hx
  ·rename_i y H' hy
   exact eX_ok he hh hy fun σ' v h' hl hv hh' => hK σ' y v H' h' hl hv hh' hx
  ·split at hx
   ·rename_i f args ts ho
    split at hx
    ·rename_i g fs cs hf
     split at hx
     ·rename_i vs hvs
      obtain ⟨vf, f1, f2⟩ := evC_ok hf he hh
      obtain ⟨ws, w1, w2, w3, w4⟩ := evCs_ok he hh hvs
      unfold VR at f2; obtain ⟨xs, ys, rfl, x1, y1⟩ := f2
      unfold opK
      rw [ho]
      refine mv_ok f1 (w4 [] _ ?_)
      simp only [List.reverse_nil, List.nil_append]
      unfold callK HCallV
      simp only []
      cases hb : entB P g with
      | false =>
       rw [hb] at hx
       simp only [cond_false] at hx ⊢
       split at hx
       ·rename_i e he'
        split at hx
        ·rename_i y hy
         cases hrs : rsOk P o.type y with
         | false => rw [hrs] at hx; cases hx
         | true =>
          rw [hrs] at hx
          obtain ⟨v, v1, v2⟩ := ext_ok hh he' hy (x1.app (w1.app y1))
          exact v2 _ (rsOk_ok (F := fun v' => K v' h) hrs v1 (hK σ y v H h (Le.refl σ) v1 hh hx))
        ·cases hx
       ·cases hx
      | true =>
       rw [hb] at hx
       simp only [cond_true] at hx ⊢
       refine hc _ _ _ _ hx σ h _ (x1.app (w1.app y1)) hh _ ?_
       intro σ' y v H' h' hl hv hh' hky
       cases hrs : rsOk P o.type y with
       | false => rw [hrs] at hky; cases hky
       | true =>
        rw [hrs] at hky
        exact rsOk_ok (F := fun v' => K v' h') hrs hv (hK σ' y v H' h' hl hv hh' hky)
     ·cases hx
    ·cases hx
   ·rename_i r name args ts ho
    split at hx
    ·rename_i t x hrx
     split at hx
     ·rename_i vs hvs
      split at hx
      ·rename_i g hg
       cases hb : entB P g with
       | false => rw [hb] at hx; cases hx
       | true =>
        rw [hb] at hx
        simp only [cond_true] at hx
        obtain ⟨vr, f1, f2⟩ := evC_ok hrx he hh
        obtain ⟨ws, w1, w2, w3, _⟩ := evCs_ok he hh hvs
        unfold VR at f2; obtain ⟨xv, rfl, f3⟩ := f2
        unfold opK
        rw [ho]
        show someAny ρ P o h K
        unfold someAny
        have hokk : (okAll ρ o.op.operands.toList && !isSel o.op) = true := by
         rw [ho]
         simp only [Op.operands, Call.operands, isSel, Bool.not_false, Bool.and_true]
         have : okAll ρ (r :: args.toList) = true := by simp [okAll, (some1 f1).1, w2]
         simpa using this
        rw [hokk]
        show opS P o (evD ρ) h K
        unfold opS execOp
        rw [ho]
        simp only []
        have hres : resolve (evD ρ) ⟨.invoke r name, args, ts⟩ o.type = (pure { target := .fn (.method name) #[], args := #[.iface t xv] ++ args.map (evD ρ) } : Sem Deferred) := by
         unfold resolve; simp only [(some1 f1).2]
        rw [hres]
        show swp P (invoke (.fn (.method name) #[]) (#[.iface t xv] ++ args.map (evD ρ))) h (nextK P K)
        have hargs : (#[.iface t xv] ++ args.map (evD ρ) : Array Value) = ⟨.iface t xv :: ws⟩ := by apply Array.ext'; simp [w3]
        rw [hargs]
        have hinv : invoke (.fn (.method name) #[]) ⟨.iface t xv :: ws⟩ = callMethod (.iface t xv) name ⟨ws⟩ := by
         unfold invoke
         have e0 : (⟨.iface t xv :: ws⟩ : Array Value)[0]? = some (.iface t xv) := rfl
         simp only [e0]
         congr 1
         apply Array.ext'; simp
        rw [hinv]
        unfold callMethod
        simp only []
        rw [swp_bind', program_swp, swp_bind']
        have hd : P.types.size + Made.depth = (P.types.size + Made.depth - 1) + 1 := by
         have : 0 < Made.depth := by decide
         omega
        rw [hd]
        refine invX_ok hg ?_
        have ha : (#[xv] ++ ⟨ws⟩ : Array Value) = ⟨xv :: ws⟩ := by apply Array.ext'; simp
        simp only [ha]
        refine callFunc_swp (entB_ok P) hb ?_
        exact hc _ _ _ _ hx σ h _ (by unfold VRs; exact ⟨xv, ws, rfl, f3, w1⟩) hh _ hK
      ·cases hx
     ·cases hx
    ·cases hx
   ·rename_i x ho
    split at hx
    ·rename_i c hcx
     split at hx
     ·rename_i y hy
      obtain ⟨v, h1, h2⟩ := evC_ok hcx he hh
      obtain ⟨w, p, rfl, g1, g2⟩ := entX_ok (h := h) hh hy h2
      unfold opK
      rw [ho]
      exact mv_ok h1 (g2 K (hK σ y w H h (Le.refl σ) g1 hh hx))
     ·cases hx
    ·cases hx
   ·rename_i x ho
    split at hx
    ·rename_i c hcx
     split at hx
     ·rename_i l hl
      obtain ⟨v, h1, h2⟩ := evC_ok hcx he hh
      obtain ⟨p, rfl, hn⟩ := mnX_ok (K := K) hh hl h2 fun y H' hm v h' hv hh' => hK σ y v H' h' (Le.refl σ) hv hh' (allK_ok hx y H' hm)
      unfold opK
      rw [ho]
      exact mv_ok h1 hn
     ·cases hx
    ·cases hx
   ·cases hx
theorem gdX_ok {l : List Oper} {j : Nat} {env : CE} {σ : Sig} {ρ : Env} (he : ER σ env ρ) {c : Option Bool} (hg : gdX l j env = some c) {F : Option Bool → Env → Prop} (hF : F c ρ) : gK ρ (gdstL l j) F := by
 unfold gdX at hg
 unfold gK
 split at hg
 ·rename_i d hd
  rw [hd]; simp only []
  split at hg
  ·rename_i b hb
   cases hg
   obtain ⟨v, h1, h2⟩ := he d _ hb
   unfold VR at h2; subst h2
   rw [h1]; simp only []
   cases b
   ·simp only [cond_false]; rw [putd_same h1]; exact hF
   ·simp only [cond_true]; rw [putd_same h1]; exact hF
  ·rename_i b hb
   cases hg
   obtain ⟨v, h1, h2⟩ := he d _ hb
   unfold VR at h2; obtain ⟨vs, rfl, _⟩ := h2
   rw [h1]; exact hF
  ·cases hg
 ·cases hg
theorem stepX_ok {call : Call Bool} (hc : CallOk P G h0 call) {n : Nat} {all : List Oper} {o : Oper} {env : CE} {H : CH} {k : CE → CH → Bool} (hx : stepX no P G call n all o env H k = true) {σ : Sig} {ρ : Env} {h : Hp}
  (he : ER σ env ρ) (hh : HR P G h0 σ H h) {X : Env → Hp → Prop} (hX : ∀ σ' env' ρ' H' h', Le σ σ' → ER σ' env' ρ' → HR P G h0 σ' H' h' → k env' H' = true → X ρ' h') : denOp P (entB P) n all o ρ h X := by
 unfold stepX at hx
 cases hd : okDst n o.dst with
 | false => rw [hd] at hx; cases hx
 | true =>
  rw [hd] at hx
  simp only [cond_true] at hx
  unfold denOp
  cases hg : o.guard with
  | none =>
   rw [hg] at hx
   simp only [] at hx ⊢
   rw [hd]
   exact opX_ok hc hx he hh fun σ' y v H' h' hl hv hh' hk => hX σ' _ _ H' h' hl ((he.mono hl).put o.dst hv) hh' hk
  | some g =>
   obtain ⟨j, want⟩ := g
   rw [hg] at hx
   simp only [] at hx ⊢
   split at hx
   ·rename_i c hcg
    refine gdX_ok he hcg ?_
    rw [hd]
    simp only [cond_true]
    cases hq : gEq c want with
    | true =>
     rw [hq] at hx
     exact opX_ok hc hx he hh fun σ' y v H' h' hl hv hh' hk => hX σ' _ _ H' h' hl ((he.mono hl).put o.dst hv) hh' hk
    | false =>
     rw [hq] at hx
     exact hX σ _ _ H h (Le.refl σ) (he.put o.dst VR_undef) hh hx
   ·cases hx
theorem opsX_ok {call : Call Bool} (hc : CallOk P G h0 call) {n : Nat} {all : List Oper} : ∀ {l : List Oper} {env : CE} {H : CH} {k : CE → CH → Bool} (hx : opsX no P G call n all l env H k = true) {σ : Sig} {ρ : Env} {h : Hp}
  (he : ER σ env ρ) (hh : HR P G h0 σ H h) {X : Env → Hp → Prop} (hX : ∀ σ' env' ρ' H' h', Le σ σ' → ER σ' env' ρ' → HR P G h0 σ' H' h' → k env' H' = true → X ρ' h'), denOps P (entB P) n all l ρ h X := by
 intro l
 induction l with
 | nil => intro env H k hx σ ρ h he hh X hX; exact hX σ env ρ H h (Le.refl σ) he hh hx
 | cons o l ih =>
  intro env H k hx σ ρ h he hh X hX
  unfold denOps
  refine stepX_ok hc (show stepX no P G call n all o env H (fun env' H' => opsX no P G call n all l env' H' k) = true from hx) he hh ?_
  intro σ' env' ρ' H' h' hl he' hh' hk
  exact ih hk he' hh' fun σ'' env'' ρ'' H'' h'' hl' => hX σ'' env'' ρ'' H'' h'' (hl.trans hl')
def WR (P : Program) (σ : Sig) : WX → Watch → Prop
 | [], W => W = []
 | (i, o, env, y) :: r, W => ∃ ρ v W', W = (i, rechk P (entB P) o ρ v) :: W' ∧ ER σ env ρ ∧ VR σ y v ∧ WR P σ r W'
theorem WR.mono {σ σ' : Sig} (hs : Le σ σ') : ∀ {w : WX} {W : Watch}, WR P σ w W → WR P σ' w W := by
 intro w
 induction w with
 | nil => intro W h; exact h
 | cons a w ih =>
  intro W h
  obtain ⟨i, o, env, y⟩ := a
  unfold WR at h ⊢; obtain ⟨ρ, v, W', h1, h2, h3, h4⟩ := h
  exact ⟨ρ, v, W', h1, h2.mono hs, h3.mono hs _ _, ih h4⟩
theorem chkW_ok {m : Nat} {H : CH} {σ : Sig} {h : Hp} (hh : HR P G h0 σ H h) {X : Prop} (hX : X) : ∀ {w : WX} {W : Watch}, chkW P G m H w = true → WR P σ w W → andW m W h X := by
 intro w
 induction w with
 | nil => intro W _ hW; unfold WR at hW; subst hW; exact hX
 | cons a w ih =>
  intro W hc hW
  obtain ⟨i, o, env, y⟩ := a
  unfold WR at hW; obtain ⟨ρ, v, W', rfl, h2, h3, h4⟩ := hW
  simp only [chkW, Bool.and_eq_true, Bool.or_eq_true] at hc
  unfold andW
  cases hb : bit m i with
  | true => exact ih hc.2 h4
  | false =>
   rw [hb] at hc
   refine ⟨?_, ih hc.2 h4⟩
   have h5 := hc.1.resolve_left (by simp)
   split at h5
   ·rename_i z hz
    have := CV.eq_eq _ _ h5; subst this
    obtain ⟨v', g1, g2⟩ := vX_ok (E := entB P) h2 hh hz
    have := VR.one _ _ _ h3 g1; subst this
    exact g2 _ ⟨rfl, rfl⟩
   ·cases h5
theorem dDX_ok {call : Call Bool} (hc : CallOk P G h0 call) {n : Nat} {all : List Oper} {M : List Nat} : ∀ {l : List Nat} {w : WX} {env : CE} {H : CH} {k : CE → CH → Bool} (hx : dDX no P G call n all M w l env H k = true) {σ : Sig} {ρ : Env} {h : Hp} {W : Watch}
  (he : ER σ env ρ) (hh : HR P G h0 σ H h) (hw : WR P σ w W) {X : Env → Hp → Prop} (hX : ∀ σ' env' ρ' H' h', Le σ σ' → ER σ' env' ρ' → HR P G h0 σ' H' h' → k env' H' = true → X ρ' h'), dD P (entB P) n all M X W l ρ h := by
 intro l
 induction l with
 | nil => intro w env H k hx σ ρ h W he hh hw X hX; exact hX σ env ρ H h (Le.refl σ) he hh hx
 | cons i l ih =>
  intro w env H k hx σ ρ h W he hh hw X hX
  unfold dDX at hx
  unfold dD
  cases ho : all[i]? with
  | none => rw [ho] at hx; cases hx
  | some o =>
   rw [ho] at hx
   simp only [] at hx ⊢
   cases hcl : clsO P o with
   | pure =>
    rw [hcl] at hx
    simp only [] at hx ⊢
    refine stepX_ok hc hx he hh ?_
    intro σ' env' ρ' H' h' hl he' hh' hk
    exact ih hk he' hh' (hw.mono hl) fun σ'' env'' ρ'' H'' h'' hl' => hX σ'' env'' ρ'' H'' h'' (hl.trans hl')
   | eff =>
    rw [hcl] at hx
    simp only [] at hx ⊢
    refine stepX_ok hc hx he hh ?_
    intro σ' env' ρ' H' h' hl he' hh' hk
    cases hck : chkW P G (M.getD i 0) H' w with
    | false => rw [hck] at hk; cases hk
    | true =>
     rw [hck] at hk
     exact chkW_ok hh' (ih hk he' hh' (hw.mono hl) fun σ'' env'' ρ'' H'' h'' hl' => hX σ'' env'' ρ'' H'' h'' (hl.trans hl')) hck (hw.mono hl)
   | read =>
    rw [hcl] at hx
    simp only [] at hx ⊢
    cases hd : okDst n o.dst with
    | false => rw [hd] at hx; cases hx
    | true =>
     rw [hd] at hx
     simp only [cond_true] at hx
     cases hg : o.guard with
     | none =>
      rw [hg] at hx
      simp only [cond_true] at hx ⊢
      split at hx
      ·rename_i y hy
       obtain ⟨v, g1, g2⟩ := vX_ok (E := entB P) he hh hy
       refine g2 _ ?_
       refine ih hx (he.put o.dst g1) hh ?_ hX
       unfold WR; exact ⟨ρ, v, W, rfl, he, g1, hw⟩
      ·cases hx
     | some g =>
      obtain ⟨j, want⟩ := g
      rw [hg] at hx
      simp only [cond_true] at hx ⊢
      split at hx
      ·rename_i c hcg
       refine gdX_ok he hcg ?_
       cases hq : gEq c want with
       | true =>
        rw [hq] at hx
        simp only [cond_true] at hx ⊢
        split at hx
        ·rename_i y hy
         obtain ⟨v, g1, g2⟩ := vX_ok (E := entB P) he hh hy
         refine g2 _ ?_
         refine ih hx (he.put o.dst g1) hh ?_ hX
         unfold WR; exact ⟨ρ, v, W, rfl, he, g1, hw⟩
        ·cases hx
       | false =>
        rw [hq] at hx
        simp only [cond_false] at hx ⊢
        exact ih hx (he.put o.dst VR_undef) hh hw hX
      ·cases hx
theorem gd_ok {ops : Array Oper} {j : Nat} {env : CE} {σ : Sig} {ρ : Env} (he : ER σ env ρ) {c : Option Bool} (hg : gdX ops.toList j env = some c) : ∃ v, (gdst ops j).bind ρ = some v ∧ blOf v = c := by
 unfold gdX at hg
 rw [gdstL_eq] at hg
 split at hg
 ·rename_i d hd
  rw [hd]
  split at hg
  ·rename_i b hb
   cases hg
   obtain ⟨v, h1, h2⟩ := he d _ hb
   unfold VR at h2; subst h2
   exact ⟨_, h1, rfl⟩
  ·rename_i b hb
   cases hg
   obtain ⟨v, h1, h2⟩ := he d _ hb
   unfold VR at h2; obtain ⟨vs, rfl, _⟩ := h2
   exact ⟨_, h1, rfl⟩
  ·cases hg
 ·cases hg
theorem valG_ok {n : Nat} {ops : Array Oper} {o : Oper} {env : CE} {H : CH} {y : CV} (hv : valG P G n ops.toList o env H = some y) (hcl : clsO P o ≠ .eff) {σ : Sig} {ρ : Env} {h : Hp} (he : ER σ env ρ) (hh : HR P G h0 σ H h) :
  ∃ v, VR σ y v ∧ YdS P n ops o ρ h v ∧ (clsO P o = .pure → ∀ h', YdS P n ops o ρ h' v) := by
 unfold valG at hv
 cases hd : okDst n o.dst with
 | false => rw [hd] at hv; cases hv
 | true =>
  rw [hd] at hv
  simp only [cond_true] at hv
  have one : vX P G H env o = some y → ∃ v, VR σ y v ∧ ((isSel o.op = false ∧ okAll ρ o.op.operands.toList = true) ∧ Yd P o (evD ρ) h v) ∧
    (clsO P o = .pure → ∀ h', (isSel o.op = false ∧ okAll ρ o.op.operands.toList = true) ∧ Yd P o (evD ρ) h' v) := by
   intro hx
   obtain ⟨v, g1, g2⟩ := vX_ok (E := entB P) he hh hx
   have hk := g2 (Only v h) ⟨rfl, rfl⟩
   refine ⟨v, g1, yd_of_opK (entB_ok P) hcl hk, fun hp h' => ?_⟩
   obtain ⟨v', k1, k2, k3⟩ := detK hcl hk
   obtain ⟨rfl, _⟩ := k1
   exact yd_of_opK (entB_ok P) hcl (k3 hp h')
  unfold YdS
  cases hg : o.guard with
  | none =>
   rw [hg] at hv
   obtain ⟨v, g1, g2, g3⟩ := one hv
   exact ⟨v, g1, ⟨hd, g2⟩, fun hp h' => ⟨hd, g3 hp h'⟩⟩
  | some g =>
   obtain ⟨j, want⟩ := g
   rw [hg] at hv
   simp only [] at hv
   split at hv
   ·rename_i c hc
    obtain ⟨cv, b1, b2⟩ := gd_ok he hc
    cases hq : gEq c want with
    | true =>
     rw [hq] at hv
     have hbl : blOf cv = some want := by rw [b2]; exact gEq_eq.1 hq
     obtain ⟨v, g1, g2, g3⟩ := one hv
     exact ⟨v, g1, ⟨hd, cv, b1, by rw [if_pos hbl]; exact g2⟩, fun hp h' => ⟨hd, cv, b1, by rw [if_pos hbl]; exact g3 hp h'⟩⟩
    | false =>
     rw [hq] at hv; cases hv
     have hbl : ¬ blOf cv = some want := by rw [b2]; intro e; rw [gEq_eq.2 e] at hq; cases hq
     exact ⟨undef, VR_undef, ⟨hd, cv, b1, by rw [if_neg hbl]⟩, fun hp h' => ⟨hd, cv, b1, by rw [if_neg hbl]⟩⟩
   ·cases hv
def WT (P : Program) (n : Nat) (ops : Array Oper) (σ : Sig) : WX → Watch → Prop
 | [], W => W = []
 | (i, o, env, y) :: r, W => ∃ ρ v W', W = (i, fun h' => YdS P n ops o ρ h' v) :: W' ∧ ER σ env ρ ∧ VR σ y v ∧ clsO P o ≠ .eff ∧ WT P n ops σ r W'
theorem WT.mono {n : Nat} {ops : Array Oper} {σ σ' : Sig} (hs : Le σ σ') : ∀ {w : WX} {W : Watch}, WT P n ops σ w W → WT P n ops σ' w W := by
 intro w
 induction w with
 | nil => intro W h; exact h
 | cons a w ih =>
  intro W h
  obtain ⟨i, o, env, y⟩ := a
  unfold WT at h ⊢; obtain ⟨ρ, v, W', h1, h2, h3, h4, h5⟩ := h
  exact ⟨ρ, v, W', h1, h2.mono hs, h3.mono hs _ _, h4, ih h5⟩
theorem chkT_ok {n : Nat} {ops : Array Oper} {m : Nat} {H : CH} {σ : Sig} {h : Hp} (hh : HR P G h0 σ H h) : ∀ {w : WX} {W : Watch}, chkT P G n ops.toList m H w = true → WT P n ops σ w W → ∀ r ∈ W, bit m r.1 = false → r.2 h := by
 intro w
 induction w with
 | nil => intro W _ hW r hr; unfold WT at hW; subst hW; cases hr
 | cons a w ih =>
  intro W hc hW r hr hb
  obtain ⟨i, o, env, y⟩ := a
  unfold WT at hW; obtain ⟨ρ, v, W', rfl, h2, h3, h4, h5⟩ := hW
  simp only [chkT, Bool.and_eq_true, Bool.or_eq_true] at hc
  cases hr with
  | tail _ hm => exact ih hc.2 h5 r hm hb
  | head =>
   have h6 := hc.1.resolve_left (by rw [hb]; decide)
   split at h6
   ·rename_i z hz
    have := CV.eq_eq _ _ h6; subst this
    obtain ⟨v', g1, g2, _⟩ := valG_ok hz h4 h2 hh
    have := VR.one _ _ _ h3 g1; subst this
    exact g2
   ·cases h6
def RelL (ops : Array Oper) (done : Nat) (L : Array Bool) : Prop := L.size = ops.size ∧ ∀ j, L.getD j false = bit done j
theorem rdB_ok {ops : Array Oper} {done : Nat} {L : Array Bool} (hr : RelL ops done L) {i : Nat} {o : Oper} (ho : ops.toList[i]? = some o) : rdB done o i = true ↔ i ∈ rdy ops L := by
 have hi : i < ops.size := by have := (List.getElem?_eq_some_iff.1 ho).1; simpa using this
 have ho' : ops[i]? = some o := by rw [← Array.getElem?_toList]; exact ho
 have hd : L.getD i true = bit done i := by
  rw [← hr.2 i, Array.getD_eq_getD_getElem?, Array.getD_eq_getD_getElem?, Array.getElem?_eq_getElem (by rw [hr.1]; exact hi)]; rfl
 unfold rdB
 rw [Go.Hw.mem_ready]
 simp only [Bool.and_eq_true, Bool.not_eq_true', List.all_eq_true, Bool.or_eq_true]
 constructor
 ·rintro ⟨h1, h2⟩
  refine ⟨hi, by rw [hd]; exact h1, o, ho', fun e he hb => ?_⟩
  rw [hr.2]
  rcases h2 e he with h3 | h3
  ·rw [hb] at h3; cases h3
  ·exact h3
 ·rintro ⟨_, h1, o', ho2, h2⟩
  rw [ho'] at ho2; cases ho2
  refine ⟨by rw [← hd]; exact h1, fun e he => ?_⟩
  cases hb : Region.binds .any e with
  | false => exact .inl rfl
  | true => exact .inr (by rw [← hr.2]; exact h2 e he hb)
theorem RelL.set {ops : Array Oper} {done : Nat} {L : Array Bool} (hr : RelL ops done L) {i : Nat} (hi : i < ops.size) : RelL ops (Nat.lor done (Nat.shiftLeft 1 i)) (setD L i) := by
 refine ⟨by simp [hr.1], fun j => ?_⟩
 rw [bit_eq]
 have e1 : (Nat.lor done (Nat.shiftLeft 1 i)).testBit j = (done.testBit j || decide (i = j)) := by
  show (done ||| 1 <<< i).testBit j = _
  rw [Nat.testBit_or, Nat.one_shiftLeft, Nat.testBit_two_pow]
 rw [e1, ← bit_eq, ← hr.2 j, Array.getD_eq_getD_getElem?, Array.getD_eq_getD_getElem?]
 by_cases e : i = j
 ·subst e
  rw [Array.getElem?_setIfInBounds_self, if_pos (by rw [hr.1]; exact hi)]
  simp
 ·rw [Array.getElem?_setIfInBounds_ne e]; simp [e]
theorem pickT_some {done : Nat} : ∀ {l : List Oper} {k i : Nat}, pickT P done l k = some i → ∃ o, k ≤ i ∧ l[i - k]? = some o ∧ rdB done o i = true ∧ clsO P o ≠ .eff := by
 intro l
 induction l with
 | nil => intro k i h; cases h
 | cons o l ih =>
  intro k i h
  unfold pickT at h
  cases hb : rdB done o k && (match clsO P o with | .eff => false | _ => true) with
  | true =>
   rw [hb] at h; cases h
   simp only [Bool.and_eq_true] at hb
   refine ⟨o, Nat.le_refl _, by simp, hb.1, fun e => ?_⟩
   have := hb.2
   rw [e] at this; cases this
  | false =>
   rw [hb] at h
   obtain ⟨o', h1, h2, h3, h4⟩ := ih h
   refine ⟨o', by omega, ?_, h3, h4⟩
   rw [show i - k = (i - (k + 1)) + 1 by omega, List.getElem?_cons_succ]; exact h2
theorem pickT_none {done : Nat} : ∀ {l : List Oper} {k : Nat}, pickT P done l k = none → ∀ {i : Nat} {o : Oper}, l[i]? = some o → rdB done o (k + i) = true → clsO P o = .eff := by
 intro l
 induction l with
 | nil => intro k _ i o h; simp at h
 | cons x l ih =>
  intro k h i o ho hr
  unfold pickT at h
  cases hb : rdB done x k && (match clsO P x with | .eff => false | _ => true) with
  | true => rw [hb] at h; cases h
  | false =>
   rw [hb] at h
   cases i with
   | zero =>
    simp at ho; subst ho
    rw [Nat.add_zero] at hr
    rw [hr] at hb
    cases hc : clsO P x with
    | eff => rfl
    | pure => rw [hc] at hb; cases hb
    | read => rw [hc] at hb; cases hb
   | succ i => simp at ho; exact ih h ho (by rw [show k + 1 + i = k + (i + 1) by omega]; exact hr)
theorem effsT_mem {done : Nat} : ∀ {l : List Oper} {k i : Nat}, i ∈ effsT done l k ↔ ∃ o, k ≤ i ∧ l[i - k]? = some o ∧ rdB done o i = true := by
 intro l
 induction l with
 | nil => intro k i; simp [effsT]
 | cons x l ih =>
  intro k i
  unfold effsT
  have step : (∃ o, k + 1 ≤ i ∧ l[i - (k + 1)]? = some o ∧ rdB done o i = true) ↔ (∃ o, k < i ∧ (x :: l)[i - k]? = some o ∧ rdB done o i = true) := by
   constructor
   ·rintro ⟨o, h1, h2, h3⟩
    exact ⟨o, by omega, by rw [show i - k = (i - (k + 1)) + 1 by omega, List.getElem?_cons_succ]; exact h2, h3⟩
   ·rintro ⟨o, h1, h2, h3⟩
    rw [show i - k = (i - (k + 1)) + 1 by omega, List.getElem?_cons_succ] at h2
    exact ⟨o, by omega, h2, h3⟩
  cases hb : rdB done x k with
  | true =>
   simp only [cond_true, List.mem_cons, ih, step]
   constructor
   ·rintro (rfl | ⟨o, h1, h2, h3⟩)
    ·exact ⟨x, Nat.le_refl _, by simp, hb⟩
    ·exact ⟨o, by omega, h2, h3⟩
   ·rintro ⟨o, h1, h2, h3⟩
    by_cases e : i = k
    ·exact .inl e
    ·exact .inr ⟨o, by omega, h2, h3⟩
  | false =>
   simp only [cond_false, ih, step]
   constructor
   ·rintro ⟨o, h1, h2, h3⟩
    exact ⟨o, by omega, h2, h3⟩
   ·rintro ⟨o, h1, h2, h3⟩
    by_cases e : i = k
    ·subst e; simp at h2; subst h2; rw [hb] at h3; cases h3
    ·exact ⟨o, by omega, h2, h3⟩
theorem allI_ok {run : Nat → Bool} : ∀ {r : List Nat} {i : Nat}, allI run i r = true → ∀ j ∈ i :: r, run j = true := by
 intro r
 induction r with
 | nil => intro i h j hj; rw [List.mem_singleton] at hj; subst hj; exact h
 | cons x r ih =>
  intro i h j hj
  have h2 : (run i && allI run x r) = true := h
  rw [Bool.and_eq_true] at h2
  cases hj with
  | head => exact h2.1
  | tail _ hm => exact ih h2.2 j hm
theorem treeX_ok {call : Call Bool} (hc : CallOk P G h0 call) {n : Nat} {ops : Array Oper} : ∀ (f : Nat) {done : Nat} {w : WX} {lg : Lg} {env : CE} {H : CH} {k : Lg → CE → CH → Bool} (hx : treeX no P G call n ops.toList (masks ops.toList []) false f done w lg env H k = true)
  {σ : Sig} {ρ : Env} {h : Hp} {W : Watch} {L : Array Bool} (he : ER σ env ρ) (hh : HR P G h0 σ H h) (hw : WT P n ops σ w W) (hr : RelL ops done L) {X : Env → Hp → Prop}
  (hX : ∀ σ' lg' env' ρ' H' h', Le σ σ' → ER σ' env' ρ' → HR P G h0 σ' H' h' → k lg' env' H' = true → X ρ' h'), Tr P n ops X f L W ρ h := by
 have noR : ∀ {done : Nat} {L : Array Bool}, RelL ops done L → pickT P done ops.toList 0 = none → effsT done ops.toList 0 = [] → rdy ops L = [] := by
  intro done L hr hp hee
  rw [List.eq_nil_iff_forall_not_mem]
  intro i hi
  obtain ⟨_, _, o, ho, _⟩ := Go.Hw.mem_ready.1 hi
  have ho' : ops.toList[i]? = some o := by rw [Array.getElem?_toList]; exact ho
  have : i ∈ effsT done ops.toList 0 := effsT_mem.2 ⟨o, Nat.zero_le _, by simpa using ho', (rdB_ok hr ho').2 hi⟩
  rw [hee] at this; cases this
 intro f
 induction f with
 | zero =>
  intro done w lg env H k hx σ ρ h W L he hh hw hr X hX
  unfold treeX at hx
  split at hx
  ·rename_i hp hee
   exact ⟨noR hr hp hee, hX σ lg env ρ H h (Le.refl σ) he hh hx⟩
  ·cases hx
 | succ f ih =>
  intro done w lg env H k hx σ ρ h W L he hh hw hr X hX
  unfold treeX at hx
  split at hx
  ·rename_i i hp
   obtain ⟨o, _, ho, hrd, hcl⟩ := pickT_some hp
   rw [Nat.sub_zero] at ho
   have hi : i < ops.size := by have := (List.getElem?_eq_some_iff.1 ho).1; simpa using this
   have hri := (rdB_ok hr ho).1 hrd
   rw [ho] at hx
   simp only [] at hx
   split at hx
   ·rename_i y hy
    obtain ⟨v, g1, g2, g3⟩ := valG_ok hy hcl he hh
    cases hk : clsO P o with
    | pure =>
     rw [hk] at hx
     exact .inr (.inl ⟨i, o, v, hri, ho, hk, g3 hk, ih hx (he.put o.dst g1) hh hw (hr.set hi) hX⟩)
    | read =>
     rw [hk] at hx
     refine .inr (.inr (.inl ⟨i, o, v, hri, ho, hk, g2, ih hx (he.put o.dst g1) hh ?_ (hr.set hi) hX⟩))
     unfold WT
     exact ⟨ρ, v, W, rfl, he, g1, hcl, hw⟩
    | eff => exact absurd hk hcl
   ·cases hx
  ·rename_i hp
   split at hx
   ·rename_i hee
    exact .inl ⟨noR hr hp hee, hX σ lg env ρ H h (Le.refl σ) he hh hx⟩
   ·rename_i i r hee
    simp only [cond_false] at hx
    have hall := allI_ok hx
    refine .inr (.inr (.inr ⟨?_, ?_⟩))
    ·intro hnil
     have him : i ∈ effsT done ops.toList 0 := by rw [hee]; exact List.mem_cons_self ..
     obtain ⟨o, _, ho, hrd⟩ := effsT_mem.1 him
     rw [Nat.sub_zero] at ho
     have := (rdB_ok hr ho).1 hrd
     rw [hnil] at this; cases this
    ·intro j hj
     obtain ⟨_, _, o, ho, _⟩ := Go.Hw.mem_ready.1 hj
     have ho' : ops.toList[j]? = some o := by rw [Array.getElem?_toList]; exact ho
     have hjr := (rdB_ok hr ho').2 hj
     have hjm : j ∈ effsT done ops.toList 0 := effsT_mem.2 ⟨o, Nat.zero_le _, by simpa using ho', hjr⟩
     have hcl := pickT_none hp ho' (by rw [Nat.zero_add]; exact hjr)
     have hrun := hall j (by rw [← hee]; exact hjm)
     rw [ho'] at hrun
     simp only [] at hrun
     rw [hcl] at hrun
     simp only [] at hrun
     refine ⟨o, ho', hcl, denOp_step (entB_ok P) (stepX_ok hc hrun he hh ?_)⟩
     intro σ' env' ρ' H' h' hl he' hh' hk
     cases hck : chkT P G n ops.toList ((masks ops.toList []).getD j 0) H' w with
     | false => rw [hck] at hk; cases hk
     | true =>
      rw [hck] at hk
      have hi : j < ops.size := by have := (List.getElem?_eq_some_iff.1 ho').1; simpa using this
      exact ⟨chkT_ok hh' hck (hw.mono hl), ih hk he' hh' (hw.mono hl) (hr.set hi) fun σ'' lg'' env'' ρ'' H'' h'' hl' => hX σ'' lg'' env'' ρ'' H'' h'' (hl.trans hl')⟩
def TreOk (P : Program) (G : Nat) (h0 : Hp) (tr : Tre Bool) : Prop := ∀ call, CallOk P G h0 call → ∀ n id (ops : Array Oper) env H k, tr call n ops.toList env H k = true → ∀ σ ρ h, ER σ env ρ → HR P G h0 σ H h → ∀ Q : Post,
 (∀ σ' env' ρ' H' h', Le σ σ' → ER σ' env' ρ' → HR P G h0 σ' H' h' → k env' H' = true → Q .normal ρ' h') → D P n (.region id ops true) ρ h Q
def treeB (P : Program) (G : Nat) (callO : Call (Option (Lg × CE × CH))) : Tre Bool := fun call n ops env H k =>
 slotsAll P ops (masks ops []) ops 0 && (match treeX (fun _ => none) P G callO n ops (masks ops []) true ops.length 0 [] [] env H fun lg e h => some (lg, e, h) with
 | some (la, ea, HA) => treeX no P G call n ops (masks ops []) false ops.length 0 [] [] env H (fun lb eb HB => oneX G H.nx lb la eb ea HB HA) && k ea HA
 | none => false)
theorem treeB_ok (hm : P.follows .mixedOrders = true) {callO : Call (Option (Lg × CE × CH))} : TreOk P G h0 (treeB P G callO) := by
 intro call hc n id ops env H k hx σ ρ h he hh Q hQ
 unfold treeB at hx
 rw [Bool.and_eq_true] at hx
 obtain ⟨hsl, hx⟩ := hx
 split at hx
 ·rename_i la ea HA _
  rw [Bool.and_eq_true] at hx
  obtain ⟨hx, hk⟩ := hx
  refine D_draw_tree hm hsl ?_
  rw [Array.length_toList] at hx
  refine treeX_ok hc ops.size hx he hh (by unfold WT; rfl) ?_ ?_
  ·refine ⟨by simp, fun j => ?_⟩
   rw [bit_eq, Nat.zero_testBit, Array.getD_eq_getD_getElem?, Array.getElem?_replicate]
   split <;> rfl
  ·intro σ' lg' env' ρ' H' h' hl he' hh' hone
   obtain ⟨τ, t1, t2, t3⟩ := oneX_ok hone (fun b hb => hh.fresh b hb) hl he' hh'
   exact hQ τ ea ρ' HA h' t1 t2 t3 hk
 ·cases hx
def DLW (P : Program) (n : Nat) (c : Code) (ρ : Env) (h : Hp) (Q : Post) : Prop :=
 ∀ a w, Ag n ρ a → hpOf w = h → LW P c (fun e a' w' => ∃ ρ', Ag n ρ' a' ∧ Sm (.loop c) a w a' w' ∧ Q e ρ' (hpOf w')) a w
theorem DLW_D {n : Nat} {c : Code} {ρ : Env} {h : Hp} {Q : Post} (hd : DLW P n c ρ h Q) : D P n (.loop c) ρ h Q := fun a w ha hw => LW_loop (hd a w ha hw)
theorem LW.mono {c : Code} {Q Q' : Exit → Act → World → Prop} {a : Act} {w : World} (h : LW P c Q a w) (hq : ∀ e a' w', Q e a' w' → Q' e a' w') : LW P c Q' a w :=
 fun b k cs => let ⟨e, a', w', q, r⟩ := h b k cs; ⟨e, a', w', hq _ _ _ q, r⟩
theorem DLW_round {n : Nat} {c : Code} {ρ : Env} {h : Hp} {Q : Post} (hd : D P n c ρ h (thenQ (fun ρ' h' => DLW P n c ρ' h' Q) Q)) : DLW P n c ρ h Q := by
 intro a w ha hw
 refine LW_round (wp_mono (hd a w ha hw) ?_)
 rintro e a' w' ⟨ρ', h1, h2, h3⟩
 cases e with
 | normal =>
  refine LW.mono (h3 a' w' h1 rfl) ?_
  rintro e a2 w2 ⟨ρ2, g1, g2, g3⟩
  exact ⟨ρ2, g1, ⟨fun t ht => (g2.1 t ht).trans (h2.1 t ht), h2.2.trans g2.2⟩, g3⟩
 | exit i => exact ⟨ρ', h1, h2, h3⟩
 | goto l => exact ⟨ρ', h1, h2, h3⟩
 | ret => exact ⟨ρ', h1, h2, h3⟩
 | panic ch => exact h3.elim
 | outgrown => exact h3.elim
def BodyOk (P : Program) (G : Nat) (h0 : Hp) (n : Nat) (c : Code) (body : CE → CH → (Exit → CE → CH → Bool) → Bool) : Prop :=
 ∀ env H k, body env H k = true → ∀ σ ρ h, ER σ env ρ → HR P G h0 σ H h → ∀ Q : Post, (∀ e σ' env' ρ' H' h', Le σ σ' → ER σ' env' ρ' → HR P G h0 σ' H' h' → k e env' H' = true → Q e ρ' h') → D P n c ρ h Q
theorem loopX_ok {n : Nat} {c : Code} {body : CE → CH → (Exit → CE → CH → Bool) → Bool} (hb : BodyOk P G h0 n c body) : ∀ (m : Nat) (env : CE) (H : CH) (k : Exit → CE → CH → Bool), loopX no body m env H k = true →
  ∀ σ ρ h, ER σ env ρ → HR P G h0 σ H h → ∀ Q : Post, (∀ e σ' env' ρ' H' h', Le σ σ' → ER σ' env' ρ' → HR P G h0 σ' H' h' → k e env' H' = true → Q e ρ' h') → DLW P n c ρ h Q := by
 intro m
 induction m with
 | zero => intro env H k hx; cases hx
 | succ m ih =>
  intro env H k hx σ ρ h he hh Q hQ
  unfold loopX at hx
  refine DLW_round (hb env H _ hx σ ρ h he hh _ ?_)
  intro e σ' env' ρ' H' h' hl he' hh' hk
  cases e with
  | normal => exact ih env' H' k hk σ' ρ' h' he' hh' Q fun e σ'' env'' ρ'' H'' h'' hl' => hQ e σ'' env'' ρ'' H'' h'' (hl.trans hl')
  | exit i => exact hQ _ σ' env' ρ' H' h' hl he' hh' hk
  | goto l => exact hQ _ σ' env' ρ' H' h' hl he' hh' hk
  | ret => exact hQ _ σ' env' ρ' H' h' hl he' hh' hk
  | panic ch => cases hk
  | outgrown => cases hk
theorem cX_ok {call : Call Bool} (hc : CallOk P G h0 call) (hm : P.follows .mixedOrders = true) {tr : Tre Bool} (ht : TreOk P G h0 tr) {lf n : Nat} : ∀ (c : Code), BodyOk P G h0 n c (cX no P G tr call lf n c) := by
 intro c
 induction c with
 | skip => intro env H k hx σ ρ h he hh Q hQ; exact D_skip (hQ _ σ env ρ H h (Le.refl σ) he hh hx)
 | region id ops draw =>
  intro env H k hx σ ρ h he hh Q hQ
  unfold cX regX at hx
  cases draw with
  | false =>
   exact D_region (entB_ok P) (opsX_ok hc hx he hh fun σ' env' ρ' H' h' hl he' hh' hk => hQ _ σ' env' ρ' H' h' hl he' hh' hk)
  | true =>
   simp only [cond_true] at hx
   cases ho : orderGood P ops.toList (ordX P ops.toList (masks ops.toList []) ops.toList.length 0) with
   | false =>
    rw [ho] at hx
    exact ht call hc n id ops env H _ hx σ ρ h he hh Q fun σ' env' ρ' H' h' hl he' hh' hk => hQ _ σ' env' ρ' H' h' hl he' hh' hk
   | true =>
    rw [ho] at hx
    refine D_draw (entB_ok P) hm (l := ordX P ops.toList (masks ops.toList []) ops.toList.length 0) ?_
    unfold denDraw
    rw [ho]
    exact dDX_ok hc hx he hh (W := []) (by unfold WR; rfl) fun σ' env' ρ' H' h' hl he' hh' hk => hQ _ σ' env' ρ' H' h' hl he' hh' hk
 | seq x y ihx ihy =>
  intro env H k hx σ ρ h he hh Q hQ
  unfold cX at hx
  refine D_seq (ihx env H _ hx σ ρ h he hh _ ?_)
  intro e σ' env' ρ' H' h' hl he' hh' hk
  cases e with
  | normal => exact ihy env' H' k hk σ' ρ' h' he' hh' Q fun e σ'' env'' ρ'' H'' h'' hl' => hQ e σ'' env'' ρ'' H'' h'' (hl.trans hl')
  | exit i => exact hQ _ σ' env' ρ' H' h' hl he' hh' hk
  | goto l => exact hQ _ σ' env' ρ' H' h' hl he' hh' hk
  | ret => exact hQ _ σ' env' ρ' H' h' hl he' hh' hk
  | panic ch => cases hk
  | outgrown => cases hk
 | cond c x y ihx ihy =>
  intro env H k hx σ ρ h he hh Q hQ
  unfold cX at hx
  split at hx
  ·rename_i b hb
   obtain ⟨v, h1, h2⟩ := evC_ok hb he hh
   unfold VR at h2; subst h2
   refine D_cond h1 ?_
   cases b with
   | true => exact ihx env H k hx σ ρ h he hh Q hQ
   | false => exact ihy env H k hx σ ρ h he hh Q hQ
  ·cases hx
 | block id c ih =>
  intro env H k hx σ ρ h he hh Q hQ
  unfold cX at hx
  refine D_block (ih env H _ hx σ ρ h he hh _ ?_)
  intro e σ' env' ρ' H' h' hl he' hh' hk
  cases e with
  | normal => exact hQ _ σ' env' ρ' H' h' hl he' hh' hk
  | exit i =>
   simp only [blockQ]
   simp only [] at hk
   cases hb : Nat.beq i id with
   | true => rw [hb] at hk; exact hQ _ σ' env' ρ' H' h' hl he' hh' hk
   | false => rw [hb] at hk; exact hQ _ σ' env' ρ' H' h' hl he' hh' hk
  | goto l => exact hQ _ σ' env' ρ' H' h' hl he' hh' hk
  | ret => exact hQ _ σ' env' ρ' H' h' hl he' hh' hk
  | panic ch => cases hk
  | outgrown => cases hk
 | loop c ih =>
  intro env H k hx σ ρ h he hh Q hQ
  unfold cX at hx
  exact DLW_D (loopX_ok ih lf env H k hx σ ρ h he hh Q hQ)
 | rangeFunc f ps x y ihx ihy => intro env H k hx; cases hx
 | exit id => intro env H k hx σ ρ h he hh Q hQ; exact D_exit (hQ _ σ env ρ H h (Le.refl σ) he hh hx)
 | scope c ih =>
  intro env H k hx σ ρ h he hh Q hQ
  unfold cX at hx
  refine D_scope (ih env H _ hx σ ρ h he hh _ ?_)
  intro e σ' env' ρ' H' h' hl he' hh' hk
  cases e with
  | normal => exact hQ _ σ' env' ρ' H' h' hl he' hh' hk
  | exit i => exact hQ _ σ' env' ρ' H' h' hl he' hh' hk
  | goto l => cases hk
  | ret => exact hQ _ σ' env' ρ' H' h' hl he' hh' hk
  | panic ch => cases hk
  | outgrown => cases hk
 | label l => intro env H k hx σ ρ h he hh Q hQ; exact D_label (hQ _ σ env ρ H h (Le.refl σ) he hh hx)
 | goto l => intro env H k hx; cases hx
 | ret => intro env H k hx σ ρ h he hh Q hQ; exact D_ret (hQ _ σ env ρ H h (Le.refl σ) he hh hx)
 | refuse s => intro env H k hx; cases hx
theorem argsX_ok {σ : Sig} : ∀ {l : List CV} {vs : List Value} (i : Nat), VRs σ l vs → ER σ (argsX i l) (argsE i vs) := by
 intro l
 induction l with
 | nil => intro vs i h; unfold VRs at h; subst h; intro t x hx; cases hx
 | cons x l ih =>
  intro vs i h
  unfold VRs at h; obtain ⟨v, r, rfl, h1, h2⟩ := h
  exact (ih (i + 1) h2).put (some i) h1
theorem resX_ok {σ : Sig} {H : CH} {h : Hp} {env : CE} {ρ : Env} (he : ER σ env ρ) (hh : HR P G h0 σ H h) : ∀ {rs : List ResultVar} {l : List CV}, resX P H env rs = some l →
  ∃ vs, VRs σ l vs ∧ ∀ (acc : List Value) (F : List Value → Prop), F (acc.reverse ++ vs) → resM P h rs ρ acc F := by
 intro rs
 induction rs with
 | nil => intro l hl; cases hl; exact ⟨[], by unfold VRs; rfl, fun acc F hF => by simpa [resM] using hF⟩
 | cons r rs ih =>
  intro l hl
  cases r with
  | tmp t =>
   simp only [resX] at hl
   split at hl
   ·rename_i x l' hx hl'
    cases hl
    obtain ⟨v, h1, h2⟩ := he t x hx
    obtain ⟨vs, h3, h4⟩ := ih hl'
    refine ⟨v :: vs, by unfold VRs; exact ⟨v, vs, rfl, h2, h3⟩, fun acc F hF => ?_⟩
    unfold resM; rw [h1]
    exact h4 _ F (by simpa using hF)
   ·cases hl
  | cell a t =>
   simp only [resX] at hl
   split at hl
   ·rename_i b o ha
    cases hu : (P.underlying t).isSome with
    | false => rw [hu] at hl; cases hl
    | true =>
     rw [hu] at hl
     simp only [cond_true] at hl
     split at hl
     ·rename_i x l' hx hl'
      cases hl
      obtain ⟨v, h1, h2⟩ := he a _ ha
      unfold VR at h2; obtain ⟨p, hp, rfl⟩ := h2
      obtain ⟨w, g1, g2⟩ := ldX_ok hh hx hp
      obtain ⟨vs, h3, h4⟩ := ih hl'
      refine ⟨w :: vs, by unfold VRs; exact ⟨w, vs, rfl, g1, h3⟩, fun acc F hF => ?_⟩
      unfold resM; rw [h1]
      simp only [vK, xP, nn]
      rw [hu]
      exact g2 _ (h4 _ F (by simpa using hF))
     ·cases hl
   ·cases hl
theorem resC_ok {σ : Sig} {l : List CV} {vs : List Value} (h : VRs σ l vs) : VR σ (resC l) (resV vs) := by
 rcases l with _ | ⟨x, _ | ⟨y, l⟩⟩
 ·unfold VRs at h; subst h; exact VR_undef
 ·unfold VRs at h; obtain ⟨v, r, rfl, h1, h2⟩ := h
  unfold VRs at h2; subst h2; exact h1
 ·have h' := h
  unfold VRs at h; obtain ⟨v, r, rfl, h1, h2⟩ := h
  unfold VRs at h2; obtain ⟨w, r, rfl, h2, h3⟩ := h2
  show VR σ (.tup (x :: y :: l)) (.tuple ⟨v :: w :: r⟩)
  unfold VR; exact ⟨_, rfl, h'⟩
theorem endE_some {e : Exit} (h : endE e = true) : e = .normal ∨ e = .ret := by cases e <;> first | exact .inl rfl | exact .inr rfl | cases h
theorem dfX_ok {run : Nat → Code → CE → CH → (Exit → CE → CH → Bool) → Bool} (hrun : ∀ n c, BodyOk P G h0 n c (run n c)) {g : Nat} {fn : Func} {c : Code} {S : DefShape} (hfn : P.funcs[g]? = some fn) (hc : fn.body = some c) (hS : defOf c = some S) {args : List CV} (hle : args.length ≤ fn.ntmps)
  {H : CH} {k : CV → CH → Bool} (hx : dfX no P G run fn S args H k = true) {σ : Sig} {h : Hp} {vs : List Value} (hv : VRs σ args vs) (hh : HR P G h0 σ H h) {K : Value → Hp → Prop}
  (hK : ∀ σ' y v H' h', Le σ σ' → VR σ' y v → HR P G h0 σ' H' h' → k y H' = true → K v h') : HCalls P g ⟨vs⟩ h K := by
 unfold dfX at hx
 split at hx
 ·rename_i gn hgn
  split at hx
  ·rename_i gc hgc
   split at hx
   ·rename_i tr grest hrec
    cases hb : Nat.beq gn.results.toList.length 0 && (Nat.blt S.td fn.ntmps && (Nat.ble S.caps.length gn.ntmps && (Nat.blt tr gn.ntmps && entB P S.g))) with
    | false => rw [hb] at hx; cases hx
    | true =>
    rw [hb] at hx
    simp only [cond_true] at hx
    simp only [Bool.and_eq_true] at hb
    obtain ⟨b1, b2, b3, b4, b5⟩ := hb
    have r0 : gn.results = #[] := by
     have := List.length_eq_zero_iff.1 (Nat.eq_of_beq_eq_true b1)
     exact Array.toList_eq_nil_iff.1 this
    refine calls_of_defer (entB_ok P) b5 hfn hc hS hgn hgc hrec r0 (by simp [hv.len]; exact hle) (by simpa [Nat.blt_eq] using b2) (Nat.le_of_ble_eq_true b3) (by simpa [Nat.blt_eq] using b4) ?_
    refine hrun _ _ _ H _ hx σ _ h (argsX_ok 0 hv) hh _ ?_
    intro e σ1 env1 ρ1 H1 h1 l1 he1 hh1 hx1
    split at hx1
    ·split at hx1
     ·rename_i cs hcs
      obtain ⟨ws, w1, w2, w3, _⟩ := evCs_ok he1 hh1 hcs
      refine ⟨rfl, w2, ?_⟩
      rw [w3]
      have hfv : VR σ1 (.fn S.g [] cs) (.func (.func S.g) #[] ⟨ws⟩) := by
       unfold VR
       exact ⟨[], ws, rfl, by unfold VRs; rfl, w1⟩
      refine hrun _ _ _ H1 _ hx1 σ1 _ h1 (he1.put (some S.td) hfv) hh1 _ ?_
      intro e2 σ2 env2 ρ2 H2 h2 l2 he2 hh2 hx2
      cases q2 : endE e2 with
      | false => rw [q2] at hx2; cases hx2
      | true =>
      rw [q2] at hx2
      simp only [cond_true] at hx2
      refine ⟨endE_some q2, ?_⟩
      have hn0 : VR σ2 .nili .nilIface := by unfold VR; rfl
      refine hrun _ _ _ H2 _ hx2 σ2 _ h2 ((argsX_ok 0 (VRs.mono l2 _ _ w1)).put (some tr) hn0) hh2 _ ?_
      intro e3 σ3 env3 ρ3 H3 h3 l3 he3 hh3 hx3
      cases q3 : endE e3 with
      | false => rw [q3] at hx3; cases hx3
      | true =>
      rw [q3] at hx3
      simp only [cond_true] at hx3
      refine ⟨endE_some q3, ?_⟩
      split at hx3
      ·rename_i l hl
       obtain ⟨us, u1, u2⟩ := resX_ok (he2.mono l3) hh3 hl
       exact u2 [] _ (hK σ3 _ _ H3 h3 ((l1.trans l2).trans l3) (resC_ok u1) hh3 hx3)
      ·cases hx3
     ·cases hx1
    ·cases hx1
   ·cases hx
  ·cases hx
 ·cases hx
theorem callX_ok (hm : P.follows .mixedOrders = true) {tr : Tre Bool} (ht : TreOk P G h0 tr) {lf : Nat} : ∀ (m : Nat), CallOk P G h0 (callX no P G tr lf m) := by
 intro m
 induction m with
 | zero => intro g args H k hx; cases hx
 | succ m ih =>
  intro g args H k hx σ h vs hv hh K hK
  unfold callX at hx
  split at hx
  ·rename_i fn hfn
   split at hx
   ·rename_i c hc
    cases hb : Nat.ble args.length fn.ntmps with
    | false => rw [hb] at hx; cases hx
    | true =>
     rw [hb] at hx
     simp only [cond_true] at hx
     have hble : args.length ≤ fn.ntmps := Nat.le_of_ble_eq_true hb
     split at hx
     ·rename_i S hS
      exact dfX_ok (fun n c => cX_ok ih hm ht c) hfn hc hS hble hx hv hh hK
     refine calls_of_M hfn hc (by simpa [hv.len] using hb) ?_
     refine cX_ok ih hm ht c _ H _ hx σ _ h (argsX_ok 0 hv) hh _ ?_
     intro e σ' env' ρ' H' h' hl he' hh' hk
     have fin : ∀ l, resX P H' env' fn.results.toList = some l → k (resC l) H' = true → resM P h' fn.results.toList ρ' [] fun l => K (resV l) h' := by
      intro l hl' hk'
      obtain ⟨ws, w1, w2⟩ := resX_ok he' hh' hl'
      exact w2 [] _ (hK σ' _ _ H' h' hl (resC_ok w1) hh' hk')
     cases e with
     | normal =>
      simp only [] at hk
      split at hk
      ·rename_i l hl'; exact fin l hl' hk
      ·cases hk
     | ret =>
      simp only [] at hk
      split at hk
      ·rename_i l hl'; exact fin l hl' hk
      ·cases hk
     | exit i => cases hk
     | goto l => cases hk
     | panic ch => cases hk
     | outgrown => cases hk
   ·cases hx
  ·cases hx
end
end Go.Ix

/-
 A closed call, reckoned: it gives what the small machine gives, and leaves all that was there.
-/
set_option linter.unusedSimpArgs false
set_option linter.unusedVariables false
namespace Go.Ix
open Go Go.Hw
def H0 (G e : Nat) : List (Nat × List CV) → CH
 | [] => ⟨.leaf, G + e⟩
 | (g, cs) :: l => ⟨(H0 G e l).t.set g (some (.tab cs)), G + e⟩
def σ0 (G : Nat) (bs : List Addr) : Sig := fun b => if b < G then some ⟨b, 0, 0, 0⟩ else match bs[b - G]? with
 | some a => some ⟨a.block, a.off, 0, 0⟩
 | none => none
theorem H0_get {G e : Nat} : ∀ {l : List (Nat × List CV)} {b : Nat} {o : CO}, (H0 G e l).t.get b = some o → ∃ cs, (b, cs) ∈ l ∧ o = .tab cs := by
 intro l
 induction l with
 | nil => intro b o h; cases h
 | cons x l ih =>
  intro b o h
  obtain ⟨g, cs⟩ := x
  simp only [H0, T.get_set] at h
  split at h
  ·rename_i e; subst e; cases h; exact ⟨cs, List.mem_cons_self .., rfl⟩
  ·obtain ⟨c, h1, h2⟩ := ih h; exact ⟨c, List.mem_cons_of_mem _ h1, h2⟩
theorem H0_nx {G e : Nat} : ∀ {l : List (Nat × List CV)}, (H0 G e l).nx = G + e
 | [] => rfl
 | (_, _) :: _ => rfl
def TabAt (σ : Sig) (h : Hp) (g : Nat) (cs : List CV) : Prop := ∃ (vs : List Value) (e : TypeId) (fr : Nat × Nat), h g = some (.cells ⟨vs⟩ e fr) ∧ ∀ (i : Nat) (c : CV), cs[i]? = some c → ∃ v, vs[i]? = some v ∧ VR σ c v
theorem H0_ok {P : Program} {G : Nat} {h : Hp} {l : List (Nat × List CV)} {bs : List Addr} (hg : ∀ x ∈ l, x.1 < G) (ht : ∀ x ∈ l, TabAt (σ0 G bs) h x.1 x.2) : HR P G h (σ0 G bs) (H0 G bs.length l) h := by
 refine ⟨?_, ?_, ?_, fun _ _ h => h, ?_⟩
 ·intro b o hb
  obtain ⟨cs, h1, rfl⟩ := H0_get hb
  obtain ⟨vs, e, fr, h2, h3⟩ := ht _ h1
  refine ⟨⟨b, 0, 0, 0⟩, _, by simp [σ0, hg _ h1], h2, ?_⟩
  unfold OR
  refine ⟨vs, e, fr, rfl, fun i c hc => ?_⟩
  obtain ⟨v, h4, h5⟩ := h3 i c hc
  exact ⟨v, by simpa using h4, h5⟩
 ·intro b b' o o' p p' g1 g2 hne hp hp'
  obtain ⟨cs, h1, rfl⟩ := H0_get g1
  obtain ⟨cs', h2, rfl⟩ := H0_get g2
  unfold σ0 at hp hp'
  rw [if_pos (hg _ h1)] at hp
  rw [if_pos (hg _ h2)] at hp'
  cases hp; cases hp'; exact hne
 ·intro b hb
  rw [H0_nx] at hb
  unfold σ0; rw [if_neg (by omega)]
  rw [List.getElem?_eq_none (by omega)]
 ·intro g hgg
  exact ⟨⟨g, 0, 0, 0⟩, by simp [σ0, hgg], rfl, rfl⟩
def runC (P : Program) (G lf m : Nat) : Call Bool := callX no P G (treeB P G (callX (fun _ => none) P G (tree1 (fun _ => none) P G) lf m)) lf m
theorem closed {P : Program} (hm : P.follows .mixedOrders = true) {G e lf m f : Nat} {l : List (Nat × List CV)} (hg : (l.all fun x => Nat.blt x.1 G) = true)
  (hx : runC P G lf m f [] (H0 G e l) (fun y _ => CV.eq y (.bool true)) = true) {h : Hp} {bs : List Addr} (he : bs.length = e) (ht : ∀ x ∈ l, TabAt (σ0 G bs) h x.1 x.2) {K : Value → Hp → Prop}
  (hK : ∀ h', Ext none' h h' → K (.bool true) h') : HCalls P f ⟨[]⟩ h K := by
 have hg' : ∀ x ∈ l, x.1 < G := fun x hx => by have := List.all_eq_true.1 hg x hx; simpa [Nat.blt_eq] using this
 subst he
 refine callX_ok (h0 := h) hm (treeB_ok hm) m f [] _ _ hx (σ0 G bs) h [] (by unfold VRs; rfl) (H0_ok hg' ht) K ?_
 intro σ' y v H' h' hl hv hh' hk
 have := CV.eq_eq _ _ hk; subst this
 unfold VR at hv; subst hv
 exact hK h' fun b o hb _ => hh'.keep b o hb
end Go.Ix

set_option linter.unusedVariables false
set_option maxRecDepth 100000
namespace Go.Proofs.Ytkfccpabigikkaa
open Go Go.Hw
end Go.Proofs.Ytkfccpabigikkaa

set_option linter.unusedVariables false
set_option maxRecDepth 100000
namespace Go.Proofs.Ytkfccpabigikkaa
open Go Go.Hw
end Go.Proofs.Ytkfccpabigikkaa

set_option linter.unusedVariables false
set_option maxRecDepth 100000
namespace Go.Proofs.Ytkfccpabigikkaa
open Go Go.Hw
end Go.Proofs.Ytkfccpabigikkaa

set_option linter.unusedVariables false
set_option maxRecDepth 100000
namespace Go.Proofs.Ytkfccpabigikkaa
open Go Go.Hw
end Go.Proofs.Ytkfccpabigikkaa

set_option linter.unusedVariables false
set_option maxRecDepth 100000
namespace Go.Proofs.Ytkfccpabigikkaa
open Go Go.Hw
end Go.Proofs.Ytkfccpabigikkaa

set_option linter.unusedVariables false
set_option maxRecDepth 100000
namespace Go.Proofs.Ytkfccpabigikkaa
open Go Go.Hw
end Go.Proofs.Ytkfccpabigikkaa

/-
 The law NeighPlays: both caches stand alike; what is sent is alike, and kept.
-/
set_option linter.unusedSimpArgs false
set_option linter.unusedVariables false
set_option maxRecDepth 4000
namespace Go.Proofs.Ytkfccpabigikkaa
open Go Go.Hw
set_option maxRecDepth 100000 in
theorem live_reckoned : Ix.runC Try.prog 0 1000000 1000 6 [] (Ix.H0 0 0 []) (fun y _ => Ix.CV.eq y (.bool true)) = true := by kernel_rfl
theorem c_live {h : Hp} {K : Bool → Hp → Prop} (hK : ∀ h', Ext none' h h' → K true h') : C6 h K := by
 unfold C6
 exact (Ix.closed (l := []) (bs := []) follows_mixed rfl live_reckoned rfl (fun x hx => by cases hx) (K := fun v h' => v = .bool true ∧ Ext none' h h') fun h' he => ⟨rfl, he⟩).mono fun v h' ⟨e, he⟩ => by subst e; exact hK h' he
theorem sndC_w (x : Snd × Sl) : (sndC x).length = 8 := rfl
theorem nbC_w (x : NE) : (nbC x).length = 11 := rfl
section
variable {L : List Asn} {h : Hp}
end
end Go.Proofs.Ytkfccpabigikkaa

set_option linter.unusedVariables false
set_option maxRecDepth 100000
namespace Go.Proofs.Ytkfccpabigikkaa
open Go Go.Hw
end Go.Proofs.Ytkfccpabigikkaa

/-
 The law NeighPlays: a call on both caches; the whole script.
-/
set_option linter.unusedSimpArgs false
set_option linter.unusedVariables false
set_option maxRecDepth 4000
namespace Go.Proofs.Ytkfccpabigikkaa
open Go Go.Hw
def Short (o : List Snd) : Prop := o.length ≤ 100 ∧ ∀ x ∈ o, x.data.length ≤ 1099511627776
theorem short_nil : Short [] := ⟨by simp, by simp⟩
theorem short_q {c : Ca} {e : NE} : (questC c e).data.length ≤ 1099511627776 := by simp [questC, arpL_len]
theorem learnC_short {c : Ca} (h : c.ok) {ip : Int} {mac : M6} {asks : Bool} : Short (learnC c ip mac asks).1 := by
 unfold learnC
 split
 ·rename_i e he
  have := (h.all e (findK_some he).1).pk
  dsimp only
  split
  ·exact ⟨by simp, by intro x hx; simp at hx; subst hx; exact this⟩
  ·exact short_nil
 ·split
  ·split
   ·exact short_nil
   ·exact short_nil
  ·exact short_nil
theorem onC_short {c : Ca} (h : c.ok) {op si di own : Int} {s : M6} : Short (onC c op s si di own).1 := by
 unfold onC
 split
 ·exact short_nil
 ·have h1 : Short (if (isHost si && decide (si ≠ own)) = true then learnC c si s (asksC op own di) else ([], c)).1 := by
   split
   ·exact learnC_short h
   ·exact short_nil
  have h2 : (if (isHost si && decide (si ≠ own)) = true then learnC c si s (asksC op own di) else ([], c)).1.length ≤ 1 := by
   split
   ·exact learn_n
   ·simp
  refine ⟨?_, ?_⟩
  ·have h3 : (if asksC op own di = true then [(⟨s, 2054, arpL 2 c.own di s si⟩ : Snd)] else []).length ≤ 1 := by split <;> simp
   dsimp only
   rw [List.length_append]
   omega
  ·intro x hx
   rcases List.mem_append.1 hx with hx | hx
   ·exact h1.2 x hx
   ·split at hx
    ·simp at hx; subst hx; simp [arpL_len]
    ·cases hx
theorem tickL_data {c : Ca} : ∀ {l : List NE}, ∀ x ∈ (tickL c l).2, x.data.length ≤ 1099511627776 := by
 intro l
 induction l with
 | nil => intro x hx; cases hx
 | cons e l ih =>
  intro x hx
  rw [tickL] at hx
  split at hx
  ·exact ih x hx
  ·split at hx
   ·exact ih x hx
   ·rcases List.mem_cons.1 hx with rfl | hx
    ·exact short_q
    ·exact ih x hx
theorem tickC_short {c : Ca} (h : c.ok) : Short (tickC c).1 := ⟨by have := tickL_len (c := c) (l := c.l); have := h.len; have := h.most; simp only [tickC]; omega, tickL_data⟩
structure OpN where
 kind : Int
 now : Int
 src : Int
 ip : Int
 pk : List UInt8
 s : Sl
 op : Int
 sm : M6
 si : Int
 dm : M6
 di : Int
 own : Int
def opC (o : OpN) : List Value := [.int .i64 o.kind, .int .i64 o.now, .int .u32 o.src, .int .u32 o.ip, o.s.v, .int .i64 o.op, .int .u8 o.sm.a, .int .u8 o.sm.b, .int .u8 o.sm.c, .int .u8 o.sm.d, .int .u8 o.sm.e, .int .u8 o.sm.f, .int .u32 o.si, .int .u8 o.dm.a, .int .u8 o.dm.b, .int .u8 o.dm.c, .int .u8 o.dm.d, .int .u8 o.dm.e, .int .u8 o.dm.f, .int .u32 o.di, .int .u32 o.own]
theorem opC_w (o : OpN) : (opC o).length = 21 := rfl
structure OpN.ok (h : Hp) (B : Nat) (o : OpN) : Prop where
 src : 0 ≤ o.src ∧ o.src < 4294967296
 ip : 0 ≤ o.ip ∧ o.ip < 4294967296
 rd : RdB h o.s o.pk
 pk : o.pk.length ≤ B
 sm : o.sm.ok
 si : 0 ≤ o.si ∧ o.si < 4294967296
 di : 0 ≤ o.di ∧ o.di < 4294967296
section
variable {L : List Asn} {h : Hp}
end
end Go.Proofs.Ytkfccpabigikkaa

/-
 What the second form's bound gives.
-/
set_option linter.unusedSimpArgs false
set_option linter.unusedVariables false
namespace Go.Proofs.Ytkfccpabigikkaa
open Go Go.Hw
theorem bulk_one {H : Type} (d : DataW H) : 1 ≤ Rows.uptoBulk d := by
 cases d with
 | lit l => cases l <;> simp [Rows.uptoBulk]
 | _ => simp [Rows.uptoBulk]
theorem bulk_in {H : Type} {d : DataW H} {l : List (DataW H)} (h : d ∈ l) : Rows.uptoBulk d ≤ Rows.uptoBulkAll l := by
 induction l with
 | nil => cases h
 | cons x r ih =>
  simp only [Rows.uptoBulkAll]
  rcases List.mem_cons.1 h with e | e
  ·subst e; omega
  ·have := ih e; omega
theorem bulk_len {H : Type} (l : List (DataW H)) : l.length ≤ Rows.uptoBulkAll l := by
 induction l with
 | nil => simp [Rows.uptoBulkAll]
 | cons x r ih => have := bulk_one x; simp only [Rows.uptoBulkAll, List.length_cons]; omega
theorem bulk_slice {H : Type} (e s : List (DataW H)) : e.length ≤ Rows.uptoBulk (.slice e s) := by
 have := bulk_len e
 simp only [Rows.uptoBulk]; omega
theorem bulk_str {H : Type} (b : List UInt8) : b.length ≤ Rows.uptoBulk (DataW.lit (H := H) (.string b)) := by simp [Rows.uptoBulk]
theorem bulk_all {H : Type} {l : List (DataW H)} (hk : Rows.uptoSmall H l = true) {d : DataW H} (hd : d ∈ l) : Rows.uptoBulk d ≤ 1048576 := Nat.le_trans (bulk_in hd) (of_decide_eq_true hk)
end Go.Proofs.Ytkfccpabigikkaa

/-
 Arguments opened whatever their type: numbers, strings, slices of elements of several cells, structs and arrays flat; sizes by a measure.
-/
set_option linter.unusedSimpArgs false
set_option linter.unusedVariables false
namespace Go.Hw
open Go
open Go.ChangeShapes Go.WideShapes Go.ChangeAt Go.RowKit
inductive Sh where
 | int (k : IntKind)
 | bool
 | str
 | row (f : List Sh)
def All2 (R : Sh → Value → Prop) : List Sh → List Value → Prop
 | [], [] => True
 | t :: ts, v :: vs => R t v ∧ All2 R ts vs
 | _, _ => False
def CellOk (h : Hp) (B : Nat) : Nat → Sh → Value → Prop
 | 0, _, _ => False
 | _ + 1, .int k, v => ∃ n, v = .int k n ∧ (Lit.int k n).wf = true
 | _ + 1, .bool, v => ∃ b, v = .bool b
 | _ + 1, .str, v => ∃ s : ByteArray, v = .string s ∧ s.data.toList.length ≤ B
 | n + 1, .row f, v => ∃ (s : Sl) (es : List (List Value)), v = s.v ∧ s.n ≤ s.c ∧ s.n = es.length ∧ es.length ≤ B ∧
   ∀ (i : Nat) (cs : List Value), es[i]? = some cs → (∃ a, s.p = some a ∧ ∀ (j : Nat) (v : Value), cs[j]? = some v → cell h (a.add (i * f.length + j)) = some v) ∧ All2 (CellOk h B n) f cs
theorem All2.len {R : Sh → Value → Prop} : ∀ {ts : List Sh} {vs : List Value}, All2 R ts vs → ts.length = vs.length
 | [], [], _ => rfl
 | _ :: ts, _ :: vs, h => by simp [All2.len (ts := ts) (vs := vs) h.2]
 | [], _ :: _, h => h.elim
 | _ :: _, [], h => h.elim
theorem All2.mono {R R' : Sh → Value → Prop} (hR : ∀ t v, R t v → R' t v) : ∀ {ts : List Sh} {vs : List Value}, All2 R ts vs → All2 R' ts vs
 | [], [], _ => trivial
 | _ :: ts, _ :: vs, h => ⟨hR _ _ h.1, All2.mono hR (ts := ts) (vs := vs) h.2⟩
 | [], _ :: _, h => h.elim
 | _ :: _, [], h => h.elim
theorem All2.app {R : Sh → Value → Prop} : ∀ {ts ts' : List Sh} {vs vs' : List Value}, All2 R ts vs → All2 R ts' vs' → All2 R (ts ++ ts') (vs ++ vs')
 | [], _, [], _, _, h' => h'
 | _ :: ts, _, _ :: vs, _, h, h' => ⟨h.1, All2.app (ts := ts) (vs := vs) h.2 h'⟩
 | [], _, _ :: _, _, h, _ => h.elim
 | _ :: _, _, [], _, h, _ => h.elim
theorem CellOk.up {h : Hp} {B : Nat} : ∀ {n : Nat} {t : Sh} {v : Value}, CellOk h B n t v → CellOk h B (n + 1) t v := by
 intro n
 induction n with
 | zero => intro t v h; exact h.elim
 | succ n ih =>
  intro t v hc
  cases t with
  | int k => exact hc
  | bool => exact hc
  | str => exact hc
  | row f =>
   obtain ⟨s, es, h1, h2, h3, h4, h5⟩ := hc
   exact ⟨s, es, h1, h2, h3, h4, fun i cs hi => ⟨(h5 i cs hi).1, (h5 i cs hi).2.mono fun t v => ih⟩⟩
def shFields (P : Program) (sh : TypeId → Option (List Sh)) : List Field → Nat → Option (List Sh)
 | [], _ => some []
 | f :: fs, off => if f.offset = off then match sh f.type, shFields P sh fs (off + P.cellsOf f.type) with
  | some a, some b => if a.length = P.cellsOf f.type then some (a ++ b) else none
  | _, _ => none
  else none
def shOf (P : Program) : Nat → TypeId → Option (List Sh)
 | 0, _ => none
 | n + 1, t => match P.underlying t with
  | some (.int k) => some [.int k]
  | some .bool => some [.bool]
  | some .string => some [.str]
  | some (.slice e) => match shOf P n e with
   | some f => if f.length = P.cellsOf e then some [.row f] else none
   | none => none
  | some (.struct fs) => match shFields P (shOf P n) fs.toList 0 with
   | some a => if a.length = P.cellsOf t then some a else none
   | none => none
  | some (.array m e) => match shOf P n e with
   | some f => if f.length = P.cellsOf e ∧ P.cellsOf t = m * P.cellsOf e then some ((List.replicate m f).flatten) else none
   | none => none
  | _ => none
section
variable {H : Type} {enc : TypeId × Value → H} {P : Program}
structure Meas (bulk : DataW H → Nat) : Prop where
 sl : ∀ (es rest : List (DataW H)), es.length ≤ bulk (.slice es rest) ∧ ∀ e ∈ es, bulk e ≤ bulk (.slice es rest)
 ag : ∀ (es : List (DataW H)), ∀ e ∈ es, bulk e ≤ bulk (.agg es)
 st : ∀ (l : List UInt8), l.length ≤ bulk (.lit (.string l))
theorem fields_ok {R : Sh → Value → Prop} {sh : TypeId → Option (List Sh)} : ∀ (fs : List Field) (off : Nat) (ts : List Sh) (cs : List Value), shFields P sh fs off = some ts → cs.length = off + ts.length →
  (∀ f ∈ fs, ∀ a, sh f.type = some a → All2 R a ((cs.drop f.offset).take (P.cellsOf f.type))) → All2 R ts (cs.drop off) := by
 intro fs
 induction fs with
 | nil =>
  intro off ts cs h hl _
  simp only [shFields, Option.some.injEq] at h
  subst h
  rw [List.drop_of_length_le (by simp at hl; omega)]; trivial
 | cons f fs ih =>
  intro off ts cs h hl hf
  simp only [shFields] at h
  split at h
  ·rename_i ho
   subst ho
   split at h
   ·rename_i a b ha hb
    split at h
    ·rename_i hal
     cases h
     rw [List.length_append] at hl
     have h1 := hf f List.mem_cons_self a ha
     have h2 := ih (f.offset + P.cellsOf f.type) b cs hb (by omega) fun g hg => hf g (List.mem_cons_of_mem _ hg)
     have e : cs.drop f.offset = (cs.drop f.offset).take (P.cellsOf f.type) ++ cs.drop (f.offset + P.cellsOf f.type) := by
      conv => lhs; rw [← List.take_append_drop (P.cellsOf f.type) (cs.drop f.offset), List.drop_drop]
     rw [e]
     exact h1.app h2
    ·cases h
   ·cases h
  ·cases h
theorem array_ok {R : Sh → Value → Prop} {f : List Sh} (hn : 0 ≤ f.length) : ∀ (m : Nat) (cs : List Value), cs.length = m * f.length → (∀ i, i < m → All2 R f ((cs.drop (i * f.length)).take f.length)) → All2 R (List.replicate m f).flatten cs := by
 intro m
 induction m with
 | zero => intro cs hl _; rw [Nat.zero_mul] at hl; rw [List.length_eq_zero_iff.1 hl]; exact trivial
 | succ m ih =>
  intro cs hl h
  rw [Nat.add_mul, Nat.one_mul] at hl
  have h0 := h 0 (by omega)
  rw [Nat.zero_mul, List.drop_zero] at h0
  have h1 := ih (cs.drop f.length) (by rw [List.length_drop]; omega) fun i hi => by
   have := h (i + 1) (by omega)
   rw [Nat.add_mul, Nat.one_mul, Nat.add_comm, ← List.drop_drop] at this
   exact this
  rw [List.replicate_succ, List.flatten_cons, ← List.take_append_drop f.length cs]
  exact h0.app h1
theorem trod_sh {bulk : DataW H → Nat} (hb : Meas bulk) {W : World} {sp : Nat → Bool} {held : Bool} {B : Nat} : ∀ (n fuel : Nat) (t : TypeId) (cs : List Value) (x : DataW H × List MemPlace) (ts : List Sh), shOf P n t = some ts →
  DataW.trod enc P W 0 sp held fuel t cs = some x → bulk x.1 ≤ B → All2 (CellOk (hpOf W) B n) ts cs := by
 intro n
 induction n with
 | zero => intro fuel t cs x ts h; simp [shOf] at h
 | succ n ih =>
  intro fuel t cs x ts h hf hB
  unfold shOf at h
  split at h
  ·rename_i k hu
   cases h
   obtain ⟨m, rfl, rfl, hw⟩ := DataW.trod_int hu hf
   exact ⟨⟨m, rfl, hw⟩, trivial⟩
  ·rename_i hu
   cases h
   obtain ⟨b, rfl, _⟩ := DataW.trod_bool hu hf
   exact ⟨⟨b, rfl⟩, trivial⟩
  ·rename_i hu
   cases h
   obtain ⟨s, rfl, rfl, _⟩ := DataW.trod_string hu hf
   exact ⟨⟨s, rfl, Nat.le_trans (hb.st _) hB⟩, trivial⟩
  ·rename_i e hu
   split at h
   ·rename_i f hsf
    split at h
    ·rename_i hfl
     cases h
     rcases DataW.trod_slice hu hf with ⟨rfl, rfl⟩ | ⟨a, len, cap, elems, rest, m, _, rfl, hx, _, hlc, _, hlen, hel, _, _⟩
     ·exact ⟨⟨⟨none, 0, 0⟩, [], rfl, Nat.le_refl _, rfl, Nat.zero_le _, by intro i cs hi; simp at hi⟩, trivial⟩
     ·have hxd : x.1 = .slice (elems.map (·.1)) (rest.map (·.1)) := congrArg Prod.fst hx
      rw [hxd] at hB
      obtain ⟨m1, m2⟩ := hb.sl (elems.map (·.1)) (rest.map (·.1))
      rw [List.length_map] at m1
      have each : ∀ i ∈ List.range len, ∃ cs' : List Value, (∀ (j : Nat) (v : Value), cs'[j]? = some v → cell (hpOf W) (a.add (i * f.length + j)) = some v) ∧ All2 (CellOk (hpOf W) B n) f cs' := by
       intro i hi
       have hi := List.mem_range.1 hi
       have h2 := hel i hi
       have hil : i < elems.length := by omega
       rw [List.getElem?_eq_getElem hil] at h2
       obtain ⟨cs', h3, h4⟩ := Option.bind_eq_some_iff.1 h2
       refine ⟨cs', ?_, ih m e cs' elems[i] f hsf h4 (Nat.le_trans (m2 _ (List.mem_map.2 ⟨_, List.getElem_mem hil, rfl⟩)) hB)⟩
       intro j v hj
       obtain ⟨_, h5, h6⟩ := World.cells?_some h3
       have hjl := (List.getElem?_eq_some_iff.1 hj).1
       have := h6 j (by omega)
       rw [add_add, ← hfl] at this
       rw [cell_hp, this, hj]
      obtain ⟨css, hcl, hcs⟩ := pick_all (fun (i : Nat) (cs' : List Value) => (∀ (j : Nat) (v : Value), cs'[j]? = some v → cell (hpOf W) (a.add (i * f.length + j)) = some v) ∧ All2 (CellOk (hpOf W) B n) f cs') each
      simp only [List.length_range] at hcl
      refine ⟨⟨⟨some a, len, cap⟩, css, rfl, hlc, hcl.symm, by omega, fun i cs' hi => ?_⟩, trivial⟩
      have hil : i < len := by rw [← hcl]; exact (List.getElem?_eq_some_iff.1 hi).1
      obtain ⟨cs'', q1, q2⟩ := hcs i i (by simp [hil])
      rw [hi] at q1
      cases q1
      exact ⟨⟨a, rfl, q2.1⟩, q2.2⟩
    ·cases h
   ·cases h
  ·rename_i fs hu
   split at h
   ·rename_i a ha
    split at h
    ·rename_i hal
     cases h
     obtain ⟨xs, m, _, hxe, hl, hxl, hx⟩ := DataW.trod_struct hu hf
     have := fields_ok (R := CellOk (hpOf W) B (n + 1)) fs.toList 0 ts cs ha (by omega) (by
      intro f hfm a' ha'
      obtain ⟨i, hi, hfi⟩ := List.getElem_of_mem hfm
      have hfi' : fs[i]? = some f := by
       rw [← Array.getElem?_toList, List.getElem?_eq_getElem hi, hfi]
      have h3 := hx i f hfi'
      have hxi : i < xs.length := by rw [hxl]; simpa using hi
      rw [List.getElem?_eq_getElem hxi] at h3
      refine (ih m f.type _ xs[i] a' ha' h3 (Nat.le_trans ?_ hB)).mono fun t v => CellOk.up
      rw [hxe]
      exact hb.ag _ _ (List.mem_map.2 ⟨_, List.getElem_mem hxi, rfl⟩))
     rw [List.drop_zero] at this
     exact this
    ·cases h
   ·cases h
  ·rename_i m e hu
   split at h
   ·rename_i f hsf
    split at h
    ·rename_i hc
     obtain ⟨hfl, hct⟩ := hc
     cases h
     obtain ⟨xs, q, _, hxe, hl, hxl, hel⟩ := DataW.trod_array hu hf
     rw [hct, ← hfl] at hl
     refine array_ok (Nat.zero_le _) m cs hl fun i hi => ?_
     have h3 := hel i hi
     have hxi : i < xs.length := by omega
     rw [List.getElem?_eq_getElem hxi, ← hfl] at h3
     refine (ih q e _ xs[i] f hsf h3 (Nat.le_trans ?_ hB)).mono fun t v => CellOk.up
     rw [hxe]
     exact hb.ag _ _ (List.mem_map.2 ⟨_, List.getElem_mem hxi, rfl⟩)
    ·cases h
   ·cases h
  ·cases h
end
theorem all2_cons {R : Sh → Value → Prop} {t : Sh} {ts : List Sh} {vs : List Value} (h : All2 R (t :: ts) vs) : ∃ v r, vs = v :: r ∧ R t v ∧ All2 R ts r := by
 cases vs with
 | nil => exact h.elim
 | cons v r => exact ⟨v, r, rfl, h.1, h.2⟩
theorem all2_nil {R : Sh → Value → Prop} {vs : List Value} (h : All2 R [] vs) : vs = [] := by
 cases vs with
 | nil => rfl
 | cons v r => exact h.elim
theorem ok_int {h : Hp} {B n : Nat} {k : IntKind} {v : Value} (hc : CellOk h B (n + 1) (.int k) v) : ∃ a, v = .int k a ∧ (Lit.int k a).wf = true := hc
theorem RdE.ofRow {α : Type} {h : Hp} {B n : Nat} {f : List Sh} {v : Value} {g : α → List Value} {p : α → Prop} (hc : CellOk h B (n + 1) (.row f) v) (hg : ∀ cs, All2 (CellOk h B n) f cs → ∃ x, cs = g x ∧ p x) :
  ∃ (s : Sl) (Q : List α), v = s.v ∧ RdE h s g Q ∧ s.n ≤ s.c ∧ Q.length ≤ B ∧ ∀ x ∈ Q, p x := by
 obtain ⟨s, es, h1, h2, h3, h4, h5⟩ := hc
 have each : ∀ cs ∈ es, ∃ x, cs = g x ∧ p x := by
  intro cs hm
  obtain ⟨i, hi, rfl⟩ := List.getElem_of_mem hm
  exact hg _ (h5 i _ (List.getElem?_eq_getElem hi)).2
 obtain ⟨Q, hQl, hQ⟩ := pick_all (fun (cs : List Value) (x : α) => cs = g x ∧ p x) each
 have hes : es = Q.map g := by
  apply List.ext_getElem?
  intro i
  cases he : es[i]? with
  | none =>
   have := List.getElem?_eq_none_iff.1 he
   rw [List.getElem?_map, List.getElem?_eq_none_iff.2 (by omega)]; rfl
  | some cs =>
   obtain ⟨x, q1, q2⟩ := hQ i cs he
   rw [List.getElem?_map, q1, q2.1]; rfl
 refine ⟨s, Q, h1, ⟨by omega, ?_⟩, h2, by omega, ?_⟩
 ·intro k v hk
  -- in which element the cell lies
  have key : ∀ (Q : List α) (off : Nat), (∀ (i : Nat) (x : α), Q[i]? = some x → (g x).length = f.length ∧ (∃ a, s.p = some a ∧ ∀ (j : Nat) (v : Value), (g x)[j]? = some v → cell h (a.add ((off + i) * f.length + j)) = some v)) →
    ∀ (k : Nat) (v : Value), (Q.flatMap g)[k]? = some v → ∃ a, s.p = some a ∧ cell h (a.add (off * f.length + k)) = some v := by
   intro Q
   induction Q with
   | nil => intro off _ k v hk; simp at hk
   | cons x Q ih =>
    intro off hq k v hk
    obtain ⟨hl, a, ha, hc⟩ := hq 0 x rfl
    rw [List.flatMap_cons] at hk
    by_cases hkl : k < (g x).length
    ·rw [List.getElem?_append_left hkl] at hk
     exact ⟨a, ha, by have := hc k v hk; rwa [Nat.add_zero] at this⟩
    ·rw [List.getElem?_append_right (by omega)] at hk
     obtain ⟨a', ha', hc'⟩ := ih (off + 1) (fun i y hy => by
      obtain ⟨q1, a2, q2, q3⟩ := hq (i + 1) y (by simpa using hy)
      exact ⟨q1, a2, q2, fun j v hj => by rw [show off + 1 + i = off + (i + 1) by omega]; exact q3 j v hj⟩) _ v hk
     refine ⟨a', ha', ?_⟩
     rw [show off * f.length + k = (off + 1) * f.length + (k - (g x).length) by rw [Nat.add_mul]; omega]
     exact hc'
  have := key Q 0 (fun i x hx => by
   have he : es[i]? = some (g x) := by rw [hes, List.getElem?_map, hx]; rfl
   obtain ⟨⟨a, q1, q2⟩, q3⟩ := h5 i (g x) he
   exact ⟨q3.len.symm, a, q1, fun j v hj => by rw [Nat.zero_add]; exact q2 j v hj⟩) k v hk
  rw [Nat.zero_mul, Nat.zero_add] at this
  exact this
 ·intro x hx
  obtain ⟨i, hi, rfl⟩ := List.getElem_of_mem hx
  have hil : i < es.length := by omega
  obtain ⟨y, q1, q2⟩ := hQ i es[i] (List.getElem?_eq_getElem hil)
  rw [List.getElem?_eq_getElem hi] at q1
  cases q1
  exact q2.2
theorem u8_of {n : Int} (hw : (Lit.int .u8 n).wf = true) : ∃ b : UInt8, Value.int .u8 n = .int .u8 b.toNat := by
 simp [Lit.wf, IntKind.min, IntKind.max, IntKind.signed, IntKind.bits] at hw
 exact ⟨UInt8.ofNat n.toNat, by rw [putd_u8 (by omega) (by omega)]⟩
theorem RdB.ofRow {h : Hp} {B n : Nat} {v : Value} (hc : CellOk h B (n + 2) (.row [.int .u8]) v) : ∃ (s : Sl) (l : List UInt8), v = s.v ∧ RdB h s l ∧ l.length ≤ B := by
 obtain ⟨s, Q, h1, h2, h3, h4, _⟩ := RdE.ofRow (α := UInt8) (g := fun b => [.int .u8 (b.toNat : Int)]) (p := fun _ => True) hc (by
  intro cs hcs
  match cs, hcs with
  | [v], ⟨⟨m, hv, hw⟩, _⟩ =>
   obtain ⟨b, hb⟩ := u8_of hw
   exact ⟨b, by rw [hv, hb], trivial⟩)
 refine ⟨s, Q, h1, ⟨h2.n, h3, ?_⟩, h4⟩
 have e : ∀ Q : List UInt8, Q.flatMap (fun b => [Value.int .u8 (b.toNat : Int)]) = bc Q := by
  intro Q
  induction Q with
  | nil => rfl
  | cons b Q ih => rw [List.flatMap_cons, ih]; rfl
 have := h2.r
 rw [e] at this
 exact this
theorem wf_rng {k : IntKind} {n : Int} (h : (Lit.int k n).wf = true) : k.min ≤ n ∧ n ≤ k.max := by
 simpa only [Lit.wf, Bool.and_eq_true, decide_eq_true_eq] using h
end Go.Hw

/-
 Arguments of the laws of chapter 11, opened.
-/
set_option linter.unusedSimpArgs false
set_option linter.unusedVariables false
set_option maxRecDepth 100000
namespace Go.Proofs.Ytkfccpabigikkaa
open Go Go.Hw
open Go.ChangeShapes Go.WideShapes Go.ChangeAt Go.RowKit
theorem meas {H : Type} : Meas (H := H) Rows.uptoBulk where
 sl es rest := ⟨bulk_slice es rest, fun e he => by have := bulk_in he; simp only [Rows.uptoBulk]; omega⟩
 ag es e he := by have := bulk_in he; simp only [Rows.uptoBulk]; omega
 st l := bulk_str l
theorem u8x {b : Int} (h : (Lit.int .u8 b).wf = true) : 0 ≤ b ∧ b < 256 := by
 have := wf_rng h
 have h1 : (IntKind.u8.min : Int) = 0 := by rfl
 have h2 : (IntKind.u8.max : Int) = 255 := by rfl
 omega
theorem u32x {b : Int} (h : (Lit.int .u32 b).wf = true) : 0 ≤ b ∧ b < 4294967296 := by
 have := wf_rng h
 have h1 : (IntKind.u32.min : Int) = 0 := by rfl
 have h2 : (IntKind.u32.max : Int) = 4294967295 := by rfl
 omega
def opSh : List Sh := [.int .i64, .int .i64, .int .u32, .int .u32, .row [.int .u8], .int .i64, .int .u8, .int .u8, .int .u8, .int .u8, .int .u8, .int .u8, .int .u32, .int .u8, .int .u8, .int .u8, .int .u8, .int .u8, .int .u8, .int .u32, .int .u32]
set_option maxRecDepth 100000 in
theorem op_sh : shOf Try.prog 5 25 = some [.row opSh] := by kernel_rfl
theorem op_one {h : Hp} {B : Nat} {cs : List Value} (hc : All2 (CellOk h B 4) opSh cs) : ∃ o : OpN, cs = opC o ∧ o.ok h B := by
 unfold opSh at hc
 obtain ⟨v0, r0, e0, c0, hc0⟩ := all2_cons hc
 obtain ⟨a0, f0, w0⟩ := ok_int (n := 3) c0
 obtain ⟨v1, r1, e1, c1, hc1⟩ := all2_cons hc0
 obtain ⟨a1, f1, w1⟩ := ok_int (n := 3) c1
 obtain ⟨v2, r2, e2, c2, hc2⟩ := all2_cons hc1
 obtain ⟨a2, f2, w2⟩ := ok_int (n := 3) c2
 obtain ⟨v3, r3, e3, c3, hc3⟩ := all2_cons hc2
 obtain ⟨a3, f3, w3⟩ := ok_int (n := 3) c3
 obtain ⟨v4, r4, e4, c4, hc4⟩ := all2_cons hc3
 obtain ⟨s, l, f4, hr, hl⟩ := RdB.ofRow (n := 2) c4
 obtain ⟨v5, r5, e5, c5, hc5⟩ := all2_cons hc4
 obtain ⟨a5, f5, w5⟩ := ok_int (n := 3) c5
 obtain ⟨v6, r6, e6, c6, hc6⟩ := all2_cons hc5
 obtain ⟨a6, f6, w6⟩ := ok_int (n := 3) c6
 obtain ⟨v7, r7, e7, c7, hc7⟩ := all2_cons hc6
 obtain ⟨a7, f7, w7⟩ := ok_int (n := 3) c7
 obtain ⟨v8, r8, e8, c8, hc8⟩ := all2_cons hc7
 obtain ⟨a8, f8, w8⟩ := ok_int (n := 3) c8
 obtain ⟨v9, r9, e9, c9, hc9⟩ := all2_cons hc8
 obtain ⟨a9, f9, w9⟩ := ok_int (n := 3) c9
 obtain ⟨v10, r10, e10, c10, hc10⟩ := all2_cons hc9
 obtain ⟨a10, f10, w10⟩ := ok_int (n := 3) c10
 obtain ⟨v11, r11, e11, c11, hc11⟩ := all2_cons hc10
 obtain ⟨a11, f11, w11⟩ := ok_int (n := 3) c11
 obtain ⟨v12, r12, e12, c12, hc12⟩ := all2_cons hc11
 obtain ⟨a12, f12, w12⟩ := ok_int (n := 3) c12
 obtain ⟨v13, r13, e13, c13, hc13⟩ := all2_cons hc12
 obtain ⟨a13, f13, w13⟩ := ok_int (n := 3) c13
 obtain ⟨v14, r14, e14, c14, hc14⟩ := all2_cons hc13
 obtain ⟨a14, f14, w14⟩ := ok_int (n := 3) c14
 obtain ⟨v15, r15, e15, c15, hc15⟩ := all2_cons hc14
 obtain ⟨a15, f15, w15⟩ := ok_int (n := 3) c15
 obtain ⟨v16, r16, e16, c16, hc16⟩ := all2_cons hc15
 obtain ⟨a16, f16, w16⟩ := ok_int (n := 3) c16
 obtain ⟨v17, r17, e17, c17, hc17⟩ := all2_cons hc16
 obtain ⟨a17, f17, w17⟩ := ok_int (n := 3) c17
 obtain ⟨v18, r18, e18, c18, hc18⟩ := all2_cons hc17
 obtain ⟨a18, f18, w18⟩ := ok_int (n := 3) c18
 obtain ⟨v19, r19, e19, c19, hc19⟩ := all2_cons hc18
 obtain ⟨a19, f19, w19⟩ := ok_int (n := 3) c19
 obtain ⟨v20, r20, e20, c20, hc20⟩ := all2_cons hc19
 obtain ⟨a20, f20, w20⟩ := ok_int (n := 3) c20
 have e21 := all2_nil hc20
 subst f0 f1 f2 f3 f4 f5 f6 f7 f8 f9 f10 f11 f12 f13 f14 f15 f16 f17 f18 f19 f20
 subst e21
 subst e20
 subst e19
 subst e18
 subst e17
 subst e16
 subst e15
 subst e14
 subst e13
 subst e12
 subst e11
 subst e10
 subst e9
 subst e8
 subst e7
 subst e6
 subst e5
 subst e4
 subst e3
 subst e2
 subst e1
 subst e0
 exact ⟨⟨a0, a1, a2, a3, l, s, a5, ⟨a6, a7, a8, a9, a10, a11⟩, a12, ⟨a13, a14, a15, a16, a17, a18⟩, a19, a20⟩, rfl, u32x w2, u32x w3, hr, hl, ⟨u8x w6, u8x w7, u8x w8, u8x w9, u8x w10, u8x w11⟩, u32x w12, u32x w19⟩
section
variable {H : Type} {enc : TypeId × Value → H}
theorem ops_open {r : Reach} {W : World} {b0 : Nat} {v : Value} {d : DataW H} {ps : List MemPlace} (hk : Rows.uptoBulk d ≤ 1048576) (hval : Value.okWide Try.prog W r b0 25 v) (hd : DataW.Trod enc Try.prog W 0 (fun _ => true) true 25 v d ps) :
  ∃ (s : Sl) (ops : List OpN), v = s.v ∧ RdE (hpOf W) s opC ops ∧ ops.length ≤ 1048576 ∧ ∀ o ∈ ops, o.ok (hpOf W) 1048576 := by
 have ht : Try.prog.underlying 25 = some (.slice 44) := by kernel_rfl
 obtain ⟨p, n, c, rfl⟩ := Hw.okWide_slice ht hval
 obtain ⟨fuel, hf⟩ := hd
 have hcs : (Value.slice p n c).cells.toList = [.slice p n c] := rfl
 rw [hcs] at hf
 have h1 := (trod_sh meas 5 fuel _ _ _ _ op_sh hf hk).1
 obtain ⟨s, Q, q1, q2, q3, q4, q5⟩ := RdE.ofRow (g := opC) (p := fun o => OpN.ok (hpOf W) 1048576 o) h1 fun cs hcs => op_one hcs
 exact ⟨s, Q, q1, q2, q4, q5⟩
theorem mac_open {r : Reach} {W : World} {b0 : Nat} {v : Value} {d : DataW H} {ps : List MemPlace} (hval : Value.okWide Try.prog W r b0 24 v) (hd : DataW.Trod enc Try.prog W 0 (fun _ => true) true 24 v d ps) :
  ∃ m : M6, m.ok ∧ v = .agg ⟨[.int .u8 m.a, .int .u8 m.b, .int .u8 m.c, .int .u8 m.d, .int .u8 m.e, .int .u8 m.f]⟩ := by
 obtain ⟨l, hl, rfl⟩ := arr_open (n := 6) (e := 5) (by kernel_rfl) (by kernel_rfl) (by kernel_rfl) (by kernel_rfl) hval hd
 match l, hl with
 | [a, b, c, d, e, f], _ => exact ⟨⟨a.toNat, b.toNat, c.toNat, d.toNat, e.toNat, f.toNat⟩, ⟨u8r a, u8r b, u8r c, u8r d, u8r e, u8r f⟩, rfl⟩
end
end Go.Proofs.Ytkfccpabigikkaa

set_option linter.unusedVariables false
set_option maxRecDepth 100000
namespace Go.Proofs.Ytkfccpabigikkaa
open Go Go.Hw
noncomputable def B14 : Code := match Try.f14.body with | some c => c | none => .skip
def N14_l0_b (x0 : Option Addr) (x1 : Int) (Φ : Int → Hp → Prop) (x5 : Int) (h : Hp) (K0 : Hp → Prop) (Kr : Int → Hp → Prop) : Prop :=
 nn x0 fun a0 =>
 xL (cell h a0) fun s0 =>
 bif (decide (x5 < ((s0.n : Nat) : Int))) then
 nn x0 fun a1 =>
 xL (cell h a1) fun s1 =>
 idx x5 s1.n <|
 nn s1.p fun a2 =>
 xI .u32 (cell h ((a2.add (x5.toNat * 3)).add 1)) fun n0 =>
 bif (n0 == x1) then
 Kr x5 h
 else
 Φ (IntKind.wrap .i64 (x5 + 1)) h
 else
 K0 h
def N14_l0_B (x0 : Option Addr) (x1 : Int) (K0 : Hp → Prop) (Kr : Int → Hp → Prop) (s : Sg.T [(5, .c (.int .i64))]) (h : Hp) (Φ : Sg.T [(5, .c (.int .i64))] → Hp → Prop) : Prop :=
 N14_l0_b x0 x1 (fun x5 h => Φ x5 h) s h K0 Kr
def N14_l0 (x0 : Option Addr) (x1 x5 : Int) (h : Hp) (K0 : Hp → Prop) (Kr : Int → Hp → Prop) : Prop :=
 loopP (N14_l0_B x0 x1 K0 Kr) x5 h
noncomputable def N14_l0_t : Xf := loopT [(0, .c (.ptr)), (1, .c (.int .u32))] [(5, .c (.int .i64))] (codeAt B14 [1, 0, 1, 0, 0]) fun F Q => N14_l0_B F.1 F.2 (fun h' => Q (.exit 0) (Sg.env [] ()) h') (fun o0 h' => Q .ret (Sg.env [(4, .c (.int .i64))] o0) h')
theorem N14_l0_ok : Sound Try.prog Try.f14.ntmps N14_l0_t (codeAt B14 [1, 0, 1, 0]) := by
 refine loop_sound (fun e => match e with | .exit 0 => [] | .ret => [4] | _ => []) (by kernel_rfl) ?_
 intro F Q s h Φ hb
 refine den_sound hE hm _ .leaf _ _ _ (annOk_leaf) ?_
 refine cast ?_ hb
 kernel_rfl
def N14 (x0 : Option Addr) (x1 : Int) (h : Hp) (K : Int → Hp → Prop) : Prop :=
 N14_l0 x0 x1 0 h
 (fun h0 =>
 K (-1) h0)
 (fun n0 h1 =>
 K n0 h1)
theorem S14 {x0 : Option Addr} {x1 : Int} {h : Hp} {K : Int → Hp → Prop} (hn : N14 x0 x1 h K) : C14 x0 x1 h K := by
 refine calls_of_D Try.func14 (c := B14) rfl (by kernel_rfl) ?_
 refine den_sound hE hm _ (.two .leaf (.two (.two .leaf (.one (.xf N14_l0_t))) .leaf)) _ _ _ (⟨annOk_leaf, ⟨⟨annOk_leaf, N14_l0_ok⟩, annOk_leaf⟩⟩) ?_
 refine cast ?_ hn
 kernel_rfl
end Go.Proofs.Ytkfccpabigikkaa

set_option linter.unusedVariables false
set_option maxRecDepth 100000
namespace Go.Proofs.Ytkfccpabigikkaa
open Go Go.Hw
noncomputable def B45 : Code := match Try.f45.body with | some c => c | none => .skip
def N45_l0_b (x0 : Option Addr) (x1 : Int) (Φ : Sl → Int → Hp → Prop) (x4 : Sl) (x5 : Int) (h : Hp) (K0 : Sl → Hp → Prop) : Prop :=
 nn x0 fun a0 =>
 xL (cell h a0) fun s0 =>
 bif (decide (x5 < ((s0.n : Nat) : Int))) then
 bif (x5 != x1) then
 nn x0 fun a1 =>
 xL (cell h a1) fun s1 =>
 idx x5 s1.n <|
 nn s1.p fun a2 =>
 xI .i64 (cell h (a2.add (x5.toNat * 3))) fun n0 =>
 xI .u32 (cell h ((a2.add (x5.toNat * 3)).add 1)) fun n1 =>
 xI .i64 (cell h ((a2.add (x5.toNat * 3)).add 2)) fun n2 =>
 nw h (.cells ⟨[.int .i64 n0, .int .u32 n1, .int .i64 n2]⟩ 57) fun b0 h0 =>
 apK Try.prog 57 x4 (.slice (some (bk b0)) 1 1) h0 fun s2 h1 =>
 Φ s2 (IntKind.wrap .i64 (x5 + 1)) h1
 else
 Φ x4 (IntKind.wrap .i64 (x5 + 1)) h
 else
 K0 x4 h
def N45_l0_B (x0 : Option Addr) (x1 : Int) (K0 : Sl → Hp → Prop) (s : Sg.T [(4, .c (.slice)), (5, .c (.int .i64))]) (h : Hp) (Φ : Sg.T [(4, .c (.slice)), (5, .c (.int .i64))] → Hp → Prop) : Prop :=
 N45_l0_b x0 x1 (fun x4 x5 h => Φ (x4, x5) h) s.1 s.2 h K0
def N45_l0 (x0 : Option Addr) (x1 : Int) (x4 : Sl) (x5 : Int) (h : Hp) (K0 : Sl → Hp → Prop) : Prop :=
 loopP (N45_l0_B x0 x1 K0) (x4, x5) h
noncomputable def N45_l0_t : Xf := loopT [(0, .c (.ptr)), (1, .c (.int .i64))] [(4, .c (.slice)), (5, .c (.int .i64))] (codeAt B45 [1, 0, 1, 0, 0]) fun F Q => N45_l0_B F.1 F.2 (fun o0 h' => Q (.exit 0) (Sg.env [(4, .c (.slice))] o0) h')
theorem N45_l0_ok : Sound Try.prog Try.f45.ntmps N45_l0_t (codeAt B45 [1, 0, 1, 0]) := by
 refine loop_sound (fun e => match e with | .exit 0 => [4] | _ => []) (by kernel_rfl) ?_
 intro F Q s h Φ hb
 refine den_sound hE hm _ .leaf _ _ _ (annOk_leaf) ?_
 refine cast ?_ hb
 kernel_rfl
def N45 (x0 : Option Addr) (x1 : Int) (h : Hp) (K : Hp → Prop) : Prop :=
 N45_l0 x0 x1 ⟨none, 0, 0⟩ 0 h
 (fun s0 h0 =>
 nn x0 fun a0 =>
 st h0 a0 (.slice s0.p s0.n s0.c) fun h1 =>
 K h1)
theorem S45 {x0 : Option Addr} {x1 : Int} {h : Hp} {K : Hp → Prop} (hn : N45 x0 x1 h K) : C45 x0 x1 h K := by
 refine calls_of_D Try.func45 (c := B45) rfl (by kernel_rfl) ?_
 refine den_sound hE hm _ (.two .leaf (.two (.two .leaf (.one (.xf N45_l0_t))) .leaf)) _ _ _ (⟨annOk_leaf, ⟨⟨annOk_leaf, N45_l0_ok⟩, annOk_leaf⟩⟩) ?_
 refine cast ?_ hn
 kernel_rfl
end Go.Proofs.Ytkfccpabigikkaa

set_option linter.unusedVariables false
set_option maxRecDepth 100000
namespace Go.Proofs.Ytkfccpabigikkaa
open Go Go.Hw
noncomputable def B17 : Code := match Try.f17.body with | some c => c | none => .skip
def N17_l0_b (x0 x3 : Option Addr) (Φ : Sl → Int → Hp → Prop) (x4 : Sl) (x5 : Int) (h : Hp) (K0 : Sl → Hp → Prop) : Prop :=
 nn x0 fun a0 =>
 xL (cell h (a0.add 1)) fun s0 =>
 bif (decide (x5 < ((s0.n : Nat) : Int))) then
 nn x0 fun a1 =>
 xL (cell h (a1.add 1)) fun s1 =>
 idx x5 s1.n <|
 nn s1.p fun a2 =>
 xI .u32 (cell h (a2.add (x5.toNat * 7))) fun n0 =>
 nn x3 fun a3 =>
 xI .u32 (cell h (a3.add 7)) fun n1 =>
 bif (n0 != n1) then
 nn x0 fun a4 =>
 xL (cell h (a4.add 1)) fun s2 =>
 idx x5 s2.n <|
 nn s2.p fun a5 =>
 xI .u32 (cell h (a5.add (x5.toNat * 7))) fun n2 =>
 xI .u8 (cell h ((a5.add (x5.toNat * 7)).add 1)) fun n3 =>
 xI .u8 (cell h ((a5.add (x5.toNat * 7)).add 2)) fun n4 =>
 xI .u8 (cell h ((a5.add (x5.toNat * 7)).add 3)) fun n5 =>
 xI .u8 (cell h ((a5.add (x5.toNat * 7)).add 4)) fun n6 =>
 xI .u8 (cell h ((a5.add (x5.toNat * 7)).add 5)) fun n7 =>
 xI .u8 (cell h ((a5.add (x5.toNat * 7)).add 6)) fun n8 =>
 nw h (.cells ⟨[.int .u32 n2, .int .u8 n3, .int .u8 n4, .int .u8 n5, .int .u8 n6, .int .u8 n7, .int .u8 n8]⟩ 97) fun b0 h0 =>
 apK Try.prog 97 x4 (.slice (some (bk b0)) 1 1) h0 fun s3 h1 =>
 Φ s3 (IntKind.wrap .i64 (x5 + 1)) h1
 else
 Φ x4 (IntKind.wrap .i64 (x5 + 1)) h
 else
 K0 x4 h
def N17_l0_B (x0 x3 : Option Addr) (K0 : Sl → Hp → Prop) (s : Sg.T [(4, .c (.slice)), (5, .c (.int .i64))]) (h : Hp) (Φ : Sg.T [(4, .c (.slice)), (5, .c (.int .i64))] → Hp → Prop) : Prop :=
 N17_l0_b x0 x3 (fun x4 x5 h => Φ (x4, x5) h) s.1 s.2 h K0
def N17_l0 (x0 x3 : Option Addr) (x4 : Sl) (x5 : Int) (h : Hp) (K0 : Sl → Hp → Prop) : Prop :=
 loopP (N17_l0_B x0 x3 K0) (x4, x5) h
noncomputable def N17_l0_t : Xf := loopT [(0, .c (.ptr)), (3, .c (.ptr))] [(4, .c (.slice)), (5, .c (.int .i64))] (codeAt B17 [1, 1, 0, 1, 0, 0]) fun F Q => N17_l0_B F.1 F.2 (fun o0 h' => Q (.exit 0) (Sg.env [(4, .c (.slice))] o0) h')
theorem N17_l0_ok : Sound Try.prog Try.f17.ntmps N17_l0_t (codeAt B17 [1, 1, 0, 1, 0]) := by
 refine loop_sound (fun e => match e with | .exit 0 => [4] | _ => []) (by kernel_rfl) ?_
 intro F Q s h Φ hb
 refine den_sound hE hm _ (.two .leaf (.two (.one (.two (.ord [0, 1, 2, 3, 4, 5, 6, 7, 8, 9, 10]) .leaf)) .leaf)) _ _ _ (⟨annOk_leaf, ⟨⟨trivial, annOk_leaf⟩, annOk_leaf⟩⟩) ?_
 refine cast ?_ hb
 kernel_rfl
def N17 (x0 : Option Addr) (x1_0 x1_1 x1_2 x1_3 x1_4 x1_5 x1_6 x1_7 x1_8 x1_9 x1_10 x1_11 x1_12 x1_13 x1_14 : Int) (h : Hp) (K : Hp → Prop) : Prop :=
 nw h (.cells ⟨[.int .i64 x1_0, .int .u8 x1_1, .int .u8 x1_2, .int .u8 x1_3, .int .u8 x1_4, .int .u8 x1_5, .int .u8 x1_6, .int .u32 x1_7, .int .u8 x1_8, .int .u8 x1_9, .int .u8 x1_10, .int .u8 x1_11, .int .u8 x1_12, .int .u8 x1_13, .int .u32 x1_14]⟩ 42) fun b0 h0 =>
 N17_l0 x0 (some (bk b0)) ⟨none, 0, 0⟩ 0 h0
 (fun s0 h1 =>
 xI .u32 (cell h1 ((bk b0).add 7)) fun n0 =>
 xI .u8 (cell h1 ((bk b0).add 1)) fun n1 =>
 xI .u8 (cell h1 ((bk b0).add 2)) fun n2 =>
 xI .u8 (cell h1 ((bk b0).add 3)) fun n3 =>
 xI .u8 (cell h1 ((bk b0).add 4)) fun n4 =>
 xI .u8 (cell h1 ((bk b0).add 5)) fun n5 =>
 xI .u8 (cell h1 ((bk b0).add 6)) fun n6 =>
 nw h1 (.cells ⟨[.int .u32 n0, .int .u8 n1, .int .u8 n2, .int .u8 n3, .int .u8 n4, .int .u8 n5, .int .u8 n6]⟩ 97) fun b1 h2 =>
 apK Try.prog 97 s0 (.slice (some (bk b1)) 1 1) h2 fun s1 h3 =>
 nn x0 fun a0 =>
 st h3 (a0.add 1) (.slice s1.p s1.n s1.c) fun h4 =>
 K h4)
theorem S17 {x0 : Option Addr} {x1_0 x1_1 x1_2 x1_3 x1_4 x1_5 x1_6 x1_7 x1_8 x1_9 x1_10 x1_11 x1_12 x1_13 x1_14 : Int} {h : Hp} {K : Hp → Prop} (hn : N17 x0 x1_0 x1_1 x1_2 x1_3 x1_4 x1_5 x1_6 x1_7 x1_8 x1_9 x1_10 x1_11 x1_12 x1_13 x1_14 h K) : C17 x0 x1_0 x1_1 x1_2 x1_3 x1_4 x1_5 x1_6 x1_7 x1_8 x1_9 x1_10 x1_11 x1_12 x1_13 x1_14 h K := by
 refine calls_of_D Try.func17 (c := B17) rfl (by kernel_rfl) ?_
 refine den_sound hE hm _ (.two .leaf (.two .leaf (.two (.two .leaf (.one (.xf N17_l0_t))) .leaf))) _ _ _ (⟨annOk_leaf, ⟨annOk_leaf, ⟨⟨annOk_leaf, N17_l0_ok⟩, annOk_leaf⟩⟩⟩) ?_
 refine cast ?_ hn
 kernel_rfl
end Go.Proofs.Ytkfccpabigikkaa

set_option linter.unusedVariables false
set_option maxRecDepth 100000
namespace Go.Proofs.Ytkfccpabigikkaa
open Go Go.Hw
noncomputable def B67 : Code := match Try.f67.body with | some c => c | none => .skip
def N67 (x0 : Sl) (x1 : Int) (h : Hp) (K : Int → Int → Int → Int → Int → Int → Hp → Prop) : Prop :=
 nw h (.cells ⟨[.int .u8 0, .int .u8 0, .int .u8 0, .int .u8 0, .int .u8 0, .int .u8 0]⟩ 24) fun b0 h0 =>
 idx x1 x0.n <|
 nn x0.p fun a0 =>
 xI .u8 (cell h0 (a0.add (x1.toNat * 1))) fun n0 =>
 idx (IntKind.wrap .i64 (x1 + 1)) x0.n <|
 nn x0.p fun a1 =>
 xI .u8 (cell h0 (a1.add ((IntKind.wrap .i64 (x1 + 1)).toNat * 1))) fun n1 =>
 idx (IntKind.wrap .i64 (x1 + 2)) x0.n <|
 nn x0.p fun a2 =>
 xI .u8 (cell h0 (a2.add ((IntKind.wrap .i64 (x1 + 2)).toNat * 1))) fun n2 =>
 idx (IntKind.wrap .i64 (x1 + 3)) x0.n <|
 nn x0.p fun a3 =>
 xI .u8 (cell h0 (a3.add ((IntKind.wrap .i64 (x1 + 3)).toNat * 1))) fun n3 =>
 idx (IntKind.wrap .i64 (x1 + 4)) x0.n <|
 nn x0.p fun a4 =>
 xI .u8 (cell h0 (a4.add ((IntKind.wrap .i64 (x1 + 4)).toNat * 1))) fun n4 =>
 idx (IntKind.wrap .i64 (x1 + 5)) x0.n <|
 nn x0.p fun a5 =>
 xI .u8 (cell h0 (a5.add ((IntKind.wrap .i64 (x1 + 5)).toNat * 1))) fun n5 =>
 st h0 (bk b0) (.int .u8 n0) fun h1 =>
 st h1 ((bk b0).add 1) (.int .u8 n1) fun h2 =>
 st h2 ((bk b0).add 2) (.int .u8 n2) fun h3 =>
 st h3 ((bk b0).add 3) (.int .u8 n3) fun h4 =>
 st h4 ((bk b0).add 4) (.int .u8 n4) fun h5 =>
 st h5 ((bk b0).add 5) (.int .u8 n5) fun h6 =>
 xI .u8 (cell h6 (bk b0)) fun n6 =>
 xI .u8 (cell h6 ((bk b0).add 1)) fun n7 =>
 xI .u8 (cell h6 ((bk b0).add 2)) fun n8 =>
 xI .u8 (cell h6 ((bk b0).add 3)) fun n9 =>
 xI .u8 (cell h6 ((bk b0).add 4)) fun n10 =>
 xI .u8 (cell h6 ((bk b0).add 5)) fun n11 =>
 K n6 n7 n8 n9 n10 n11 h6
theorem S67 {x0 : Sl} {x1 : Int} {h : Hp} {K : Int → Int → Int → Int → Int → Int → Hp → Prop} (hn : N67 x0 x1 h K) : C67 x0 x1 h K := by
 refine calls_of_M Try.func67 (c := B67) rfl (by kernel_rfl) ?_
 refine den_sound hE hm _ (.two .leaf (.two (.ord [0, 1, 2, 3, 4, 5, 6, 7, 8, 9, 10, 11, 12, 13, 14, 15, 16, 17, 18, 19, 20, 21, 22, 23, 24, 25, 26, 27, 28, 29, 30]) .leaf)) _ _ _ (⟨annOk_leaf, ⟨trivial, annOk_leaf⟩⟩) ?_
 refine cast ?_ hn
 kernel_rfl
end Go.Proofs.Ytkfccpabigikkaa

set_option linter.unusedVariables false
set_option maxRecDepth 100000
namespace Go.Proofs.Ytkfccpabigikkaa
open Go Go.Hw
noncomputable def B68 : Code := match Try.f68.body with | some c => c | none => .skip
def N68 (x0 : Sl) (x1 : Int) (h : Hp) (K : Int → Hp → Prop) : Prop :=
 C44 x0 x1 4 h fun n0 n1 h0 =>
 K (IntKind.wrap .u32 n0) h0
theorem S68 {x0 : Sl} {x1 : Int} {h : Hp} {K : Int → Hp → Prop} (hn : N68 x0 x1 h K) : C68 x0 x1 h K := by
 refine calls_of_D Try.func68 (c := B68) rfl (by kernel_rfl) ?_
 refine den_sound hE hm _ .leaf _ _ _ (annOk_leaf) ?_
 refine cast ?_ hn
 kernel_rfl
end Go.Proofs.Ytkfccpabigikkaa

set_option linter.unusedVariables false
set_option maxRecDepth 100000
namespace Go.Proofs.Ytkfccpabigikkaa
open Go Go.Hw
noncomputable def B43 : Code := match Try.f43.body with | some c => c | none => .skip
def N43_j0 (x0 : Sl) (x2 : Option Addr) (x31 : Bool) (h : Hp) (Kn : Hp → Prop) (Kr : Int → Hp → Prop) : Prop :=
 bif x31 then
 nn x2 fun a0 =>
 st h a0 (.int .i64 0) fun h0 =>
 st h0 (a0.add 1) (.int .u8 0) fun h1 =>
 st h1 (a0.add 2) (.int .u8 0) fun h2 =>
 st h2 (a0.add 3) (.int .u8 0) fun h3 =>
 st h3 (a0.add 4) (.int .u8 0) fun h4 =>
 st h4 (a0.add 5) (.int .u8 0) fun h5 =>
 st h5 (a0.add 6) (.int .u8 0) fun h6 =>
 st h6 (a0.add 7) (.int .u32 0) fun h7 =>
 st h7 (a0.add 8) (.int .u8 0) fun h8 =>
 st h8 (a0.add 9) (.int .u8 0) fun h9 =>
 st h9 (a0.add 10) (.int .u8 0) fun h10 =>
 st h10 (a0.add 11) (.int .u8 0) fun h11 =>
 st h11 (a0.add 12) (.int .u8 0) fun h12 =>
 st h12 (a0.add 13) (.int .u8 0) fun h13 =>
 st h13 (a0.add 14) (.int .u32 0) fun h14 =>
 Kr 80 h14
 else
 Kn h
noncomputable def N43_j0_t : Xf := pieceT [(0, .c (.slice)), (2, .c (.ptr)), (31, .c (.bool))] (codeAt B43 [1, 1, 0, 1]) fun x h Q => N43_j0 x.1 x.2.1 x.2.2 h (fun h' => Q .normal (Sg.env [] ()) h') (fun o0 h' => Q .ret (Sg.env [(3, .c (.int .i64))] o0) h')
theorem N43_j0_ok : Sound Try.prog Try.f43.ntmps N43_j0_t (codeAt B43 [1, 1, 0, 1]) := by
 refine piece_sound (fun e => match e with | .normal => [] | .ret => [3] | _ => []) ?_
 intro x h Q hb
 refine den_sound hE hm _ .leaf _ _ _ (annOk_leaf) ?_
 refine cast ?_ hb
 kernel_rfl
def N43_j1 (x0 : Sl) (x2 : Option Addr) (h : Hp) (Kr : Int → Hp → Prop) : Prop :=
 idx 7 x0.n <|
 nn x0.p fun a0 =>
 xI .u8 (cell h (a0.add ((7 : Int).toNat * 1))) fun n0 =>
 C67 x0 8 h fun n1 n2 n3 n4 n5 n6 h0 =>
 both (Only (.int .i64 (IntKind.wrap .i64 n0)) h0 (.int .i64 (IntKind.wrap .i64 n0)) h0) <|
 both (xI .u8 (cell h0 (a0.add ((7 : Int).toNat * 1))) fun n7 => Only (.int .u8 n0) h0 (.int .u8 n7) h0) <|
 C68 x0 14 h0 fun n8 h1 =>
 both (Only (.int .i64 (IntKind.wrap .i64 n0)) h1 (.int .i64 (IntKind.wrap .i64 n0)) h1) <|
 both (xI .u8 (cell h1 (a0.add ((7 : Int).toNat * 1))) fun n9 => Only (.int .u8 n0) h1 (.int .u8 n9) h1) <|
 C67 x0 18 h1 fun n10 n11 n12 n13 n14 n15 h2 =>
 both (Only (.int .i64 (IntKind.wrap .i64 n0)) h2 (.int .i64 (IntKind.wrap .i64 n0)) h2) <|
 both (xI .u8 (cell h2 (a0.add ((7 : Int).toNat * 1))) fun n16 => Only (.int .u8 n0) h2 (.int .u8 n16) h2) <|
 C68 x0 24 h2 fun n17 h3 =>
 both (Only (.int .i64 (IntKind.wrap .i64 n0)) h3 (.int .i64 (IntKind.wrap .i64 n0)) h3) <|
 both (xI .u8 (cell h3 (a0.add ((7 : Int).toNat * 1))) fun n18 => Only (.int .u8 n0) h3 (.int .u8 n18) h3) <|
 nn x2 fun a1 =>
 st h3 a1 (.int .i64 (IntKind.wrap .i64 n0)) fun h4 =>
 st h4 (a1.add 1) (.int .u8 n1) fun h5 =>
 st h5 (a1.add 2) (.int .u8 n2) fun h6 =>
 st h6 (a1.add 3) (.int .u8 n3) fun h7 =>
 st h7 (a1.add 4) (.int .u8 n4) fun h8 =>
 st h8 (a1.add 5) (.int .u8 n5) fun h9 =>
 st h9 (a1.add 6) (.int .u8 n6) fun h10 =>
 st h10 (a1.add 7) (.int .u32 n8) fun h11 =>
 st h11 (a1.add 8) (.int .u8 n10) fun h12 =>
 st h12 (a1.add 9) (.int .u8 n11) fun h13 =>
 st h13 (a1.add 10) (.int .u8 n12) fun h14 =>
 st h14 (a1.add 11) (.int .u8 n13) fun h15 =>
 st h15 (a1.add 12) (.int .u8 n14) fun h16 =>
 st h16 (a1.add 13) (.int .u8 n15) fun h17 =>
 st h17 (a1.add 14) (.int .u32 n17) fun h18 =>
 Kr 0 h18
noncomputable def N43_j1_t : Xf := pieceT [(0, .c (.slice)), (2, .c (.ptr))] (codeAt B43 [1, 1, 1]) fun x h Q => N43_j1 x.1 x.2 h (fun o0 h' => Q .ret (Sg.env [(3, .c (.int .i64))] o0) h')
theorem N43_j1_ok : Sound Try.prog Try.f43.ntmps N43_j1_t (codeAt B43 [1, 1, 1]) := by
 refine piece_sound (fun e => match e with | .ret => [3] | _ => []) ?_
 intro x h Q hb
 refine den_sound hE hm _ (.two (.ord [0, 1, 2, 3, 4, 6, 8, 10, 5, 7, 9, 11, 12, 13, 14]) .leaf) _ _ _ (⟨trivial, annOk_leaf⟩) ?_
 refine cast ?_ hb
 kernel_rfl
def N43 (x0 : Sl) (h : Hp) (K : Int → Int → Int → Int → Int → Int → Int → Int → Int → Int → Int → Int → Int → Int → Int → Int → Hp → Prop) : Prop :=
 nw h (.cells ⟨[.int .i64 0, .int .u8 0, .int .u8 0, .int .u8 0, .int .u8 0, .int .u8 0, .int .u8 0, .int .u32 0, .int .u8 0, .int .u8 0, .int .u8 0, .int .u8 0, .int .u8 0, .int .u8 0, .int .u32 0]⟩ 42) fun b0 h0 =>
 bif (decide (((x0.n : Nat) : Int) < 28)) then
 st h0 (bk b0) (.int .i64 0) fun h1 =>
 st h1 ((bk b0).add 1) (.int .u8 0) fun h2 =>
 st h2 ((bk b0).add 2) (.int .u8 0) fun h3 =>
 st h3 ((bk b0).add 3) (.int .u8 0) fun h4 =>
 st h4 ((bk b0).add 4) (.int .u8 0) fun h5 =>
 st h5 ((bk b0).add 5) (.int .u8 0) fun h6 =>
 st h6 ((bk b0).add 6) (.int .u8 0) fun h7 =>
 st h7 ((bk b0).add 7) (.int .u32 0) fun h8 =>
 st h8 ((bk b0).add 8) (.int .u8 0) fun h9 =>
 st h9 ((bk b0).add 9) (.int .u8 0) fun h10 =>
 st h10 ((bk b0).add 10) (.int .u8 0) fun h11 =>
 st h11 ((bk b0).add 11) (.int .u8 0) fun h12 =>
 st h12 ((bk b0).add 12) (.int .u8 0) fun h13 =>
 st h13 ((bk b0).add 13) (.int .u8 0) fun h14 =>
 st h14 ((bk b0).add 14) (.int .u32 0) fun h15 =>
 xI .i64 (cell h15 (bk b0)) fun n0 =>
 xI .u8 (cell h15 ((bk b0).add 1)) fun n1 =>
 xI .u8 (cell h15 ((bk b0).add 2)) fun n2 =>
 xI .u8 (cell h15 ((bk b0).add 3)) fun n3 =>
 xI .u8 (cell h15 ((bk b0).add 4)) fun n4 =>
 xI .u8 (cell h15 ((bk b0).add 5)) fun n5 =>
 xI .u8 (cell h15 ((bk b0).add 6)) fun n6 =>
 xI .u32 (cell h15 ((bk b0).add 7)) fun n7 =>
 xI .u8 (cell h15 ((bk b0).add 8)) fun n8 =>
 xI .u8 (cell h15 ((bk b0).add 9)) fun n9 =>
 xI .u8 (cell h15 ((bk b0).add 10)) fun n10 =>
 xI .u8 (cell h15 ((bk b0).add 11)) fun n11 =>
 xI .u8 (cell h15 ((bk b0).add 12)) fun n12 =>
 xI .u8 (cell h15 ((bk b0).add 13)) fun n13 =>
 xI .u32 (cell h15 ((bk b0).add 14)) fun n14 =>
 K n0 n1 n2 n3 n4 n5 n6 n7 n8 n9 n10 n11 n12 n13 n14 5 h15
 else
 bd 6 x0.c fun k0 =>
 b2s h0 (sadr x0.p x0.c 0 1) k0 fun s0 =>
 C66 h0 fun s1 h16 =>
 both (b2s h16 (sadr x0.p x0.c 0 1) k0 fun s2 => Only (.string s0) h16 (.string s2) h16) <|
 b2s h16 s1.p s1.n fun s3 =>
 bif (!(s0.toList == s3.toList)) then
 N43_j0 x0 (some (bk b0)) true h16
 (fun h17 =>
 N43_j1 x0 (some (bk b0)) h17
 (fun n15 h18 =>
 xI .i64 (cell h18 (bk b0)) fun n16 =>
 xI .u8 (cell h18 ((bk b0).add 1)) fun n17 =>
 xI .u8 (cell h18 ((bk b0).add 2)) fun n18 =>
 xI .u8 (cell h18 ((bk b0).add 3)) fun n19 =>
 xI .u8 (cell h18 ((bk b0).add 4)) fun n20 =>
 xI .u8 (cell h18 ((bk b0).add 5)) fun n21 =>
 xI .u8 (cell h18 ((bk b0).add 6)) fun n22 =>
 xI .u32 (cell h18 ((bk b0).add 7)) fun n23 =>
 xI .u8 (cell h18 ((bk b0).add 8)) fun n24 =>
 xI .u8 (cell h18 ((bk b0).add 9)) fun n25 =>
 xI .u8 (cell h18 ((bk b0).add 10)) fun n26 =>
 xI .u8 (cell h18 ((bk b0).add 11)) fun n27 =>
 xI .u8 (cell h18 ((bk b0).add 12)) fun n28 =>
 xI .u8 (cell h18 ((bk b0).add 13)) fun n29 =>
 xI .u32 (cell h18 ((bk b0).add 14)) fun n30 =>
 K n16 n17 n18 n19 n20 n21 n22 n23 n24 n25 n26 n27 n28 n29 n30 n15 h18))
 (fun n31 h19 =>
 xI .i64 (cell h19 (bk b0)) fun n32 =>
 xI .u8 (cell h19 ((bk b0).add 1)) fun n33 =>
 xI .u8 (cell h19 ((bk b0).add 2)) fun n34 =>
 xI .u8 (cell h19 ((bk b0).add 3)) fun n35 =>
 xI .u8 (cell h19 ((bk b0).add 4)) fun n36 =>
 xI .u8 (cell h19 ((bk b0).add 5)) fun n37 =>
 xI .u8 (cell h19 ((bk b0).add 6)) fun n38 =>
 xI .u32 (cell h19 ((bk b0).add 7)) fun n39 =>
 xI .u8 (cell h19 ((bk b0).add 8)) fun n40 =>
 xI .u8 (cell h19 ((bk b0).add 9)) fun n41 =>
 xI .u8 (cell h19 ((bk b0).add 10)) fun n42 =>
 xI .u8 (cell h19 ((bk b0).add 11)) fun n43 =>
 xI .u8 (cell h19 ((bk b0).add 12)) fun n44 =>
 xI .u8 (cell h19 ((bk b0).add 13)) fun n45 =>
 xI .u32 (cell h19 ((bk b0).add 14)) fun n46 =>
 K n32 n33 n34 n35 n36 n37 n38 n39 n40 n41 n42 n43 n44 n45 n46 n31 h19)
 else
 idx 6 x0.n <|
 nn x0.p fun a0 =>
 xI .u8 (cell h16 (a0.add ((6 : Int).toNat * 1))) fun n47 =>
 bif (n47 != 0) then
 N43_j0 x0 (some (bk b0)) true h16
 (fun h20 =>
 N43_j1 x0 (some (bk b0)) h20
 (fun n48 h21 =>
 xI .i64 (cell h21 (bk b0)) fun n49 =>
 xI .u8 (cell h21 ((bk b0).add 1)) fun n50 =>
 xI .u8 (cell h21 ((bk b0).add 2)) fun n51 =>
 xI .u8 (cell h21 ((bk b0).add 3)) fun n52 =>
 xI .u8 (cell h21 ((bk b0).add 4)) fun n53 =>
 xI .u8 (cell h21 ((bk b0).add 5)) fun n54 =>
 xI .u8 (cell h21 ((bk b0).add 6)) fun n55 =>
 xI .u32 (cell h21 ((bk b0).add 7)) fun n56 =>
 xI .u8 (cell h21 ((bk b0).add 8)) fun n57 =>
 xI .u8 (cell h21 ((bk b0).add 9)) fun n58 =>
 xI .u8 (cell h21 ((bk b0).add 10)) fun n59 =>
 xI .u8 (cell h21 ((bk b0).add 11)) fun n60 =>
 xI .u8 (cell h21 ((bk b0).add 12)) fun n61 =>
 xI .u8 (cell h21 ((bk b0).add 13)) fun n62 =>
 xI .u32 (cell h21 ((bk b0).add 14)) fun n63 =>
 K n49 n50 n51 n52 n53 n54 n55 n56 n57 n58 n59 n60 n61 n62 n63 n48 h21))
 (fun n64 h22 =>
 xI .i64 (cell h22 (bk b0)) fun n65 =>
 xI .u8 (cell h22 ((bk b0).add 1)) fun n66 =>
 xI .u8 (cell h22 ((bk b0).add 2)) fun n67 =>
 xI .u8 (cell h22 ((bk b0).add 3)) fun n68 =>
 xI .u8 (cell h22 ((bk b0).add 4)) fun n69 =>
 xI .u8 (cell h22 ((bk b0).add 5)) fun n70 =>
 xI .u8 (cell h22 ((bk b0).add 6)) fun n71 =>
 xI .u32 (cell h22 ((bk b0).add 7)) fun n72 =>
 xI .u8 (cell h22 ((bk b0).add 8)) fun n73 =>
 xI .u8 (cell h22 ((bk b0).add 9)) fun n74 =>
 xI .u8 (cell h22 ((bk b0).add 10)) fun n75 =>
 xI .u8 (cell h22 ((bk b0).add 11)) fun n76 =>
 xI .u8 (cell h22 ((bk b0).add 12)) fun n77 =>
 xI .u8 (cell h22 ((bk b0).add 13)) fun n78 =>
 xI .u32 (cell h22 ((bk b0).add 14)) fun n79 =>
 K n65 n66 n67 n68 n69 n70 n71 n72 n73 n74 n75 n76 n77 n78 n79 n64 h22)
 else
 idx 7 x0.n <|
 nn x0.p fun a1 =>
 xI .u8 (cell h16 (a1.add ((7 : Int).toNat * 1))) fun n80 =>
 bif (decide (n80 < 1)) then
 N43_j0 x0 (some (bk b0)) true h16
 (fun h23 =>
 N43_j1 x0 (some (bk b0)) h23
 (fun n81 h24 =>
 xI .i64 (cell h24 (bk b0)) fun n82 =>
 xI .u8 (cell h24 ((bk b0).add 1)) fun n83 =>
 xI .u8 (cell h24 ((bk b0).add 2)) fun n84 =>
 xI .u8 (cell h24 ((bk b0).add 3)) fun n85 =>
 xI .u8 (cell h24 ((bk b0).add 4)) fun n86 =>
 xI .u8 (cell h24 ((bk b0).add 5)) fun n87 =>
 xI .u8 (cell h24 ((bk b0).add 6)) fun n88 =>
 xI .u32 (cell h24 ((bk b0).add 7)) fun n89 =>
 xI .u8 (cell h24 ((bk b0).add 8)) fun n90 =>
 xI .u8 (cell h24 ((bk b0).add 9)) fun n91 =>
 xI .u8 (cell h24 ((bk b0).add 10)) fun n92 =>
 xI .u8 (cell h24 ((bk b0).add 11)) fun n93 =>
 xI .u8 (cell h24 ((bk b0).add 12)) fun n94 =>
 xI .u8 (cell h24 ((bk b0).add 13)) fun n95 =>
 xI .u32 (cell h24 ((bk b0).add 14)) fun n96 =>
 K n82 n83 n84 n85 n86 n87 n88 n89 n90 n91 n92 n93 n94 n95 n96 n81 h24))
 (fun n97 h25 =>
 xI .i64 (cell h25 (bk b0)) fun n98 =>
 xI .u8 (cell h25 ((bk b0).add 1)) fun n99 =>
 xI .u8 (cell h25 ((bk b0).add 2)) fun n100 =>
 xI .u8 (cell h25 ((bk b0).add 3)) fun n101 =>
 xI .u8 (cell h25 ((bk b0).add 4)) fun n102 =>
 xI .u8 (cell h25 ((bk b0).add 5)) fun n103 =>
 xI .u8 (cell h25 ((bk b0).add 6)) fun n104 =>
 xI .u32 (cell h25 ((bk b0).add 7)) fun n105 =>
 xI .u8 (cell h25 ((bk b0).add 8)) fun n106 =>
 xI .u8 (cell h25 ((bk b0).add 9)) fun n107 =>
 xI .u8 (cell h25 ((bk b0).add 10)) fun n108 =>
 xI .u8 (cell h25 ((bk b0).add 11)) fun n109 =>
 xI .u8 (cell h25 ((bk b0).add 12)) fun n110 =>
 xI .u8 (cell h25 ((bk b0).add 13)) fun n111 =>
 xI .u32 (cell h25 ((bk b0).add 14)) fun n112 =>
 K n98 n99 n100 n101 n102 n103 n104 n105 n106 n107 n108 n109 n110 n111 n112 n97 h25)
 else
 idx 7 x0.n <|
 nn x0.p fun a2 =>
 xI .u8 (cell h16 (a2.add ((7 : Int).toNat * 1))) fun n113 =>
 N43_j0 x0 (some (bk b0)) (decide (n113 > 2)) h16
 (fun h26 =>
 N43_j1 x0 (some (bk b0)) h26
 (fun n114 h27 =>
 xI .i64 (cell h27 (bk b0)) fun n115 =>
 xI .u8 (cell h27 ((bk b0).add 1)) fun n116 =>
 xI .u8 (cell h27 ((bk b0).add 2)) fun n117 =>
 xI .u8 (cell h27 ((bk b0).add 3)) fun n118 =>
 xI .u8 (cell h27 ((bk b0).add 4)) fun n119 =>
 xI .u8 (cell h27 ((bk b0).add 5)) fun n120 =>
 xI .u8 (cell h27 ((bk b0).add 6)) fun n121 =>
 xI .u32 (cell h27 ((bk b0).add 7)) fun n122 =>
 xI .u8 (cell h27 ((bk b0).add 8)) fun n123 =>
 xI .u8 (cell h27 ((bk b0).add 9)) fun n124 =>
 xI .u8 (cell h27 ((bk b0).add 10)) fun n125 =>
 xI .u8 (cell h27 ((bk b0).add 11)) fun n126 =>
 xI .u8 (cell h27 ((bk b0).add 12)) fun n127 =>
 xI .u8 (cell h27 ((bk b0).add 13)) fun n128 =>
 xI .u32 (cell h27 ((bk b0).add 14)) fun n129 =>
 K n115 n116 n117 n118 n119 n120 n121 n122 n123 n124 n125 n126 n127 n128 n129 n114 h27))
 (fun n130 h28 =>
 xI .i64 (cell h28 (bk b0)) fun n131 =>
 xI .u8 (cell h28 ((bk b0).add 1)) fun n132 =>
 xI .u8 (cell h28 ((bk b0).add 2)) fun n133 =>
 xI .u8 (cell h28 ((bk b0).add 3)) fun n134 =>
 xI .u8 (cell h28 ((bk b0).add 4)) fun n135 =>
 xI .u8 (cell h28 ((bk b0).add 5)) fun n136 =>
 xI .u8 (cell h28 ((bk b0).add 6)) fun n137 =>
 xI .u32 (cell h28 ((bk b0).add 7)) fun n138 =>
 xI .u8 (cell h28 ((bk b0).add 8)) fun n139 =>
 xI .u8 (cell h28 ((bk b0).add 9)) fun n140 =>
 xI .u8 (cell h28 ((bk b0).add 10)) fun n141 =>
 xI .u8 (cell h28 ((bk b0).add 11)) fun n142 =>
 xI .u8 (cell h28 ((bk b0).add 12)) fun n143 =>
 xI .u8 (cell h28 ((bk b0).add 13)) fun n144 =>
 xI .u32 (cell h28 ((bk b0).add 14)) fun n145 =>
 K n131 n132 n133 n134 n135 n136 n137 n138 n139 n140 n141 n142 n143 n144 n145 n130 h28)
theorem S43 {x0 : Sl} {h : Hp} {K : Int → Int → Int → Int → Int → Int → Int → Int → Int → Int → Int → Int → Int → Int → Int → Int → Hp → Prop} (hn : N43 x0 h K) : C43 x0 h K := by
 refine calls_of_M Try.func43 (c := B43) rfl (by kernel_rfl) ?_
 refine den_sound hE hm _ (.two .leaf (.two .leaf (.two (.two (.ord [0, 1, 2, 3, 4, 5, 6, 7, 8, 9, 10, 11, 12, 13, 14, 15, 16, 17, 18, 19, 20, 21, 22, 23]) (.xf N43_j0_t)) (.xf N43_j1_t)))) _ _ _ (⟨annOk_leaf, ⟨annOk_leaf, ⟨⟨trivial, N43_j0_ok⟩, N43_j1_ok⟩⟩⟩) ?_
 refine cast ?_ hn
 kernel_rfl
end Go.Proofs.Ytkfccpabigikkaa

/-
 NeighWaits: what a run has seen, in memory; a message read again.
-/
set_option linter.unusedSimpArgs false
set_option linter.unusedVariables false
set_option maxRecDepth 4000
namespace Go.Proofs.Ytkfccpabigikkaa
open Go Go.Hw
theorem nat_be (n w : Nat) (h : n < 256 ^ w) : nat256 (be n w) = n := by
 have key : ∀ (w a n : Nat), (be n w).foldl (fun a b => a * 256 + b.toNat) a = a * 256 ^ w + n % 256 ^ w := by
  intro w
  induction w with
  | zero => intro a n; simp [be, Nat.mod_one]
  | succ w ih =>
   intro a n
   simp only [be, List.foldl_cons]
   rw [ih]
   have hb : (UInt8.ofNat (n / 256 ^ w % 256)).toNat = n / 256 ^ w % 256 := by rw [UInt8.toNat_ofNat']; omega
   rw [hb, Nat.pow_succ, Nat.mod_mul, Nat.add_mul, Nat.mul_assoc, Nat.mul_comm 256 (256 ^ w), Nat.mul_comm (256 ^ w) (n / 256 ^ w % 256)]
   omega
 have := key w 0 n
 unfold nat256
 rw [this, Nat.mod_eq_of_lt h]; omega
structure Wt where
 n : Int
 ip : Int
 asked : Int
def wC (w : Wt) : List Value := [.int .i64 w.n, .int .u32 w.ip, .int .i64 w.asked]
theorem wC_w (w : Wt) : (wC w).length = 3 := rfl
theorem wC_plain {w : Wt} : ∀ v ∈ wC w, plain v = true := by
 intro v hv
 simp only [wC, List.mem_cons, List.not_mem_nil, or_false] at hv
 rcases hv with rfl | rfl | rfl <;> rfl
abbrev Td := Int × M6
def tC (t : Td) : List Value := [.int .u32 t.1, .int .u8 t.2.a, .int .u8 t.2.b, .int .u8 t.2.c, .int .u8 t.2.d, .int .u8 t.2.e, .int .u8 t.2.f]
theorem tC_w (t : Td) : (tC t).length = 7 := rfl
theorem tC_plain {t : Td} : ∀ v ∈ tC t, plain v = true := by
 intro v hv
 simp only [tC, List.mem_cons, List.not_mem_nil, or_false] at hv
 rcases hv with rfl | rfl | rfl | rfl | rfl | rfl | rfl <;> rfl
theorem wt_a : Try.prog.cellsOf 57 = 3 := by kernel_rfl
theorem wt_z : (zc Try.prog 57).length = 3 := by kernel_rfl
theorem wt_b : Try.prog.bytesOf 57 ≤ 32 := by rw [show Try.prog.bytesOf 57 = 24 by kernel_rfl]; omega
theorem tt_a : Try.prog.cellsOf 97 = 7 := by kernel_rfl
theorem tt_z : (zc Try.prog 97).length = 7 := by kernel_rfl
theorem tt_b : Try.prog.bytesOf 97 ≤ 32 := by rw [show Try.prog.bytesOf 97 = 12 by kernel_rfl]; omega
def seenA (b : Nat) (W : List Wt) (M : List Td) : Asn := exs fun x : Sl × Sl => star [row b 50 [x.1.v, x.2.v], Hw.own 57 3 x.1 (W.flatMap wC), Hw.own 97 7 x.2 (M.flatMap tC)]
section
variable {L : List Asn} {h : Hp} {b : Nat} {W : List Wt} {M : List Td}
theorem seen_open (hs : Sat (L ++ [seenA b W M]) h) : ∃ s m, Sat (L ++ [row b 50 [Sl.v s, Sl.v m], Hw.own 57 3 s (W.flatMap wC), Hw.own 97 7 m (M.flatMap tC)]) h := by
 obtain ⟨⟨s, m⟩, hs⟩ := hs.exOut
 have hs : Sat (L ++ [star [row b 50 [s.v, m.v], Hw.own 57 3 s (W.flatMap wC), Hw.own 97 7 m (M.flatMap tC)]]) h := hs
 exact ⟨s, m, hs.open⟩
theorem seen_shut {s m : Sl} (hs : Sat (L ++ [row b 50 [s.v, m.v], Hw.own 57 3 s (W.flatMap wC), Hw.own 97 7 m (M.flatMap tC)]) h) : Sat (L ++ [seenA b W M]) h := by
 have h2 := hs.close
 unfold seenA
 exact h2.exIn (s, m)
def firstW (ip : Int) (W : List Wt) (i : Nat) (w : Wt) : Prop := W[i]? = some w ∧ w.ip = ip ∧ ∀ x ∈ W.take i, x.ip ≠ ip
theorem s_at {ip : Int} {K : Int → Hp → Prop} (hs : Sat (L ++ [seenA b W M]) h) (hl : W.length ≤ 2000000) (h0 : (∀ x ∈ W, x.ip ≠ ip) → K (-1) h) (h1 : ∀ i w, firstW ip W i w → K (i : Nat) h) : C14 (some (bk b)) ip h K := by
 apply S14; unfold N14 N14_l0
 obtain ⟨s, m, g⟩ := seen_open hs
 have sn := g.elemN 1 rfl wC_w (by decide)
 refine loopP_inv (fun (z : Int) hc => hc = h ∧ ∃ i : Nat, z = i ∧ i ≤ W.length ∧ ∀ x ∈ W.take i, x.ip ≠ ip) (fun z _ => W.length - z.toNat) ?_ ⟨rfl, 0, rfl, Nat.zero_le _, by simp⟩
 rintro z hc ⟨rfl, i, rfl, hi, hne⟩
 unfold N14_l0_B N14_l0_b
 dsimp only
 simp only [nn_some']
 refine g.lL 0 (k := 0) rfl rfl ?_
 by_cases hlt : i < W.length
 ·rw [show decide ((i : Int) < ((s.n : Nat) : Int)) = true from decide_eq_true (by omega), cond_true]
  refine g.lL 0 (k := 0) rfl rfl ?_
  have hx : W[i]? = some W[i] := List.getElem?_eq_getElem hlt
  have htk : W.take (i + 1) = W.take i ++ [W[i]] := List.take_succ_eq_append_getElem hlt
  generalize W[i] = x at hx htk
  refine g.elem 1 rfl wC_w (by decide) hx rfl ?_
  intro r hr rd
  simp only [add_bk, Int.toNat_natCast]
  simp only [add_mk]
  refine xI_of (rd rfl) ?_
  by_cases he : x.ip = ip
  ·rw [show (x.ip == ip) = true by simp [he], cond_true]
   exact h1 i x ⟨hx, he, hne⟩
  ·rw [show (x.ip == ip) = false by simp [he], cond_false]
   rw [nat_succ64 (by omega)]
   refine ⟨⟨by trivial, i + 1, rfl, hlt, ?_⟩, by omega⟩
   intro y hy
   rw [htk] at hy
   rcases List.mem_append.1 hy with hy | hy
   ·exact hne y hy
   ·simp at hy; rw [hy]; exact he
 ·rw [show decide ((i : Int) < ((s.n : Nat) : Int)) = false from decide_eq_false (by omega), cond_false]
  rw [List.take_of_length_le (by omega)] at hne
  exact h0 hne
theorem s_without {i : Nat} {K : Hp → Prop} (hs : Sat (L ++ [seenA b W M]) h) (hl : W.length ≤ 2000000) (hi : i < W.length) (hK : ∀ h', Sat (L ++ [seenA b (W.eraseIdx i) M]) h' → K h') : C45 (some (bk b)) (i : Int) h K := by
 apply S45; unfold N45 N45_l0
 obtain ⟨s, m, g⟩ := seen_open hs
 have sn := g.elemN 1 rfl wC_w (by decide)
 have g0 : Sat (L ++ [row b 50 [Sl.v s, Sl.v m], Hw.own 57 3 s (W.flatMap wC), Hw.own 97 7 m (M.flatMap tC), Hw.own 57 3 ⟨none, 0, 0⟩ (((W.take 0).eraseIdx i).flatMap wC)]) h := by
  have := g.addNil 57 3
  simpa using this
 refine loopP_inv (fun (z : Sl × Int) hc => ∃ k : Nat, z.2 = k ∧ k ≤ W.length ∧ Sat (L ++ [row b 50 [Sl.v s, Sl.v m], Hw.own 57 3 s (W.flatMap wC), Hw.own 97 7 m (M.flatMap tC), Hw.own 57 3 z.1 (((W.take k).eraseIdx i).flatMap wC)]) hc) (fun z _ => W.length - z.2.toNat) ?_ ⟨0, rfl, Nat.zero_le _, g0⟩
 rintro ⟨acc, z⟩ hc ⟨k, hz, hk, g1⟩
 simp only at hz g1
 subst hz
 unfold N45_l0_B N45_l0_b
 dsimp only
 simp only [nn_some']
 refine g1.lL 0 (k := 0) rfl rfl ?_
 by_cases hlt : k < W.length
 ·rw [show decide ((k : Int) < ((s.n : Nat) : Int)) = true from decide_eq_true (by omega), cond_true, nat_succ64 (by omega)]
  have hx : W[k]? = some W[k] := List.getElem?_eq_getElem hlt
  have htk : W.take (k + 1) = W.take k ++ [W[k]] := List.take_succ_eq_append_getElem hlt
  generalize W[k] = y at hx htk
  by_cases hki : k = i
  ·subst hki
   rw [show ((k : Int) != (k : Int)) = false by simp, cond_false]
   refine ⟨⟨k + 1, rfl, hlt, ?_⟩, by omega⟩
   rw [htk, List.eraseIdx_append_of_length_le (by rw [List.length_take]; omega)]
   have e : (W.take k).eraseIdx k = W.take k := List.eraseIdx_of_length_le (by rw [List.length_take]; omega)
   rw [e] at g1
   have e2 : [y].eraseIdx (k - (W.take k).length) = [] := by rw [List.length_take, show k - min k W.length = 0 by omega]; rfl
   rw [e2, List.append_nil]
   exact g1
  ·rw [show ((k : Int) != (i : Int)) = true by simp; omega, cond_true]
   refine g1.lL 0 (k := 0) rfl rfl ?_
   refine g1.elem 1 rfl wC_w (by decide) hx rfl ?_
   intro r hr rd
   simp only [add_bk, Int.toNat_natCast]
   simp only [add_mk]
   refine xI_of (rd (k := 0) rfl) ?_
   refine xI_of (rd rfl) ?_
   refine xI_of (rd rfl) ?_
   have an := g1.elemN 3 rfl wC_w (by decide)
   have an2 : ((W.take k).eraseIdx i).length ≤ 2000000 := by
    have := List.length_eraseIdx_le (W.take k) i
    rw [List.length_take] at this; omega
   refine g1.push 3 rfl (k := 1) (ns := wC y) wt_a wt_z rfl wC_plain ?_ ?_
   ·have : (acc.n + 1) * 2 * Try.prog.bytesOf 57 ≤ (acc.n + 1) * 2 * 32 := Nat.mul_le_mul_left _ wt_b
    omega
   ·intro acc' h2 g2 _
    refine ⟨⟨k + 1, rfl, hlt, ?_⟩, by omega⟩
    have e3 : ((W.take (k + 1)).eraseIdx i).flatMap wC = ((W.take k).eraseIdx i).flatMap wC ++ wC y := by
     rw [htk]
     rcases Nat.lt_or_ge i k with hik | hik
     ·rw [List.eraseIdx_append_of_lt_length (by rw [List.length_take]; omega), List.flatMap_append]; simp
     ·rw [List.eraseIdx_append_of_length_le (by rw [List.length_take]; omega)]
      have e4 : [y].eraseIdx (i - (W.take k).length) = [y] := List.eraseIdx_of_length_le (by rw [List.length_take, List.length_singleton]; omega)
      have e5 : (W.take k).eraseIdx i = W.take k := List.eraseIdx_of_length_le (by rw [List.length_take]; omega)
      rw [e4, e5, List.flatMap_append]; simp
    rw [e3]
    exact g2
 ·rw [show decide ((k : Int) < ((s.n : Nat) : Int)) = false from decide_eq_false (by omega), cond_false]
  have : k = W.length := by omega
  subst this
  rw [List.take_length] at g1
  refine g1.st 0 (k := 0) rfl (by simp) rfl ?_
  intro h2 g2
  exact hK h2 (seen_shut (s := acc) (m := m) (g2.sel [0, 3, 2] (by decide) rfl))
def heardM (ip : Int) (mac : M6) (M : List Td) : List Td := M.filter (fun t => t.1 != ip) ++ [(ip, mac)]
theorem s_hears {op si di : Int} {s6 d6 : M6} {K : Hp → Prop} (hs : Sat (L ++ [seenA b W M]) h) (hl : M.length ≤ 2000000) (hK : ∀ h', Sat (L ++ [seenA b W (heardM si s6 M)]) h' → K h') : C17 (some (bk b)) op s6.a s6.b s6.c s6.d s6.e s6.f si d6.a d6.b d6.c d6.d d6.e d6.f di h K := by
 apply S17; unfold N17
 obtain ⟨s, m, g⟩ := seen_open hs
 have sn := g.elemN 2 rfl tC_w (by decide)
 refine g.nw ?_
 intro z h0 g0 _
 have g0 : Sat (L ++ [row b 50 [Sl.v s, Sl.v m], Hw.own 57 3 s (W.flatMap wC), Hw.own 97 7 m (M.flatMap tC), row z 42 (arpC op s6 si d6 di)]) h0 := g0
 have g1 := g0.addNil 97 7
 unfold N17_l0
 refine loopP_inv (fun (y : Sl × Int) hc => ∃ k : Nat, y.2 = k ∧ k ≤ M.length ∧ Sat (L ++ [row b 50 [Sl.v s, Sl.v m], Hw.own 57 3 s (W.flatMap wC), Hw.own 97 7 m (M.flatMap tC), row z 42 (arpC op s6 si d6 di), Hw.own 97 7 y.1 (((M.take k).filter fun t => t.1 != si).flatMap tC)]) hc) (fun y _ => M.length - y.2.toNat) ?_ ⟨0, rfl, Nat.zero_le _, g1⟩
 rintro ⟨acc, y⟩ hc ⟨k, hy, hk, g2⟩
 simp only at hy g2
 subst hy
 unfold N17_l0_B N17_l0_b
 dsimp only
 simp only [nn_some', add_bk]
 refine g2.lL 0 rfl rfl ?_
 have an := g2.elemN 4 rfl tC_w (by decide)
 have an2 : ((M.take k).filter fun t => t.1 != si).length ≤ 2000000 := by
  have := List.length_filter_le (fun t : Td => t.1 != si) (M.take k)
  rw [List.length_take] at this; omega
 have room : (acc.n + 1) * 2 * Try.prog.bytesOf 97 ≤ 2 ^ 48 := by
  have : (acc.n + 1) * 2 * Try.prog.bytesOf 97 ≤ (acc.n + 1) * 2 * 32 := Nat.mul_le_mul_left _ tt_b
  omega
 by_cases hlt : k < M.length
 ·rw [show decide ((k : Int) < ((m.n : Nat) : Int)) = true from decide_eq_true (by omega), cond_true, nat_succ64 (by omega)]
  refine g2.lL 0 rfl rfl ?_
  have hx : M[k]? = some M[k] := List.getElem?_eq_getElem hlt
  have htk : M.take (k + 1) = M.take k ++ [M[k]] := List.take_succ_eq_append_getElem hlt
  generalize M[k] = t at hx htk
  refine g2.elem 2 rfl tC_w (by decide) hx rfl ?_
  intro r hr rd
  simp only [add_bk, Int.toNat_natCast]
  refine xI_of (rd (k := 0) rfl) ?_
  refine g2.lI 3 rfl rfl ?_
  by_cases hts : t.1 = si
  ·rw [show (t.1 != si) = false by simp [hts], cond_false]
   refine ⟨⟨k + 1, rfl, hlt, ?_⟩, by omega⟩
   have e : (M.take (k + 1)).filter (fun t => t.1 != si) = (M.take k).filter fun t => t.1 != si := by rw [htk, List.filter_append]; simp [hts]
   rw [e]; exact g2
  ·rw [show (t.1 != si) = true by simp [hts], cond_true]
   refine g2.lL 0 rfl rfl ?_
   refine g2.elem 2 rfl tC_w (by decide) hx rfl ?_
   intro r2 hr2 rd2
   simp only [add_bk]
   simp only [add_mk]
   refine xI_of (rd2 (k := 0) rfl) ?_
   refine xI_of (rd2 rfl) ?_
   refine xI_of (rd2 rfl) ?_
   refine xI_of (rd2 rfl) ?_
   refine xI_of (rd2 rfl) ?_
   refine xI_of (rd2 rfl) ?_
   refine xI_of (rd2 rfl) ?_
   refine g2.push 4 rfl (k := 1) (ns := tC t) tt_a tt_z rfl tC_plain room ?_
   intro acc' h3 g3 _
   refine ⟨⟨k + 1, rfl, hlt, ?_⟩, by omega⟩
   have e : ((M.take (k + 1)).filter (fun t => t.1 != si)).flatMap tC = ((M.take k).filter fun t => t.1 != si).flatMap tC ++ tC t := by rw [htk, List.filter_append, List.flatMap_append]; simp [hts]
   rw [e]; exact g3
 ·rw [show decide ((k : Int) < ((m.n : Nat) : Int)) = false from decide_eq_false (by omega), cond_false]
  have : k = M.length := by omega
  subst this
  rw [List.take_length] at g2
  refine g2.lI 3 rfl rfl ?_
  refine g2.lI 3 rfl rfl ?_
  refine g2.lI 3 rfl rfl ?_
  refine g2.lI 3 rfl rfl ?_
  refine g2.lI 3 rfl rfl ?_
  refine g2.lI 3 rfl rfl ?_
  refine g2.lI 3 rfl rfl ?_
  refine g2.push 4 rfl (k := 1) (ns := tC (si, s6)) tt_a tt_z rfl tC_plain room ?_
  intro acc' h3 g3 _
  have g4 : Sat (L ++ [row b 50 [Sl.v s, Sl.v m], Hw.own 57 3 s (W.flatMap wC), Hw.own 97 7 acc' ((heardM si s6 M).flatMap tC)]) h3 := by
   have e : (heardM si s6 M).flatMap tC = (M.filter fun t => t.1 != si).flatMap tC ++ tC (si, s6) := by unfold heardM; rw [List.flatMap_append]; simp
   rw [e]; exact g3.sel [0, 1, 4] (by decide) rfl
  refine g4.st 0 rfl (by simp) rfl ?_
  intro h4 g5
  exact hK h4 (seen_shut (s := s) (m := acc') g5)
end
theorem c_macAt {p : Sl} {l : List UInt8} {m : M6} {i : Nat} {h : Hp} {K : Int → Int → Int → Int → Int → Int → Hp → Prop} (H : RdB h p l) (hm : m.ok) (hl : ∀ k, k < 6 → l[i + k]? = (mb m)[k]?) (hi : i ≤ 1000)
  (hK : ∀ h', Ext none' h h' → K m.a m.b m.c m.d m.e m.f h') : C67 p (i : Int) h K := by
 apply S67; unfold N67
 obtain ⟨L, hs, hL⟩ := Sat.base h
 refine Sat.nw hs ?_
 intro b0 h0 g0 he0
 have H0 := H.ext he0
 have at_ : ∀ {k : Nat} {x : Int} {v : Int} {F : Int → Prop}, k < 6 → x = ((i + k : Nat) : Int) → (∀ b, (mb m)[k]? = some b → (b.toNat : Int) = v) → F v → idx x p.n (nn p.p fun a => xI .u8 (cell h0 (a.add (x.toNat * 1))) F) := by
  intro k x v F hk hx hv hF
  have h1 := hl k hk
  obtain ⟨b, hb⟩ : ∃ b, (mb m)[k]? = some b := get_of_lt (by show k < 6; exact hk)
  rw [hb] at h1
  have hil := lt_of_get h1
  refine H0.at hx hil ?_
  rw [List.getElem?_eq_getElem hil] at h1
  rw [Option.some.inj h1, hv b hb]; exact hF
 obtain ⟨m1, m2, m3, m4, m5, m6⟩ := hm
 refine at_ (k := 0) (by decide) rfl (fun b hb => by cases hb; exact putd_u8 m1.1 m1.2) ?_
 refine at_ (k := 1) (by decide) (by rw [wi64i (by omega) (by omega)]; omega) (fun b hb => by cases hb; exact putd_u8 m2.1 m2.2) ?_
 refine at_ (k := 2) (by decide) (by rw [wi64i (by omega) (by omega)]; omega) (fun b hb => by cases hb; exact putd_u8 m3.1 m3.2) ?_
 refine at_ (k := 3) (by decide) (by rw [wi64i (by omega) (by omega)]; omega) (fun b hb => by cases hb; exact putd_u8 m4.1 m4.2) ?_
 refine at_ (k := 4) (by decide) (by rw [wi64i (by omega) (by omega)]; omega) (fun b hb => by cases hb; exact putd_u8 m5.1 m5.2) ?_
 refine at_ (k := 5) (by decide) (by rw [wi64i (by omega) (by omega)]; omega) (fun b hb => by cases hb; exact putd_u8 m6.1 m6.2) ?_
 have hs := g0
 simp only [List.nil_append] at hs
 repeat (first | (refine Sat.nw hs ?_; intro _ _ hs _; simp only [List.cons_append, List.nil_append] at hs) | (refine Sat.st hs 0 rfl (by simp) rfl ?_; intro _ hs; simp only [List.set_cons_zero, List.set_cons_succ] at hs) | (refine Sat.lI hs 0 rfl rfl ?_) | (refine Sat.lL hs 0 rfl rfl ?_) | (refine Sat.lP hs 0 rfl rfl ?_) | (refine Sat.lB hs 0 rfl rfl ?_) | (refine Sat.lS hs 0 rfl rfl ?_) | (refine Sat.lM hs 0 rfl rfl ?_) | (refine Sat.lA hs 0 rfl rfl ?_) | (simp only [nn_some', add_bk]))
 exact hK _ (hL hs)
theorem c_ipAt {p : Sl} {l : List UInt8} {n : Int} {i : Nat} {h : Hp} {K : Int → Hp → Prop} (H : RdB h p l) (hl : l.length = 28) (hi : i + 4 ≤ 28) (hn : 0 ≤ n ∧ n < 4294967296) (hb : (l.drop i).take 4 = be n.toNat 4) (hK : K n h) : C68 p (i : Int) h K := by
 apply S68; unfold N68
 refine c_Get H (by omega) ?_
 have e : getV l (i : Int) 4 = n.toNat := by
  unfold getV
  rw [if_neg (by omega), if_neg (by rw [hl]; omega)]
  show nat256 ((l.drop i).take 4) = _
  rw [hb, nat_be _ _ (by omega)]
 rw [e, wu32i (by omega) (by omega), Int.toNat_of_nonneg hn.1]
 exact hK
theorem c_dec {p : Sl} {op si di : Int} {s6 d6 : M6} {h : Hp} {K : Int → Int → Int → Int → Int → Int → Int → Int → Int → Int → Int → Int → Int → Int → Int → Int → Hp → Prop} (H : RdB h p (arpL op s6 si d6 di)) (ho : op = 1 ∨ op = 2) (hm1 : s6.ok) (hm2 : d6.ok) (hi : 0 ≤ si ∧ si < 4294967296) (hd : 0 ≤ di ∧ di < 4294967296)
  (hK : ∀ h', Ext none' h h' → K op s6.a s6.b s6.c s6.d s6.e s6.f si d6.a d6.b d6.c d6.d d6.e d6.f di 0 h') : C43 p h K := by
 apply S43; unfold N43
 have hn := H.n
 rw [arpL_len] at hn
 have hc := H.c
 obtain ⟨L, hs, hL⟩ := Sat.base h
 refine Sat.nw hs ?_
 intro b0 h0 g0 he0
 have g0 : Sat (L ++ [row b0 42 [.int .i64 0, .int .u8 0, .int .u8 0, .int .u8 0, .int .u8 0, .int .u8 0, .int .u8 0, .int .u32 0, .int .u8 0, .int .u8 0, .int .u8 0, .int .u8 0, .int .u8 0, .int .u8 0, .int .u32 0]]) h0 := g0
 rw [show decide (((p.n : Nat) : Int) < 28) = false from decide_eq_false (by omega), cond_false]
 have H0 := H.ext he0
 refine bd_nat (i := 6) (by omega) ?_
 have hsub : ∀ {h'}, RdB h' p (arpL op s6 si d6 di) → RdB h' ⟨sadr p.p p.c 0 1, 6, p.c⟩ arpH := by
  intro h' H'
  have := H'.sub (lo := 0) (hi := 6) (by omega) (by rw [arpL_len]; omega)
  exact this
 refine (hsub H0).b2s ?_
 refine c_rhead g0 fun h1 x g1 he1 => ?_
 have H1 := H0.ext he1
 refine ⟨(hsub H1).b2s ⟨rfl, rfl⟩, ?_⟩
 refine (g1.own 1 rfl).rdb.b2s ?_
 simp only [beq_self_eq_true, Bool.not_true, cond_false]
 have a6 : (arpL op s6 si d6 di)[6]? = some 0 := rfl
 have a7 : (arpL op s6 si d6 di)[7]? = some (UInt8.ofNat op.toNat) := rfl
 have at_ : ∀ {k : Nat} {x : Int} {b : UInt8} {F : Int → Prop}, (arpL op s6 si d6 di)[k]? = some b → x = (k : Int) → F (b.toNat : Int) → idx x p.n (nn p.p fun a => xI .u8 (cell h1 (a.add (x.toNat * 1))) F) := by
  intro k x b F hk hx hF
  have hil := lt_of_get hk
  refine H1.at hx hil ?_
  rw [List.getElem?_eq_getElem hil] at hk
  rw [Option.some.inj hk]; exact hF
 have eop : (((UInt8.ofNat op.toNat).toNat : Nat) : Int) = op := by rcases ho with rfl | rfl <;> rfl
 refine at_ a6 rfl ?_
 rw [show (((0 : UInt8).toNat : Int) != 0) = false from rfl, cond_false]
 refine at_ a7 rfl ?_
 rw [eop, show decide (op < 1) = false from decide_eq_false (by omega), cond_false]
 refine at_ a7 rfl ?_
 rw [eop, show decide (op > 2) = false from decide_eq_false (by omega)]
 unfold N43_j0
 rw [cond_false]
 unfold N43_j1
 obtain ⟨a, hpa⟩ : ∃ a, p.p = some a := by
  obtain ⟨a, ha, _⟩ := H.get (i := 7) (by rw [arpL_len]; omega)
  exact ⟨a, ha⟩
 have c7 : ∀ {h'}, RdB h' p (arpL op s6 si d6 di) → cell h' (a.add 7) = some (.int .u8 op) := by
  intro h' H'
  obtain ⟨a', ha', hc'⟩ := H'.r 7 (.int .u8 op) (by rw [bc_get, a7]; show some (Value.int .u8 _) = _; rw [eop])
  rw [hpa] at ha'; cases ha'; exact hc'
 refine idx_of (by omega) (by omega) ?_
 rw [hpa]
 simp only [nn_some', show ((7 : Int).toNat * 1) = 7 from rfl]
 refine xI_of (c7 H1) ?_
 rw [wi64i (x := op) (by omega) (by omega)]
 refine c_macAt (i := 8) (m := s6) H1 hm1 (fun k hk => by
  have : k = 0 ∨ k = 1 ∨ k = 2 ∨ k = 3 ∨ k = 4 ∨ k = 5 := by omega
  rcases this with rfl | rfl | rfl | rfl | rfl | rfl <;> rfl) (by omega) fun h2 he2 => ?_
 have H2 := H1.ext he2
 refine ⟨⟨rfl, rfl⟩, xI_of (c7 H2) ⟨rfl, rfl⟩, ?_⟩
 refine c_ipAt (i := 14) H2 arpL_len (by omega) hi rfl ?_
 refine ⟨⟨rfl, rfl⟩, xI_of (c7 H2) ⟨rfl, rfl⟩, ?_⟩
 refine c_macAt (i := 18) (m := d6) H2 hm2 (fun k hk => by
  have : k = 0 ∨ k = 1 ∨ k = 2 ∨ k = 3 ∨ k = 4 ∨ k = 5 := by omega
  rcases this with rfl | rfl | rfl | rfl | rfl | rfl <;> rfl) (by omega) fun h3 he3 => ?_
 have H3 := H2.ext he3
 refine ⟨⟨rfl, rfl⟩, xI_of (c7 H3) ⟨rfl, rfl⟩, ?_⟩
 refine c_ipAt (i := 24) H3 arpL_len (by omega) hd rfl ?_
 refine ⟨⟨rfl, rfl⟩, xI_of (c7 H3) ⟨rfl, rfl⟩, ?_⟩
 have g4 : Sat (L ++ [row b0 42 [.int .i64 0, .int .u8 0, .int .u8 0, .int .u8 0, .int .u8 0, .int .u8 0, .int .u8 0, .int .u32 0, .int .u8 0, .int .u8 0, .int .u8 0, .int .u8 0, .int .u8 0, .int .u8 0, .int .u32 0]]) h3 := ((g1.ext he2).ext he3).sel [0] (by decide) rfl
 have hs := g4
 repeat (first | (refine Sat.nw hs ?_; intro _ _ hs _; simp only [List.cons_append, List.nil_append] at hs) | (refine Sat.st hs 0 rfl (by simp) rfl ?_; intro _ hs; simp only [List.set_cons_zero, List.set_cons_succ] at hs) | (refine Sat.lI hs 0 rfl rfl ?_) | (refine Sat.lL hs 0 rfl rfl ?_) | (refine Sat.lP hs 0 rfl rfl ?_) | (refine Sat.lB hs 0 rfl rfl ?_) | (refine Sat.lS hs 0 rfl rfl ?_) | (refine Sat.lM hs 0 rfl rfl ?_) | (refine Sat.lA hs 0 rfl rfl ?_) | (simp only [nn_some', add_bk]))
 exact hK _ (hL hs)
end Go.Proofs.Ytkfccpabigikkaa

set_option linter.unusedVariables false
set_option maxRecDepth 100000
namespace Go.Proofs.Ytkfccpabigikkaa
open Go Go.Hw
noncomputable def B15 : Code := match Try.f15.body with | some c => c | none => .skip
def N15_l1_b (x0 : Option Addr) (x1 : Sl) (x2 x3 x9 x13 : Int) (Φ : Int → Int → Hp → Prop) (x16 x17 : Int) (h : Hp) (K2 : Int → Hp → Prop) : Prop :=
 nn x0 fun a0 =>
 xL (cell h a0) fun s0 =>
 bif (decide (x17 < ((s0.n : Nat) : Int))) then
 nn x0 fun a1 =>
 xL (cell h a1) fun s1 =>
 idx x17 s1.n <|
 nn s1.p fun a2 =>
 xI .i64 (cell h (a2.add (x17.toNat * 3))) fun n0 =>
 bif (n0 == (IntKind.wrap .i64 x13)) then
 Φ x17 (IntKind.wrap .i64 (x17 + 1)) h
 else
 Φ x16 (IntKind.wrap .i64 (x17 + 1)) h
 else
 K2 x16 h
def N15_l1_B (x0 : Option Addr) (x1 : Sl) (x2 x3 x9 x13 : Int) (K2 : Int → Hp → Prop) (s : Sg.T [(16, .c (.int .i64)), (17, .c (.int .i64))]) (h : Hp) (Φ : Sg.T [(16, .c (.int .i64)), (17, .c (.int .i64))] → Hp → Prop) : Prop :=
 N15_l1_b x0 x1 x2 x3 x9 x13 (fun x16 x17 h => Φ (x16, x17) h) s.1 s.2 h K2
def N15_l1 (x0 : Option Addr) (x1 : Sl) (x2 x3 x9 x13 x16 x17 : Int) (h : Hp) (K2 : Int → Hp → Prop) : Prop :=
 loopP (N15_l1_B x0 x1 x2 x3 x9 x13 K2) (x16, x17) h
noncomputable def N15_l1_t : Xf := loopT [(0, .c (.ptr)), (1, .c (.slice)), (2, .c (.int .i64)), (3, .c (.int .u32)), (9, .c (.int .i64)), (13, .c (.int .u64))] [(16, .c (.int .i64)), (17, .c (.int .i64))] (codeAt B15 [1, 0, 1, 0, 0, 1, 0, 0, 1, 1, 1, 0, 1, 0, 1, 0, 1, 0, 0]) fun F Q => N15_l1_B F.1 F.2.1 F.2.2.1 F.2.2.2.1 F.2.2.2.2.1 F.2.2.2.2.2 (fun o0 h' => Q (.exit 2) (Sg.env [(16, .c (.int .i64))] o0) h')
theorem N15_l1_ok : Sound Try.prog Try.f15.ntmps N15_l1_t (codeAt B15 [1, 0, 1, 0, 0, 1, 0, 0, 1, 1, 1, 0, 1, 0, 1, 0, 1, 0]) := by
 refine loop_sound (fun e => match e with | .exit 2 => [16] | _ => []) (by kernel_rfl) ?_
 intro F Q s h Φ hb
 refine den_sound hE hm _ .leaf _ _ _ (annOk_leaf) ?_
 refine cast ?_ hb
 kernel_rfl
def N15_l3_b (x0 : Option Addr) (x1 : Sl) (x2 x3 x9 x15 : Int) (Φ : Bool → Int → Hp → Prop) (x18 : Bool) (x19 : Int) (h : Hp) (K4 : Bool → Hp → Prop) : Prop :=
 nn x0 fun a0 =>
 xL (cell h (a0.add 1)) fun s0 =>
 bif (decide (x19 < ((s0.n : Nat) : Int))) then
 bif x18 then
 Φ true (IntKind.wrap .i64 (x19 + 1)) h
 else
 nn x0 fun a1 =>
 xL (cell h (a1.add 1)) fun s1 =>
 idx x19 s1.n <|
 nn s1.p fun a2 =>
 xI .u32 (cell h (a2.add (x19.toNat * 7))) fun n0 =>
 bif (n0 == x15) then
 nn x0 fun a3 =>
 xL (cell h (a3.add 1)) fun s2 =>
 idx x19 s2.n <|
 nn s2.p fun a4 =>
 xI .u8 (cell h ((a4.add (x19.toNat * 7)).add 1)) fun n1 =>
 xI .u8 (cell h ((a4.add (x19.toNat * 7)).add 2)) fun n2 =>
 xI .u8 (cell h ((a4.add (x19.toNat * 7)).add 3)) fun n3 =>
 xI .u8 (cell h ((a4.add (x19.toNat * 7)).add 4)) fun n4 =>
 xI .u8 (cell h ((a4.add (x19.toNat * 7)).add 5)) fun n5 =>
 xI .u8 (cell h ((a4.add (x19.toNat * 7)).add 6)) fun n6 =>
 idx x9 x1.n <|
 nn x1.p fun a5 =>
 xI .u8 (cell h (a5.add (x9.toNat * 8))) fun n7 =>
 xI .u8 (cell h ((a5.add (x9.toNat * 8)).add 1)) fun n8 =>
 xI .u8 (cell h ((a5.add (x9.toNat * 8)).add 2)) fun n9 =>
 xI .u8 (cell h ((a5.add (x9.toNat * 8)).add 3)) fun n10 =>
 xI .u8 (cell h ((a5.add (x9.toNat * 8)).add 4)) fun n11 =>
 xI .u8 (cell h ((a5.add (x9.toNat * 8)).add 5)) fun n12 =>
 Φ ((n1 == n7) && ((n2 == n8) && ((n3 == n9) && ((n4 == n10) && ((n5 == n11) && ((n6 == n12) && true)))))) (IntKind.wrap .i64 (x19 + 1)) h
 else
 Φ false (IntKind.wrap .i64 (x19 + 1)) h
 else
 K4 x18 h
def N15_l3_B (x0 : Option Addr) (x1 : Sl) (x2 x3 x9 x15 : Int) (K4 : Bool → Hp → Prop) (s : Sg.T [(18, .c (.bool)), (19, .c (.int .i64))]) (h : Hp) (Φ : Sg.T [(18, .c (.bool)), (19, .c (.int .i64))] → Hp → Prop) : Prop :=
 N15_l3_b x0 x1 x2 x3 x9 x15 (fun x18 x19 h => Φ (x18, x19) h) s.1 s.2 h K4
def N15_l3 (x0 : Option Addr) (x1 : Sl) (x2 x3 x9 x15 : Int) (x18 : Bool) (x19 : Int) (h : Hp) (K4 : Bool → Hp → Prop) : Prop :=
 loopP (N15_l3_B x0 x1 x2 x3 x9 x15 K4) (x18, x19) h
noncomputable def N15_l3_t : Xf := loopT [(0, .c (.ptr)), (1, .c (.slice)), (2, .c (.int .i64)), (3, .c (.int .u32)), (9, .c (.int .i64)), (15, .c (.int .u32))] [(18, .c (.bool)), (19, .c (.int .i64))] (codeAt B15 [1, 0, 1, 0, 0, 1, 0, 0, 1, 1, 1, 1, 1, 0, 1, 0, 0]) fun F Q => N15_l3_B F.1 F.2.1 F.2.2.1 F.2.2.2.1 F.2.2.2.2.1 F.2.2.2.2.2 (fun o0 h' => Q (.exit 4) (Sg.env [(18, .c (.bool))] o0) h')
theorem N15_l3_ok : Sound Try.prog Try.f15.ntmps N15_l3_t (codeAt B15 [1, 0, 1, 0, 0, 1, 0, 0, 1, 1, 1, 1, 1, 0, 1, 0]) := by
 refine loop_sound (fun e => match e with | .exit 4 => [18] | _ => []) (by kernel_rfl) ?_
 intro F Q s h Φ hb
 refine den_sound hE hm _ (.two .leaf (.two (.one (.ord [0, 1, 2, 3, 4, 5, 6, 7, 8, 9, 10, 11, 12, 13, 14, 15, 16, 17, 18, 19, 20, 21, 22, 23, 24, 25, 26, 27, 28, 29])) .leaf)) _ _ _ (⟨annOk_leaf, ⟨trivial, annOk_leaf⟩⟩) ?_
 refine cast ?_ hb
 kernel_rfl
def N15_j2 (x0 : Option Addr) (x1 : Sl) (x2 x3 x9 x15 : Int) (h : Hp) (Kn : Hp → Prop) (Kr : Bool → Hp → Prop) : Prop :=
 N15_l3 x0 x1 x2 x3 x9 x15 false 0 h
 (fun b0 h0 =>
 bif (!b0) then
 Kr false h0
 else
 idx x9 x1.n <|
 nn x1.p fun a0 =>
 xI .i64 (cell h0 ((a0.add (x9.toNat * 8)).add 6)) fun n0 =>
 bif (n0 != 2048) then
 Kr false h0
 else
 Kn h0)
noncomputable def N15_j2_t : Xf := pieceT [(0, .c (.ptr)), (1, .c (.slice)), (2, .c (.int .i64)), (3, .c (.int .u32)), (9, .c (.int .i64)), (15, .c (.int .u32))] (codeAt B15 [1, 0, 1, 0, 0, 1, 0, 0, 1, 1, 1, 1]) fun x h Q => N15_j2 x.1 x.2.1 x.2.2.1 x.2.2.2.1 x.2.2.2.2.1 x.2.2.2.2.2 h (fun h' => Q .normal (Sg.env [] ()) h') (fun o0 h' => Q .ret (Sg.env [(8, .c (.bool))] o0) h')
theorem N15_j2_ok : Sound Try.prog Try.f15.ntmps N15_j2_t (codeAt B15 [1, 0, 1, 0, 0, 1, 0, 0, 1, 1, 1, 1]) := by
 refine piece_sound (fun e => match e with | .normal => [] | .ret => [8] | _ => []) ?_
 intro x h Q hb
 refine den_sound hE hm _ (.two .leaf (.two (.two .leaf (.one (.xf N15_l3_t))) .leaf)) _ _ _ (⟨annOk_leaf, ⟨⟨annOk_leaf, N15_l3_ok⟩, annOk_leaf⟩⟩) ?_
 refine cast ?_ hb
 kernel_rfl
def N15_l0_b (x0 : Option Addr) (x1 : Sl) (x2 x3 : Int) (Φ : Int → Hp → Prop) (x9 : Int) (h : Hp) (K0 : Hp → Prop) (Kr : Bool → Hp → Prop) : Prop :=
 bif (decide (x9 < ((x1.n : Nat) : Int))) then
 idx x9 x1.n <|
 nn x1.p fun a0 =>
 xI .i64 (cell h ((a0.add (x9.toNat * 8)).add 6)) fun n0 =>
 bif (n0 == 2054) then
 idx x9 x1.n <|
 nn x1.p fun a1 =>
 xL (cell h ((a1.add (x9.toNat * 8)).add 7)) fun s0 =>
 C43 s0 h fun n1 n2 n3 n4 n5 n6 n7 n8 n9 n10 n11 n12 n13 n14 n15 n16 h0 =>
 nw h0 (.cells ⟨[.int .i64 0, .int .u8 0, .int .u8 0, .int .u8 0, .int .u8 0, .int .u8 0, .int .u8 0, .int .u32 0, .int .u8 0, .int .u8 0, .int .u8 0, .int .u8 0, .int .u8 0, .int .u8 0, .int .u32 0]⟩ 42) fun b0 h1 =>
 st h1 (bk b0) (.int .i64 n1) fun h2 =>
 st h2 ((bk b0).add 1) (.int .u8 n2) fun h3 =>
 st h3 ((bk b0).add 2) (.int .u8 n3) fun h4 =>
 st h4 ((bk b0).add 3) (.int .u8 n4) fun h5 =>
 st h5 ((bk b0).add 4) (.int .u8 n5) fun h6 =>
 st h6 ((bk b0).add 5) (.int .u8 n6) fun h7 =>
 st h7 ((bk b0).add 6) (.int .u8 n7) fun h8 =>
 st h8 ((bk b0).add 7) (.int .u32 n8) fun h9 =>
 st h9 ((bk b0).add 8) (.int .u8 n9) fun h10 =>
 st h10 ((bk b0).add 9) (.int .u8 n10) fun h11 =>
 st h11 ((bk b0).add 10) (.int .u8 n11) fun h12 =>
 st h12 ((bk b0).add 11) (.int .u8 n12) fun h13 =>
 st h13 ((bk b0).add 12) (.int .u8 n13) fun h14 =>
 st h14 ((bk b0).add 13) (.int .u8 n14) fun h15 =>
 st h15 ((bk b0).add 14) (.int .u32 n15) fun h16 =>
 bif (n16 != 0) then
 Kr false h16
 else
 xI .u32 (cell h16 ((bk b0).add 14)) fun n17 =>
 C14 x0 n17 h16 fun n18 h17 =>
 xI .i64 (cell h17 (bk b0)) fun n19 =>
 bif (n19 == 1) then
 bif (decide (n18 < 0)) then
 Kr false h17
 else
 nn x0 fun a2 =>
 xL (cell h17 a2) fun s1 =>
 idx n18 s1.n <|
 nn s1.p fun a3 =>
 xI .i64 (cell h17 ((a3.add (n18.toNat * 3)).add 2)) fun n20 =>
 bif (decide (n20 ≥ 3)) then
 Kr false h17
 else
 nn x0 fun a4 =>
 xL (cell h17 a4) fun s2 =>
 idx n18 s2.n <|
 nn s2.p fun a5 =>
 xI .i64 (cell h17 ((a5.add (n18.toNat * 3)).add 2)) fun n21 =>
 idx n18 s2.n <|
 nn s2.p fun a6 =>
 st h17 ((a6.add (n18.toNat * 3)).add 2) (.int .i64 (IntKind.wrap .i64 (n21 + 1))) fun h18 =>
 Φ (IntKind.wrap .i64 (x9 + 1)) h18
 else
 Φ (IntKind.wrap .i64 (x9 + 1)) h17
 else
 idx x9 x1.n <|
 nn x1.p fun a7 =>
 xL (cell h ((a7.add (x9.toNat * 8)).add 7)) fun s3 =>
 C44 s3 0 8 h fun n22 n23 h19 =>
 bif ((IntKind.wrap .i64 n22) != x2) then
 N15_l1 x0 x1 x2 x3 x9 n22 (-1) 0 h19
 (fun n24 h20 =>
 bif (decide (n24 < 0)) then
 Kr false h20
 else
 nn x0 fun a8 =>
 xL (cell h20 a8) fun s4 =>
 idx n24 s4.n <|
 nn s4.p fun a9 =>
 xI .u32 (cell h20 ((a9.add (n24.toNat * 3)).add 1)) fun n25 =>
 C45 x0 n24 h20 fun h21 =>
 N15_j2 x0 x1 x2 x3 x9 n25 h21
 (fun h22 =>
 Φ (IntKind.wrap .i64 (x9 + 1)) h22)
 (fun b1 h23 =>
 Kr b1 h23))
 else
 N15_j2 x0 x1 x2 x3 x9 x3 h19
 (fun h24 =>
 Φ (IntKind.wrap .i64 (x9 + 1)) h24)
 (fun b2 h25 =>
 Kr b2 h25)
 else
 K0 h
def N15_l0_B (x0 : Option Addr) (x1 : Sl) (x2 x3 : Int) (K0 : Hp → Prop) (Kr : Bool → Hp → Prop) (s : Sg.T [(9, .c (.int .i64))]) (h : Hp) (Φ : Sg.T [(9, .c (.int .i64))] → Hp → Prop) : Prop :=
 N15_l0_b x0 x1 x2 x3 (fun x9 h => Φ x9 h) s h K0 Kr
def N15_l0 (x0 : Option Addr) (x1 : Sl) (x2 x3 x9 : Int) (h : Hp) (K0 : Hp → Prop) (Kr : Bool → Hp → Prop) : Prop :=
 loopP (N15_l0_B x0 x1 x2 x3 K0 Kr) x9 h
noncomputable def N15_l0_t : Xf := loopT [(0, .c (.ptr)), (1, .c (.slice)), (2, .c (.int .i64)), (3, .c (.int .u32))] [(9, .c (.int .i64))] (codeAt B15 [1, 0, 1, 0, 0]) fun F Q => N15_l0_B F.1 F.2.1 F.2.2.1 F.2.2.2 (fun h' => Q (.exit 0) (Sg.env [] ()) h') (fun o0 h' => Q .ret (Sg.env [(8, .c (.bool))] o0) h')
theorem N15_l0_ok : Sound Try.prog Try.f15.ntmps N15_l0_t (codeAt B15 [1, 0, 1, 0]) := by
 refine loop_sound (fun e => match e with | .exit 0 => [] | .ret => [8] | _ => []) (by kernel_rfl) ?_
 intro F Q s h Φ hb
 refine den_sound hE hm _ (.two .leaf (.two (.one (.two .leaf (.two .leaf (.two .leaf (.two (.two .leaf (.two (.two .leaf (.two (.two .leaf (.one (.xf N15_l1_t))) .leaf)) .leaf)) (.xf N15_j2_t)))))) .leaf)) _ _ _ (⟨annOk_leaf, ⟨⟨annOk_leaf, ⟨annOk_leaf, ⟨annOk_leaf, ⟨⟨annOk_leaf, ⟨⟨annOk_leaf, ⟨⟨annOk_leaf, N15_l1_ok⟩, annOk_leaf⟩⟩, annOk_leaf⟩⟩, N15_j2_ok⟩⟩⟩⟩, annOk_leaf⟩⟩) ?_
 refine cast ?_ hb
 kernel_rfl
def N15 (x0 : Option Addr) (x1 : Sl) (x2 x3 : Int) (h : Hp) (K : Bool → Hp → Prop) : Prop :=
 N15_l0 x0 x1 x2 x3 0 h
 (fun h0 =>
 K true h0)
 (fun b0 h1 =>
 K b0 h1)
theorem S15 {x0 : Option Addr} {x1 : Sl} {x2 x3 : Int} {h : Hp} {K : Bool → Hp → Prop} (hn : N15 x0 x1 x2 x3 h K) : C15 x0 x1 x2 x3 h K := by
 refine calls_of_D Try.func15 (c := B15) rfl (by kernel_rfl) ?_
 refine den_sound hE hm _ (.two .leaf (.two (.two .leaf (.one (.xf N15_l0_t))) .leaf)) _ _ _ (⟨annOk_leaf, ⟨⟨annOk_leaf, N15_l0_ok⟩, annOk_leaf⟩⟩) ?_
 refine cast ?_ hn
 kernel_rfl
end Go.Proofs.Ytkfccpabigikkaa
