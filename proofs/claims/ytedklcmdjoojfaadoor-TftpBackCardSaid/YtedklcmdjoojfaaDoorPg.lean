/-
  copy, maps that are written, a string that is walked; all effects in one.
-/
import Derived.Test.YtedklcmdjoojfaaDoorPf
import Derived.Test.YtedklcmdjoojfaaDoorPc
import Derived.Test.YtedklcmdjoojfaaDoorRows
import Derived.Test.YtedklcmdjoojfaaDoorTie
import Derived.Test.YtedklcmdjoojfaaDoorCards
import Derived.Stop.LaidErr
import Derived.Lib.LaidTab
import Derived.Shelf.Vars
import Derived.SevenTiedAt
import Derived.Test.YtedklcmdjoojfaaDoorPd
set_option linter.unusedSimpArgs false
set_option linter.unusedVariables false
namespace Go.Ix
open Go Go.Hw
section
variable {P : Program} {E : Nat → Bool} {G : Nat} {h0 : Hp} {σ σ' : Sig} {H : CH} {h : Hp} {env : CE} {ρ : Env}
def cpX (P : Program) (H : CH) (e : TypeId) (s y : CV) : Option (CV × CH) :=
  match lnX y with
  | some m => match s with
    | .snil => match srX H (P.cellsOf e) (Nat.min m 0) y with
      | some _ => some (.int .i64 0, H)
      | none => none
    | .slc b o n _ => match srX H (P.cellsOf e) (Nat.min m n) y with
      | some l => match wrX H b o l with
        | some H' => some (.int .i64 (Nat.min m n : Nat), H')
        | none => none
      | none => none
    | _ => none
  | none => none
theorem cpX_ok (hh : HR P G h0 σ H h) {e : TypeId} {s y z : CV} {H' : CH} {p : Option Addr} {n c : Nat} {vy : Value} (hx : cpX P H e s y = some (z, H')) (hs : VR σ s (.slice p n c)) (hy : VR σ y vy) {F : Nat → Hp → Prop}
    (hF : ∀ r h', VR σ z (.int .i64 (r : Nat)) → HR P G h0 σ H' h' → F r h') : cpK P e ⟨p, n, c⟩ vy h F := by
  unfold cpX at hx
  split at hx
  · rename_i m hm
    unfold cpK
    refine lnX_ok hm hy ?_
    split at hx
    · split at hx
      · rename_i l hl
        cases hx
        unfold VR at hs; cases hs
        obtain ⟨vl, l1, l2⟩ := srX_ok hh hl hy
        refine l2 _ ?_
        refine hF _ h ?_ hh
        unfold VR
        have : Nat.min m 0 = 0 := Nat.min_eq_right (Nat.zero_le _)
        simp only [this]; rfl
      · cases hx
    · rename_i b o n' c'
      split at hx
      · rename_i l hl
        split at hx
        · rename_i H1 hw
          cases hx
          obtain ⟨p', c'', hp, hs⟩ := slc_ok hs
          cases hs
          obtain ⟨vl, l1, l2⟩ := srX_ok hh hl hy
          refine l2 _ ?_
          simp only []
          exact wrX_ok hh hw hp l1 fun h' hh' => hF _ h' (by unfold VR; rfl) hh'
        · cases hx
      · cases hx
    · cases hx
  · cases hx
def setE (k x : CV) : List (CV × CV × Nat) → Nat → List (CV × CV × Nat)
  | [], _ => []
  | (_, _, b) :: l, 0 => (k, x, b) :: l
  | e :: l, i + 1 => e :: setE k x l i
def muX (P : Program) (H : CH) (t : TypeId) (m k x : CV) : Option CH :=
  match P.underlying t with
  | some (.map kt et) => match P.underlying kt with
    | some kd => bif plainKey kd then (match m with
      | .map b => match H.t.get b with
        | some (.mp es c) => match findX kd k es 0 with
          | some none => some ⟨H.t.set b (some (.mp (es ++ [(k, x, c)]) (c + 1))), H.nx⟩
          | some (some (i, _)) => some ⟨H.t.set b (some (.mp (setE k x es i) c)), H.nx⟩
          | none => none
        | _ => none
      | _ => none) else none
    | none => none
  | _ => none
theorem entR_app {k x : CV} {c : Nat} {vk vx : Value} (hk : VR σ k vk) (hx : VR σ x vx) : ∀ {es : List (CV × CV × Nat)} {l : List MapEntry}, entR σ es l → entR σ (es ++ [(k, x, c)]) (l ++ [{ key := vk, val := vx, born := c }]) := by
  intro es
  induction es with
  | nil => intro l h; unfold entR at h; subst h; exact ⟨_, [], rfl, hk, hx, rfl, by unfold entR; rfl⟩
  | cons e es ih =>
    intro l h
    obtain ⟨a, b, d⟩ := e
    unfold entR at h; obtain ⟨e, r, rfl, h1, h2, h3, h4⟩ := h
    exact ⟨e, _, rfl, h1, h2, h3, ih h4⟩
theorem entR_set {k x : CV} {vk vx : Value} (hk : VR σ k vk) (hx : VR σ x vx) : ∀ {es : List (CV × CV × Nat)} {l : List MapEntry} {i : Nat}, entR σ es l → entR σ (setE k x es i) (l.modify i fun e => { e with key := vk, val := vx }) := by
  intro es
  induction es with
  | nil => intro l i h; unfold entR at h; subst h; cases i <;> (unfold setE entR; simp)
  | cons e es ih =>
    intro l i h
    obtain ⟨a, b, d⟩ := e
    unfold entR at h; obtain ⟨e, r, rfl, h1, h2, h3, h4⟩ := h
    cases i with
    | zero => simp only [setE, List.modify_zero_cons]; exact ⟨_, r, rfl, hk, hx, h3, h4⟩
    | succ i => simp only [setE, List.modify_succ_cons]; exact ⟨e, _, rfl, h1, h2, h3, ih h4⟩
theorem muX_ok (hh : HR P G h0 σ H h) {t : TypeId} {m k x : CV} {H' : CH} {vm vk vx : Value} (hu : muX P H t m k x = some H') (hm : VR σ m vm) (hk : VR σ k vk) (hx : VR σ x vx) {F : Hp → Prop} (hF : ∀ h', HR P G h0 σ H' h' → F h') :
    muK P t vm vk vx h F := by
  unfold muX at hu
  unfold muK
  split at hu
  · rename_i kt et ht
    rw [ht]; simp only []
    split at hu
    · rename_i kd hkd
      rw [hkd]; simp only []
      cases hp : plainKey kd with
      | false => rw [hp] at hu; cases hu
      | true =>
        rw [hp] at hu
        simp only [cond_true] at hu ⊢
        split at hu
        · rename_i b
          split at hu
          · rename_i es c hg
            unfold VR at hm; obtain ⟨p, hpb, rfl⟩ := hm
            obtain ⟨q, y, k1, k2, k3⟩ := hh.obj b _ hg
            rw [hpb] at k1; cases k1
            unfold OR at k3
            obtain ⟨l, rfl, he, h0r⟩ := k3
            unfold xMapO; simp only []; rw [k2]; simp only []
            split at hu
            · rename_i hf
              cases hu
              obtain ⟨r, g1, g2⟩ := findX_ok hk hf he
              unfold keyAt
              simp only []
              rw [g1]
              cases r with
              | some r => obtain ⟨j, u⟩ := r; exact g2.elim
              | none =>
                refine hF _ (hh.chg hg hpb h0r ?_)
                unfold mset OR
                exact ⟨_, by simp only []; rw [List.push_toArray], entR_app hk hx he, h0r⟩
            · rename_i i w hf
              cases hu
              obtain ⟨r, g1, g2⟩ := findX_ok hk hf he
              unfold keyAt
              simp only []
              rw [g1]
              cases r with
              | none => exact g2.elim
              | some r =>
                obtain ⟨j, u⟩ := r
                obtain ⟨rfl, _⟩ := g2
                refine hF _ (hh.chg hg hpb h0r ?_)
                unfold mset OR
                refine ⟨(l.modify i fun e => { e with key := vk, val := vx }), ?_, entR_set hk hx he, h0r⟩
                simp only [Obj.map.injEq, and_true]
                apply Array.ext'; simp
            · cases hu
          · cases hu
        · cases hu
    · cases hu
  · cases hu
def delE : List (CV × CV × Nat) → Nat → List (CV × CV × Nat)
  | [], _ => []
  | _ :: l, 0 => l
  | e :: l, i + 1 => e :: delE l i
theorem entR_del : ∀ {es : List (CV × CV × Nat)} {l : List MapEntry} {i : Nat}, entR σ es l → entR σ (delE es i) (l.eraseIdx i) := by
  intro es
  induction es with
  | nil => intro l i h; unfold entR at h; subst h; cases i <;> (unfold delE entR; simp)
  | cons e es ih =>
    intro l i h
    obtain ⟨a, b, d⟩ := e
    unfold entR at h; obtain ⟨e, r, rfl, h1, h2, h3, h4⟩ := h
    cases i with
    | zero => simp only [delE, List.eraseIdx_cons_zero]; exact h4
    | succ i => simp only [delE, List.eraseIdx_cons_succ]; exact ⟨e, _, rfl, h1, h2, h3, ih h4⟩
def mdX (P : Program) (H : CH) (t : TypeId) (m k : CV) : Option CH :=
  match P.underlying t with
  | some (.map kt et) => match P.underlying kt with
    | some kd => bif plainKey kd then (match m with
      | .mnil => some H
      | .map b => match H.t.get b with
        | some (.mp es c) => match findX kd k es 0 with
          | some none => some ⟨H.t.set b (some (.mp es c)), H.nx⟩
          | some (some (i, _)) => some ⟨H.t.set b (some (.mp (delE es i) c)), H.nx⟩
          | none => none
        | _ => none
      | _ => none) else none
    | none => none
  | _ => none
theorem mdX_ok (hh : HR P G h0 σ H h) {t : TypeId} {m k : CV} {H' : CH} {vm vk : Value} (hu : mdX P H t m k = some H') (hm : VR σ m vm) (hk : VR σ k vk) {F : Hp → Prop} (hF : ∀ h', HR P G h0 σ H' h' → F h') :
    mdK P t vm vk h F := by
  unfold mdX at hu
  unfold mdK
  split at hu
  · rename_i kt et ht
    rw [ht]; simp only []
    split at hu
    · rename_i kd hkd
      rw [hkd]; simp only []
      cases hp : plainKey kd with
      | false => rw [hp] at hu; cases hu
      | true =>
        rw [hp] at hu
        simp only [cond_true] at hu ⊢
        split at hu
        · cases hu; unfold VR at hm; subst hm; exact hF _ hh
        · rename_i b
          split at hu
          · rename_i es c hg
            unfold VR at hm; obtain ⟨p, hpb, rfl⟩ := hm
            obtain ⟨q, y, k1, k2, k3⟩ := hh.obj b _ hg
            rw [hpb] at k1; cases k1
            unfold OR at k3
            obtain ⟨l, rfl, he, h0r⟩ := k3
            simp only []
            unfold xMapO; simp only []; rw [k2]; simp only []
            split at hu
            · rename_i hf
              cases hu
              obtain ⟨r, g1, g2⟩ := findX_ok hk hf he
              unfold keyAt
              simp only []
              rw [g1]
              cases r with
              | some r => obtain ⟨j, u⟩ := r; exact g2.elim
              | none =>
                refine hF _ (hh.chg hg hpb h0r ?_)
                unfold mdel OR
                exact ⟨_, rfl, he, h0r⟩
            · rename_i i w hf
              cases hu
              obtain ⟨r, g1, g2⟩ := findX_ok hk hf he
              unfold keyAt
              simp only []
              rw [g1]
              cases r with
              | none => exact g2.elim
              | some r =>
                obtain ⟨j, u⟩ := r
                obtain ⟨rfl, _⟩ := g2
                refine hF _ (hh.chg hg hpb h0r ?_)
                unfold mdel OR
                refine ⟨l.eraseIdx i, ?_, entR_del he, h0r⟩
                simp only [Obj.map.injEq, and_true]
                apply Array.ext'
                simp only [Array.eraseIdxIfInBounds]
                split
                · simp
                · rename_i hn; simp at hn; simp [List.eraseIdx_of_length_le hn]
            · cases hu
          · cases hu
        · cases hu
    · cases hu
  · cases hu
def mmpX (H : CH) : CV × CH := (.map H.nx, addB H (.mp [] 0))
theorem newObj_swp {o : Obj} {K : Nat → Hp → Prop} : swp P (newObj o) h K = ∀ b, h b = none → K b (upd h b o) := rfl
theorem mmpX_ok (hh : HR P G h0 σ H h) {t : TypeId} {K : Value → Hp → Prop} (hK : ∀ σ' v h', Le σ σ' → VR σ' (mmpX H).1 v → HR P G h0 σ' (mmpX H).2 h' → K v h') : swp P (Instr.makeMap t none) h K := by
  unfold Instr.makeMap
  simp only [swp_bind']
  rw [newObj_swp]
  intro b hb
  obtain ⟨hl, hn⟩ := hh.add (o := .mp [] 0) (x := .map #[] 0) (p := ⟨b, 0, 0, 0⟩) hb rfl fun h0b => by unfold OR; exact ⟨[], rfl, by unfold entR; rfl, h0b⟩
  exact hK _ _ _ hl (by unfold mmpX VR; exact ⟨_, by simp [plus]; rfl, rfl⟩) hn
def rgX (P : Program) (H : CH) (t : TypeId) (x : CV) : Option (CV × CH) :=
  match P.underlying t, x with
  | some .string, .str l => some (.ptr H.nx 0, addB H (.sit l 0))
  | some (.map _ _), .map m => match H.t.get m with
    | some (.mp es c) => some (.ptr H.nx 0, addB H (.mit (some m) c [] c))
    | _ => none
  | _, _ => none
theorem rgX_ok (hh : HR P G h0 σ H h) {t : TypeId} {x y : CV} {v : Value} {H' : CH} (hx : rgX P H t x = some (y, H')) (hv : VR σ x v) {K : Value → Hp → Prop} (hK : ∀ σ' v h', Le σ σ' → VR σ' y v → HR P G h0 σ' H' h' → K v h') :
    rgK P t v h fun p h' => K (.pointer p) h' := by
  unfold rgX at hx
  split at hx
  · rename_i l hu
    cases hx
    unfold VR at hv; obtain ⟨s, rfl, rfl⟩ := hv
    unfold rgK
    rw [hu]
    simp only []
    intro b hb
    obtain ⟨hl, hn⟩ := hh.add (o := .sit (bl s) 0) (x := .stringIter s 0) (p := ⟨b, 0, 0, 0⟩) hb rfl fun h0b => by unfold OR; exact ⟨s, rfl, rfl, h0b, rfl⟩
    exact hK _ _ _ hl (by unfold VR; exact ⟨_, by simp [plus]; rfl, rfl⟩) hn
  · rename_i m hu
    split at hx
    · rename_i es c hg
      cases hx
      unfold VR at hv; obtain ⟨p, hp, rfl⟩ := hv
      obtain ⟨l, g1, g2⟩ := mp_at hh hg hp
      unfold rgK
      rw [hu]
      simp only []
      unfold rgM
      simp only [g1]
      intro b hb
      obtain ⟨hl, hn⟩ := hh.add (o := .mit (some m) c [] c) (x := .mapIter (some p.r) c #[] c) (p := ⟨b, 0, 0, 0⟩) hb rfl fun h0b => by
        unfold OR; exact ⟨_, rfl, ⟨p, plus_le (hh.fresh _ (Nat.le_refl _)) _ _ hp, rfl⟩, h0b, rfl⟩
      exact hK _ _ _ hl (by unfold VR; exact ⟨_, by simp [plus]; rfl, rfl⟩) hn
    · cases hx
  · cases hx
def nxX (H : CH) (x : CV) : Option (CV × CH) :=
  match x with
  | .ptr b 0 => match H.t.get b with
    | some (.sit l n) => match l[n]? with
      | some c => bif Nat.blt c 128 then some (.tup [.bool true, .int .i64 (n : Nat), .int .i32 (c : Nat)], ⟨H.t.set b (some (.sit l (n + 1))), H.nx⟩) else none
      | none => some (.tup [.bool false], H)
    | _ => none
  | _ => none
theorem nxX_ok (hh : HR P G h0 σ H h) {x y : CV} {v : Value} {H' : CH} (hx : nxX H x = some (y, H')) (hv : VR σ x v) {K : Value → Hp → Prop} (hK : ∀ v h', VR σ y v → HR P G h0 σ H' h' → K v h') : ∃ p, v = .pointer p ∧ nxS h p (fun i c h' => K (.tuple ⟨[.bool true, goInt i, .int .i32 c]⟩) h') fun h' => K (.tuple ⟨[.bool false]⟩) h' := by
  unfold nxX at hx
  split at hx
  · rename_i b
    split at hx
    · rename_i l n hg
      unfold VR at hv; obtain ⟨p, hp, rfl⟩ := hv
      obtain ⟨q, z, k1, k2, k3⟩ := hh.obj b _ hg
      rw [hp] at k1; cases k1
      unfold OR at k3
      obtain ⟨s, rfl, rfl, h0r, hd⟩ := k3
      have hat : p.at 0 = ⟨p.r, 0, none⟩ := by simp [Pl.at, hd]
      rw [hat]
      refine ⟨_, rfl, ?_⟩
      unfold nxS
      simp only [k2]
      split at hx
      · rename_i c hc
        obtain ⟨hb, hxx⟩ := condN hx
        cases hxx
        have hb : c < 128 := by simpa [Nat.blt_eq] using hb
        obtain ⟨hlt, hgc⟩ := bl_get hc
        rw [decide_eq_true hlt, cond_true]
        have hdec : Utf8.decode s n = (c, 1) := by
          unfold Utf8.decode
          have : (s.get! (n + 0)).toNat = c := by
            rw [Nat.add_zero, ← hgc]
            rfl
          simp only [this]
          rw [if_pos hb]
        rw [hdec]
        dsimp only
        refine hK _ _ ?_ (hh.chg hg hp h0r (by unfold OR; exact ⟨s, rfl, rfl, h0r, hd⟩))
        unfold VR
        refine ⟨_, rfl, ?_⟩
        unfold VRs; refine ⟨_, _, rfl, by unfold VR; rfl, ?_⟩
        unfold VRs; refine ⟨_, _, rfl, by unfold VR; rfl, ?_⟩
        unfold VRs; refine ⟨_, _, rfl, by unfold VR; rfl, ?_⟩
        unfold VRs; rfl
      · rename_i hc
        cases hx
        have hge : ¬ n < s.size := by
          intro hlt
          rw [List.getElem?_eq_none_iff, bl_len] at hc; omega
        rw [decide_eq_false hge, cond_false]
        refine hK _ _ ?_ hh
        unfold VR
        refine ⟨_, rfl, ?_⟩
        unfold VRs; refine ⟨_, _, rfl, by unfold VR; rfl, ?_⟩
        unfold VRs; rfl
    · cases hx
  · cases hx
end
end Go.Ix

/-
  All effects in one.
-/
set_option linter.unusedSimpArgs false
set_option linter.unusedVariables false
namespace Go.Ix
open Go Go.Hw
section
variable {P : Program} {E : Nat → Bool} {G : Nat} {h0 : Hp} {σ σ' : Sig} {H : CH} {h : Hp} {env : CE} {ρ : Env}
def bltX (P : Program) (H : CH) (b : Builtin) (ts : List TypeId) (l : List CV) : Option (CV × CH) :=
  match b, ts, l with
  | .append, t :: u :: _, [s, y] => match P.underlying t with
    | some (.slice e) => bif bytes0 P e && notIntT P u then apX P H e s y else none
    | _ => none
  | .copy, t :: _, [s, y] => match P.underlying t with
    | some (.slice e) => bif (P.info? e).isSome then cpX P H e s y else none
    | _ => none
  | .delete, t :: _, [m, k] => match mdX P H t m k with
    | some H' => some (.tup [], H')
    | none => none
  | .clear, t :: _, [m] => match P.underlying t with
    | some (.map _ _) => match m with
      | .mnil => some (.tup [], H)
      | .map b => match H.t.get b with
        | some (.mp _ c) => some (.tup [], ⟨H.t.set b (some (.mp [] c)), H.nx⟩)
        | _ => none
      | _ => none
    | _ => none
  | _, _, _ => none
theorem isSl {s : CV} {v : Value} {P : Program} {H : CH} {e : TypeId} {y z : CV} {H' : CH} (hx : apX P H e s y = some (z, H') ∨ cpX P H e s y = some (z, H')) (hs : VR σ s v) : ∃ p n c, v = .slice p n c := by
  cases s
  case snil => unfold VR at hs; exact ⟨_, _, _, hs⟩
  case slc => obtain ⟨p, c, _, rfl⟩ := slc_ok hs; exact ⟨_, _, _, rfl⟩
  all_goals
    exfalso
    rcases hx with hx | hx
    · unfold apX at hx
      split at hx
      · split at hx <;> cases hx
      · cases hx
    · unfold cpX at hx
      split at hx <;> cases hx
theorem bltX_known {b : Builtin} {ts : List TypeId} {l : List CV} {y : CV} {H' : CH} (hx : bltX P H b ts l = some (y, H')) : knownB b = true := by
  unfold bltX at hx
  split at hx <;> first | rfl | cases hx
theorem bltX_ok (hh : HR P G h0 σ H h) {b : Builtin} {ts : List TypeId} {l : List CV} {vs : List Value} {y : CV} {H' : CH} (hx : bltX P H b ts l = some (y, H')) (hv : VRs σ l vs) {K : Value → Hp → Prop}
    (hK : ∀ σ' v h', Le σ σ' → VR σ' y v → HR P G h0 σ' H' h' → K v h') : bltK P b ts vs h K := by
  unfold bltX at hx
  split at hx
  · split at hx
    · rename_i e hu
      cases hb : bytes0 P e && notIntT P _ with
      | false => rw [hb] at hx; cases hx
      | true =>
        rw [hb] at hx
        unfold VRs at hv; obtain ⟨v, r, rfl, h1, h2⟩ := hv
        unfold VRs at h2; obtain ⟨w, r, rfl, h2, h3⟩ := h2
        unfold VRs at h3; subst h3
        unfold bltK; simp only []
        unfold elT; rw [hu]; simp only []; rw [hb]
        obtain ⟨p, n, c, rfl⟩ := isSl (.inl hx) h1
        exact apX_ok hh hx h1 h2 fun σ' s h' hl hr hh' => hK σ' _ h' hl hr hh'
    · cases hx
  · split at hx
    · rename_i e hu
      cases hb : (P.info? e).isSome with
      | false => rw [hb] at hx; cases hx
      | true =>
        rw [hb] at hx
        unfold VRs at hv; obtain ⟨v, r, rfl, h1, h2⟩ := hv
        unfold VRs at h2; obtain ⟨w, r, rfl, h2, h3⟩ := h2
        unfold VRs at h3; subst h3
        unfold bltK; simp only []
        unfold elT; rw [hu]; simp only []; rw [hb]
        obtain ⟨p, n, c, rfl⟩ := isSl (.inr hx) h1
        exact cpX_ok hh hx h1 h2 fun r h' hr hh' => hK σ _ h' (Le.refl σ) hr hh'
    · cases hx
  · split at hx
    · rename_i H1 hm
      cases hx
      unfold VRs at hv; obtain ⟨v, r, rfl, h1, h2⟩ := hv
      unfold VRs at h2; obtain ⟨w, r, rfl, h2, h3⟩ := h2
      unfold VRs at h3; subst h3
      unfold bltK; simp only []
      exact mdX_ok hh hm h1 h2 fun h' hh' => hK σ _ h' (Le.refl σ) VR_undef hh'
    · cases hx
  · split at hx
    · rename_i hu
      unfold VRs at hv; obtain ⟨v, r, rfl, h1, h2⟩ := hv
      unfold VRs at h2; subst h2
      unfold bltK; simp only []; rw [hu]; simp only []
      split at hx
      · cases hx; unfold VR at h1; subst h1; exact hK σ _ h (Le.refl σ) VR_undef hh
      · rename_i b
        split at hx
        · rename_i es c hg
          cases hx
          unfold VR at h1; obtain ⟨p, hp, rfl⟩ := h1
          obtain ⟨q, z, k1, k2, k3⟩ := hh.obj b _ hg
          rw [hp] at k1; cases k1
          unfold OR at k3
          obtain ⟨l, rfl, he, h0r⟩ := k3
          simp only []; unfold clM; simp only [k2]
          exact hK σ _ _ (Le.refl σ) VR_undef (hh.chg hg hp h0r (by unfold OR; exact ⟨[], rfl, by unfold entR; rfl, h0r⟩))
        · cases hx
      · cases hx
    · cases hx
  · cases hx
def eX (P : Program) (G : Nat) (H : CH) (env : CE) (o : Oper) : Option (CV × CH) :=
  match o.op with
  | .store t a x => match evC G env a, evC G env x with
    | some a, some x => match stX P H t a x with
      | some H' => some (.tup [], H')
      | none => none
    | _, _ => none
  | .alloc e => allocX P H e
  | .box e x => match evC G env x with
    | some x => some (boxX H e x)
    | none => none
  | .buildSlice t n ps => match evPs G env ps.toList with
    | some ps => bsX P H t n ps
    | none => none
  | .makeSlice t l c => match evC G env l, evC G env c with
    | some l, some c => mkX P H t l c
    | _, _ => none
  | .convert s d x => match evC G env x with
    | some x => s2bX P H s d x
    | none => none
  | .mapUpdate t m k x => match evC G env m, evC G env k, evC G env x with
    | some m, some k, some x => match muX P H t m k x with
      | some H' => some (.tup [], H')
      | none => none
    | _, _, _ => none
  | .insert t m k x => match evC G env m, evC G env k, evC G env x with
    | some m, some k, some x => match muX P H t m k x with
      | some H' => some (.tup [], H')
      | none => none
    | _, _, _ => none
  | .makeMap t none => some (mmpX H)
  | .range t x => match evC G env x with
    | some x => rgX P H t x
    | none => none
  | .next x true => match evC G env x with
    | some x => nxX H x
    | none => none
  | .call ⟨.builtin b, args, ts⟩ => match evCs G env args.toList with
    | some l => bltX P H b ts.toList l
    | none => none
  | _ => none
theorem some_unit {o : Oper} {K : Value → Hp → Prop} {s : Sem Unit} {l : List Operand} (hl : o.op.operands.toList = l) (hs : isSel o.op = false) (ho : okAll ρ l = true)
    (he : execOp (evD ρ) o = do s; pure Next.skip) (hk : swp P s h fun _ h' => K undef h') : someAny ρ P o h K := by
  unfold someAny
  rw [hl, ho, hs]
  show opS P o (evD ρ) h K
  unfold opS
  rw [he]
  exact uswp hk
theorem eX_ok (he : ER σ env ρ) (hh : HR P G h0 σ H h) {o : Oper} {y : CV} {H' : CH} (hx : eX P G H env o = some (y, H')) {K : Value → Hp → Prop} (hK : ∀ σ' v h', Le σ σ' → VR σ' y v → HR P G h0 σ' H' h' → K v h') : opK P E o ρ h K := by
  obtain ⟨dst, op, type, pos, after, guard⟩ := o
  unfold eX at hx
  cases op <;> simp only [] at hx <;> first | (cases hx; done) | skip
  case store t a x =>
    split at hx
    · rename_i ca cx ha hxx
      split at hx
      · rename_i H1 hs
        cases hx
        obtain ⟨va, a1, a2⟩ := evC_ok ha he hh
        obtain ⟨vx, x1, x2⟩ := evC_ok hxx he hh
        unfold opK
        refine mv_ok a1 (mv_ok x1 ?_)
        exact stX_ok (F := fun h' => K undef h') hh hs a2 x2 fun h' hh' => hK σ _ h' (Le.refl σ) VR_undef hh'
      · cases hx
    · cases hx
  case alloc e =>
    unfold opK
    exact some_any (l := []) rfl rfl rfl rfl (alloc_ok hh hx hK)
  case box e x =>
    split at hx
    · rename_i c hc
      cases hx
      obtain ⟨v, h1, h2⟩ := evC_ok hc he hh
      unfold opK
      exact some_any rfl rfl (ok1 h1) rfl (by rw [(some1 h1).2]; exact box_ok hh h2 hK)
    · cases hx
  case buildSlice t n ps =>
    split at hx
    · rename_i c hc
      obtain ⟨h1, h2⟩ := evPs_ok he hh hc
      unfold opK
      have e0 : execOp (evD ρ) ⟨dst, .buildSlice t n ps, type, pos, after, guard⟩ = (Instr.buildSlice t n (ps.map fun (p : Nat × Operand) => (p.1, evD ρ p.2)) >>= fun x => pure (Next.value x)) :=
        congrArg (fun q => Instr.buildSlice t n q >>= fun x => pure (Next.value x)) rfl
      refine some_any (l := ps.toList.map (·.2)) (s := Instr.buildSlice t n (ps.map fun (p : Nat × Operand) => (p.1, evD ρ p.2))) (by simp [Op.operands]) rfl h2 e0 ?_
      have e : (ps.map fun (p : Nat × Operand) => (p.1, evD ρ p.2)) = ⟨ps.toList.map fun (p : Nat × Operand) => (p.1, evD ρ p.2)⟩ := by apply Array.ext'; simp
      show swp P (Instr.buildSlice t n (ps.map fun (p : Nat × Operand) => (p.1, evD ρ p.2))) h K
      rw [e]; exact bsX_ok hh hx h1 hK
    · cases hx
  case makeSlice t l c =>
    split at hx
    · rename_i cl cc hl hc
      obtain ⟨vl, l1, l2⟩ := evC_ok hl he hh
      obtain ⟨vc, c1, c2⟩ := evC_ok hc he hh
      unfold opK
      exact mv_ok l1 (mv_ok c1 (mkX_ok hh hx l2 c2 hK))
    · cases hx
  case convert s d x =>
    split at hx
    · rename_i c hc
      obtain ⟨v, h1, h2⟩ := evC_ok hc he hh
      unfold opK
      exact mv_ok h1 (s2bX_ok hh hx h2 hK)
    · cases hx
  case mapUpdate t m k x =>
    split at hx
    · rename_i cm ck cx hm hk hxx
      split at hx
      · rename_i H1 hu
        cases hx
        obtain ⟨vm, m1, m2⟩ := evC_ok hm he hh
        obtain ⟨vk, k1, k2⟩ := evC_ok hk he hh
        obtain ⟨vx, x1, x2⟩ := evC_ok hxx he hh
        unfold opK
        refine mv_ok m1 (mv_ok k1 (mv_ok x1 ?_))
        exact muX_ok (F := fun h' => K undef h') hh hu m2 k2 x2 fun h' hh' => hK σ _ h' (Le.refl σ) VR_undef hh'
      · cases hx
    · cases hx
  case insert t m k x =>
    split at hx
    · rename_i cm ck cx hm hk hxx
      split at hx
      · rename_i H1 hu
        cases hx
        obtain ⟨vm, m1, m2⟩ := evC_ok hm he hh
        obtain ⟨vk, k1, k2⟩ := evC_ok hk he hh
        obtain ⟨vx, x1, x2⟩ := evC_ok hxx he hh
        unfold opK
        refine some_unit (l := [m, k, x]) (s := Instr.mapUpdate t (evD ρ m) (evD ρ k) (evD ρ x)) rfl rfl (by simp [okAll, (some1 m1).1, (some1 k1).1, (some1 x1).1]) rfl ?_
        rw [(some1 m1).2, (some1 k1).2, (some1 x1).2]
        exact muK_swp (K := fun _ h' => K undef h') (muX_ok (F := fun h' => K undef h') hh hu m2 k2 x2 fun h' hh' => hK σ _ h' (Le.refl σ) VR_undef hh')
      · cases hx
    · cases hx
  case makeMap t r =>
    cases r with
    | some r => cases hx
    | none =>
      cases hx
      unfold opK
      exact some_any (l := []) rfl rfl rfl rfl (mmpX_ok hh hK)
  case range t x =>
    split at hx
    · rename_i c hc
      obtain ⟨v, h1, h2⟩ := evC_ok hc he hh
      unfold opK
      exact mv_ok h1 (rgX_ok hh hx h2 hK)
    · cases hx
  case next x b =>
    cases b with
    | false => cases hx
    | true =>
      simp only [] at hx
      split at hx
      · rename_i c hc
        obtain ⟨v, h1, h2⟩ := evC_ok hc he hh
        unfold opK
        obtain ⟨p, rfl, hn⟩ := nxX_ok (K := K) hh hx h2 fun v h' hv hh' => hK σ v h' (Le.refl σ) hv hh'
        exact mv_ok h1 hn
      · cases hx
  case call c =>
    obtain ⟨callee, args, ts⟩ := c
    cases callee with
    | value f => cases hx
    | invoke r m => cases hx
    | builtin b =>
      simp only [] at hx
      split at hx
      · rename_i l hl
        obtain ⟨vs, a1, a2, a3, a4⟩ := evCs_ok he hh hl
        unfold opK
        show bif knownB b then (mvs ρ args.toList [] fun vs => bltK P b ts.toList vs h K) else _
        rw [show knownB b = true from bltX_known hx]
        show mvs ρ args.toList [] fun vs => bltK P b ts.toList vs h K
        exact a4 [] _ (bltX_ok hh hx a1 hK)
      · cases hx
end
end Go.Ix

/-
  Functions of the library without a body that the machine knows by name.
-/
set_option linter.unusedSimpArgs false
set_option linter.unusedVariables false
namespace Go.Ix
open Go Go.Hw
inductive ExK where
  | ib | ns
def exOf (P : Program) (g : Nat) : Option ExK := match P.funcs[g]? with
  | some fn => match fn.body with
    | some _ => none
    | none => bif fn.origin == "" && !(fn.name == "runtime.NumGoroutine") then
        (bif fn.name == "internal/bytealg.IndexByte" then some .ib else bif fn.name == "internal/bytealg.IndexByteString" then some .ib else bif fn.name == "internal/abi.NoEscape" then some .ns else none) else none
  | none => none
def byX (H : CH) : CV → Option (List Nat)
  | .str l => some l
  | .snil => some []
  | .slz _ _ _ => some []
  | .slc b o n _ => match rdC H b o n with
    | some l => bytesX l
    | none => none
  | _ => none
def idxX (c : Nat) : List Nat → Nat → Option Nat
  | [], _ => none
  | x :: l, i => bif Nat.beq x c then some i else idxX c l (i + 1)
def extX (k : ExK) (H : CH) (args : List CV) : Option CV :=
  match k with
  | .ib => match args with
    | [b, .int .u8 c] => match byX H b with
      | some l => match idxX (c.toNat % 256) l 0 with
        | some i => some (.int .i64 (Int.ofNat i))
        | none => some (.int .i64 (-1))
      | none => none
    | _ => none
  | .ns => match args with
    | [x] => some x
    | _ => none
section
variable {P : Program} {G : Nat} {h0 : Hp} {σ : Sig} {H : CH} {h : Hp}
theorem loadBytes_swp : ∀ {n : Nat} {l : List CV} {r : List Nat} {vs : List Value} {a : Addr} {acc : ByteArray} {K : ByteArray → Hp → Prop}, bytesX l = some r → VRs σ l vs → vs.length = n →
    (∀ (j : Nat) (v : Value), vs[j]? = some v → cell h (a.add j) = some v) → (∀ s, bl s = bl acc ++ r → K s h) → swp P (Extern.Bytes.loadBytes a n acc) h K := by
  intro n
  induction n with
  | zero =>
    intro l r vs a acc K hb hv hn hc hK
    have := List.length_eq_zero_iff.1 hn; subst this
    have hl : l = [] := by have := hv.len; simp at this; exact List.length_eq_zero_iff.1 this.symm
    subst hl
    cases hb
    exact hK acc (by simp)
  | succ n ih =>
    intro l r vs a acc K hb hv hn hc hK
    cases l with
    | nil => unfold VRs at hv; subst hv; simp at hn
    | cons x l =>
      unfold VRs at hv; obtain ⟨v, vs, rfl, hx, hv⟩ := hv
      cases x <;> first | (simp [bytesX] at hb; done) | skip
      rename_i k m
      cases k <;> first | (simp [bytesX] at hb; done) | skip
      simp only [bytesX] at hb
      split at hb
      · rename_i r' hr
        cases hb
        unfold VR at hx; subst hx
        unfold Extern.Bytes.loadBytes
        rw [swp_bind']
        refine ⟨_, by simpa [Addr.add] using hc 0 _ rfl, ?_⟩
        refine ih hr hv (by simpa using hn) ?_ ?_
        · intro j v hj
          have := hc (j + 1) v (by simpa using hj)
          rw [← this]
          congr 1
          unfold Addr.add
          by_cases e : j = 0
          · subst e; simp
          · simp [e]; omega
        · intro s hs
          refine hK s ?_
          rw [hs]
          simp [bl]
      · cases hb
theorem bytesOf_ok (hh : HR P G h0 σ H h) {x : CV} {l : List Nat} {v : Value} (hx : byX H x = some l) (hv : VR σ x v) {K : ByteArray → Hp → Prop} (hK : ∀ s, bl s = l → K s h) : swp P (Extern.Bytes.bytesOf v) h K := by
  cases x <;> simp [byX] at hx
  · subst hx; unfold VR at hv; obtain ⟨s, rfl, rfl⟩ := hv; exact hK s rfl
  · subst hx; unfold VR at hv; subst hv; exact hK _ rfl
  · split at hx
    · rename_i m hm
      obtain ⟨p, c, hp, rfl⟩ := slc_ok hv
      obtain ⟨vs, h1, h2, h3⟩ := rdC_ok hh hm hp
      unfold Extern.Bytes.bytesOf
      refine loadBytes_swp hx h1 h2 ?_ ?_
      · intro j v hj; rw [at_add]; exact h3 j v hj
      · intro s hs; exact hK s (by rw [hs]; rfl)
    · cases hx
  · subst hx; unfold VR at hv; obtain ⟨p, c, hp, rfl, hc, hsz, hl⟩ := hv
    unfold Extern.Bytes.bytesOf
    exact hK _ rfl
theorem idxX_ok (c : UInt8) (f : Nat → UInt8) : ∀ (u : List UInt8) (k : Nat), (∀ (j : Nat) (x : UInt8), u[j]? = some x → f (k + j) = x) → (List.range' k u.length).find? (fun i => f i == c) = idxX c.toNat (u.map UInt8.toNat) k := by
  intro u
  induction u with
  | nil => intro k _; rfl
  | cons x u ih =>
    intro k hf
    simp only [List.length_cons, List.range'_succ, List.map_cons, idxX]
    have h0 : f k = x := by simpa using hf 0 x rfl
    rw [List.find?_cons, h0]
    have e : (x == c) = Nat.beq x.toNat c.toNat := by
      cases hb : Nat.beq x.toNat c.toNat with
      | true => have := UInt8.toNat_inj.1 (Nat.eq_of_beq_eq_true hb); simp [this]
      | false => have : x ≠ c := by (rintro rfl; exact Nat.ne_of_beq_eq_false hb rfl)
                 simp [this]
    rw [e]
    cases Nat.beq x.toNat c.toNat with
    | true => rfl
    | false =>
      simp only [cond_false]
      exact ih (k + 1) fun j y hy => by
        have := hf (j + 1) y (by simpa using hy)
        rw [← this]; congr 1; omega
theorem ib_ok (hh : HR P G h0 σ H h) {args : List CV} {vs : List Value} {y : CV} (hx : extX .ib H args = some y) (hv : VRs σ args vs) : ∃ v, VR σ y v ∧ ∀ K : Value → Hp → Prop, K v h → swp P (Extern.BytealgIndexByte.indexByte ⟨vs⟩) h K := by
  unfold extX at hx
  simp only [] at hx
  split at hx
  · rename_i b c
    split at hx
    · rename_i l hl
      unfold VRs at hv; obtain ⟨v1, r, rfl, h1, hv⟩ := hv
      unfold VRs at hv; obtain ⟨v2, r, rfl, h2, hv⟩ := hv
      unfold VRs at hv; subst hv
      unfold VR at h2; subst h2
      have key : ∀ s : ByteArray, bl s = l → (List.range s.size).find? (fun i => s[i]! == c.toNat.toUInt8) = idxX (c.toNat % 256) l 0 := by
        intro s hs
        subst hs
        have := idxX_ok c.toNat.toUInt8 (fun i => s[i]!) s.data.toList 0 (by
          intro j x hj
          rw [Nat.zero_add]
          have hlt := (List.getElem?_eq_some_iff.1 hj).1
          rw [List.getElem?_eq_getElem hlt] at hj
          simp only [Option.some.injEq] at hj
          rw [← hj]
          have : j < s.size := by simpa using hlt
          rw [getElem!_pos s j this]
          simp [ByteArray.getElem_eq_getElem_data])
        rw [List.range_eq_range', ← (show c.toNat.toUInt8.toNat = c.toNat % 256 from by simp [Nat.toUInt8])]
        simpa [bl] using this
      split at hx
      · rename_i i hi
        cases hx
        refine ⟨.int .i64 (Int.ofNat i), by unfold VR; rfl, fun K hK => ?_⟩
        refine Eq.mpr (swp_bind' (Extern.Bytes.bytesOf v1) (fun b => do let c ← Extern.Bytes.asByte (.int .u8 c); match (List.range b.size).find? fun i => b[i]! == c with | some i => pure (goInt i) | none => pure (goInt (-1))) h K) ?_
        refine bytesOf_ok hh hl h1 fun s hs => ?_
        change swp P (match (List.range s.size).find? fun i => s[i]! == c.toNat.toUInt8 with | some i => pure (goInt i) | none => pure (goInt (-1))) h K
        rw [key s hs, hi]
        exact hK
      · rename_i hi
        cases hx
        refine ⟨.int .i64 (-1), by unfold VR; rfl, fun K hK => ?_⟩
        refine Eq.mpr (swp_bind' (Extern.Bytes.bytesOf v1) (fun b => do let c ← Extern.Bytes.asByte (.int .u8 c); match (List.range b.size).find? fun i => b[i]! == c with | some i => pure (goInt i) | none => pure (goInt (-1))) h K) ?_
        refine bytesOf_ok hh hl h1 fun s hs => ?_
        change swp P (match (List.range s.size).find? fun i => s[i]! == c.toNat.toUInt8 with | some i => pure (goInt i) | none => pure (goInt (-1))) h K
        rw [key s hs, hi]
        exact hK
    · cases hx
  · cases hx
theorem und (fn : Func) (n : String) (hn : fn.name = n) (e : Array Value → Sem Value) (h1 : Extern.allNextRows.lookup n = none) (h2 : Extern.allGenericRows.lookup n = none) (h3 : Extern.allTypedRows.lookup n = none)
    (h4 : Extern.allRows.lookup n = some e) (ho : fn.origin = "") (h5 : Extern.allNextRows.lookup "" = none) : Extern.findNext fn = none ∧ Extern.find fn = some e := by
  unfold Extern.findNext Extern.find
  simp only [hn, ho, h1, h2, h3, h4, h5]
  exact ⟨rfl, rfl⟩
theorem ext_fn {g : Nat} {k : ExK} (hk : exOf P g = some k) : ∃ fn, P.funcs[g]? = some fn ∧ fn.body = none ∧ (fn.name == "runtime.NumGoroutine") = false ∧ Extern.findNext fn = none ∧
    Extern.find fn = some (match k with | .ib => Extern.BytealgIndexByte.indexByte | .ns => Extern.AbiNoEscape.same) := by
  unfold exOf at hk
  split at hk
  · rename_i fn hfn
    split at hk
    · cases hk
    · rename_i hb
      cases hc : fn.origin == "" && !(fn.name == "runtime.NumGoroutine") with
      | false => rw [hc] at hk; cases hk
      | true =>
        rw [hc] at hk
        simp only [cond_true] at hk
        simp only [Bool.and_eq_true, Bool.not_eq_true', beq_iff_eq] at hc
        have ho := hc.1
        refine ⟨fn, hfn, hb, by simpa using hc.2, ?_⟩
        cases h1 : fn.name == "internal/bytealg.IndexByte" with
        | true =>
          rw [h1] at hk; cases hk
          exact und fn _ (by simpa using h1) _ (by kernel_rfl) (by kernel_rfl) (by kernel_rfl) (by kernel_rfl) ho (by kernel_rfl)
        | false =>
          rw [h1] at hk
          cases h2 : fn.name == "internal/bytealg.IndexByteString" with
          | true =>
            rw [h2] at hk; cases hk
            exact und fn _ (by simpa using h2) _ (by kernel_rfl) (by kernel_rfl) (by kernel_rfl) (by kernel_rfl) ho (by kernel_rfl)
          | false =>
            rw [h2] at hk
            cases h3 : fn.name == "internal/abi.NoEscape" with
            | true =>
              rw [h3] at hk; cases hk
              exact und fn _ (by simpa using h3) _ (by kernel_rfl) (by kernel_rfl) (by kernel_rfl) (by kernel_rfl) ho (by kernel_rfl)
            | false => rw [h3] at hk; cases hk
  · cases hk
theorem ext_ok (hh : HR P G h0 σ H h) {g : Nat} {k : ExK} (hk : exOf P g = some k) {args : List CV} {vs : List Value} {y : CV} (hx : extX k H args = some y) (hv : VRs σ args vs) :
    ∃ v, VR σ y v ∧ ∀ K : Value → Hp → Prop, K v h → swp P (callFunc g ⟨vs⟩) h (nextK P K) := by
  obtain ⟨fn, h1, h2, h3, h4, h5⟩ := ext_fn hk
  have key : ∀ (e : Array Value → Sem Value), Extern.find fn = some e → ∀ K : Value → Hp → Prop, swp P (e ⟨vs⟩) h K → swp P (callFunc g ⟨vs⟩) h (nextK P K) := by
    intro e he K hK
    unfold callFunc
    simp only [swp_bind']
    change swp P (match P.funcs[g]? with | none => _ | some fn => _) h _
    rw [h1]
    simp only [h3, h2, h4, he, Bool.false_eq_true, if_false, Option.isNone_none, if_true]
    exact vswp hK
  cases k with
  | ib =>
    obtain ⟨v, g1, g2⟩ := ib_ok hh hx hv
    exact ⟨v, g1, fun K hK => key _ h5 K (g2 K hK)⟩
  | ns =>
    unfold extX at hx
    simp only [] at hx
    split at hx
    · cases hx
      unfold VRs at hv; obtain ⟨v, r, rfl, g1, hv⟩ := hv
      unfold VRs at hv; subst hv
      exact ⟨v, g1, fun K hK => key _ h5 K hK⟩
    · cases hx
end
end Go.Ix

/-
  Maps that are walked: every order is looked at.
-/
set_option linter.unusedSimpArgs false
set_option linter.unusedVariables false
namespace Go.Ix
open Go Go.Hw
def memN (n : Nat) : List Nat → Bool
  | [] => false
  | x :: l => Nat.beq n x || memN n l
def leftX (seen : List Nat) : List (CV × CV × Nat) → List (CV × CV × Nat)
  | [] => []
  | (k, v, b) :: l => bif memN b seen then leftX seen l else (k, v, b) :: leftX seen l
def allLt (n : Nat) : List (CV × CV × Nat) → Bool
  | [] => true
  | (_, _, b) :: l => Nat.blt b n && allLt n l
def anyLt (n : Nat) : List (CV × CV × Nat) → Bool
  | [] => false
  | (_, _, b) :: l => Nat.blt b n || anyLt n l
def nilB {α : Type} : List α → Bool
  | [] => true
  | _ => false
def outsX (H : CH) (b : Nat) (m since : Nat) (seen : List Nat) (c : Nat) : List (CV × CV × Nat) → List (CV × CH)
  | [] => []
  | (k, v, n) :: l => (.tup [.bool true, k, v], ⟨H.t.set b (some (.mit (some m) since (seen ++ [n]) c)), H.nx⟩) :: outsX H b m since seen c l
def mnX (H : CH) (x : CV) : Option (List (CV × CH)) :=
  match x with
  | .ptr b 0 => match H.t.get b with
    | some (.mit none _ _ _) => some [(.tup [.bool false], H)]
    | some (.mit (some m) since seen last) => match H.t.get m with
      | some (.mp es c) =>
        bif (nilB seen || nilB es || anyLt last es) && allLt since (leftX seen es) then
          (match leftX seen es with
          | [] => some [(.tup [.bool false], H)]
          | e :: l => some (outsX H b m since seen c (e :: l)))
        else none
      | _ => none
    | _ => none
  | _ => none
section
variable {P : Program} {G : Nat} {h0 : Hp} {σ : Sig} {H : CH} {h : Hp}
theorem memN_ok {n : Nat} : ∀ {l : List Nat}, memN n l = l.contains n := by
  intro l
  induction l with
  | nil => rfl
  | cons x l ih =>
    simp only [memN, List.contains_cons, ih]
    cases hb : Nat.beq n x with
    | true => rw [Nat.eq_of_beq_eq_true hb]; simp
    | false => have : (n == x) = false := by simpa using Nat.ne_of_beq_eq_false hb
               rw [this]
theorem entR_left {seen : List Nat} : ∀ {es : List (CV × CV × Nat)} {l : List MapEntry}, entR σ es l → entR σ (leftX seen es) (l.filter fun e => !seen.contains e.born) := by
  intro es
  induction es with
  | nil => intro l h; unfold entR at h; subst h; unfold leftX entR; rfl
  | cons e es ih =>
    intro l h
    obtain ⟨k, v, b⟩ := e
    unfold entR at h; obtain ⟨e, r, rfl, h1, h2, h3, h4⟩ := h
    unfold leftX
    rw [memN_ok, ← h3]
    cases hc : seen.contains e.born with
    | true => simp only [cond_true]; rw [List.filter_cons_of_neg (by show ¬ (!seen.contains e.born) = true; rw [hc]; decide)]; exact ih h4
    | false =>
      simp only [cond_false]
      rw [List.filter_cons_of_pos (by show (!seen.contains e.born) = true; rw [hc]; rfl)]
      exact ⟨e, _, rfl, h1, h2, rfl, ih h4⟩
theorem allLt_ok {n : Nat} : ∀ {es : List (CV × CV × Nat)} {l : List MapEntry}, entR σ es l → allLt n es = true → ∀ e ∈ l, e.born < n := by
  intro es
  induction es with
  | nil => intro l h _ e he; unfold entR at h; subst h; cases he
  | cons e es ih =>
    intro l h hl x hx
    obtain ⟨k, v, b⟩ := e
    unfold entR at h; obtain ⟨e, r, rfl, h1, h2, h3, h4⟩ := h
    simp only [allLt, Bool.and_eq_true] at hl
    cases hx with
    | head => rw [h3]; simpa [Nat.blt_eq] using hl.1
    | tail _ hm => exact ih h4 hl.2 x hm
theorem anyLt_ok {n : Nat} : ∀ {es : List (CV × CV × Nat)} {l : List MapEntry}, entR σ es l → anyLt n es = true → ∃ e ∈ l, e.born < n := by
  intro es
  induction es with
  | nil => intro l h hl; cases hl
  | cons e es ih =>
    intro l h hl
    obtain ⟨k, v, b⟩ := e
    unfold entR at h; obtain ⟨e, r, rfl, h1, h2, h3, h4⟩ := h
    simp only [anyLt, Bool.or_eq_true] at hl
    rcases hl with hl | hl
    · exact ⟨e, List.mem_cons_self .., by rw [h3]; simpa [Nat.blt_eq] using hl⟩
    · obtain ⟨x, hx, hlt⟩ := ih h4 hl
      exact ⟨x, List.mem_cons_of_mem _ hx, hlt⟩
theorem entR_get : ∀ {es : List (CV × CV × Nat)} {l : List MapEntry}, entR σ es l → ∀ {j : Nat} {e : MapEntry}, l[j]? = some e → ∃ k v, es[j]? = some (k, v, e.born) ∧ VR σ k e.key ∧ VR σ v e.val := by
  intro es
  induction es with
  | nil => intro l h j e he; unfold entR at h; subst h; simp at he
  | cons x es ih =>
    intro l h j e he
    obtain ⟨k, v, b⟩ := x
    unfold entR at h; obtain ⟨y, r, rfl, h1, h2, h3, h4⟩ := h
    cases j with
    | zero => simp at he; subst he; exact ⟨k, v, by simp [h3], h1, h2⟩
    | succ j => simp at he; obtain ⟨k', v', g1, g2⟩ := ih h4 he; exact ⟨k', v', by simpa using g1, g2⟩
theorem outsX_mem {b m since : Nat} {seen : List Nat} {c : Nat} : ∀ {es : List (CV × CV × Nat)} {j : Nat} {k v : CV} {n : Nat}, es[j]? = some (k, v, n) →
    (.tup [.bool true, k, v], ⟨H.t.set b (some (.mit (some m) since (seen ++ [n]) c)), H.nx⟩) ∈ outsX H b m since seen c es := by
  intro es
  induction es with
  | nil => intro j k v n h; simp at h
  | cons x es ih =>
    intro j k v n h
    obtain ⟨k', v', b'⟩ := x
    unfold outsX
    cases j with
    | zero => simp at h; obtain ⟨rfl, rfl, rfl⟩ := h; exact List.mem_cons_self ..
    | succ j => simp at h; exact List.mem_cons_of_mem _ (ih h)
theorem tup1_ok (b : Bool) : VR σ (.tup [.bool b]) (.tuple ⟨[.bool b]⟩) := by
  unfold VR; refine ⟨_, rfl, ?_⟩
  unfold VRs; refine ⟨_, _, rfl, by unfold VR; rfl, ?_⟩
  unfold VRs; rfl
theorem mnX_ok (hh : HR P G h0 σ H h) {x : CV} {v : Value} {l : List (CV × CH)} (hx : mnX H x = some l) (hv : VR σ x v) {K : Value → Hp → Prop}
    (hK : ∀ y H', (y, H') ∈ l → ∀ v h', VR σ y v → HR P G h0 σ H' h' → K v h') : ∃ p, v = .pointer p ∧ nxM h p fun b r h' => K (.tuple ⟨.bool b :: r⟩) h' := by
  unfold mnX at hx
  split at hx
  · rename_i b
    unfold VR at hv; obtain ⟨p, hp, rfl⟩ := hv
    refine ⟨_, rfl, ?_⟩
    split at hx
    · rename_i si se la hg
      cases hx
      obtain ⟨q, z, k1, k2, k3⟩ := hh.obj b _ hg
      rw [hp] at k1; cases k1
      unfold OR at k3
      obtain ⟨r, rfl, hr, h0r, hd⟩ := k3
      have hat : p.at 0 = ⟨p.r, 0, none⟩ := by simp [Pl.at, hd]
      rw [hat]
      cases r with
      | some r => exact hr.elim
      | none =>
        unfold nxM
        simp only [k2]
        exact hK _ _ (List.mem_singleton.2 rfl) _ h (tup1_ok false) hh
    · rename_i m since seen last hg
      split at hx
      · rename_i es c hm
        obtain ⟨q, z, k1, k2, k3⟩ := hh.obj b _ hg
        rw [hp] at k1; cases k1
        unfold OR at k3
        obtain ⟨r, rfl, hr, h0r, hd⟩ := k3
        have hat : p.at 0 = ⟨p.r, 0, none⟩ := by simp [Pl.at, hd]
        rw [hat]
        cases r with
        | none => exact hr.elim
        | some r =>
          obtain ⟨q, hq, rfl⟩ := hr
          obtain ⟨es', g1, g2⟩ := mp_at hh hm hq
          cases hc : (nilB seen || nilB es || anyLt last es) && allLt since (leftX seen es) with
          | false => rw [hc] at hx; cases hx
          | true =>
            rw [hc] at hx
            simp only [cond_true] at hx
            simp only [Bool.and_eq_true] at hc
            have hleft := entR_left (seen := seen) g2
            have hall := allLt_ok hleft hc.2
            have e1 : leftM ⟨seen⟩ ⟨es'⟩ = ⟨es'.filter fun e => !seen.contains e.born⟩ := by simp [leftM]
            have hno : (!(⟨seen⟩ : Array Nat).isEmpty && !(⟨es'⟩ : Array MapEntry).isEmpty && (⟨es'⟩ : Array MapEntry).all (·.born ≥ last)) = false := by
              cases h1 : nilB seen with
              | true => cases seen with
                | nil => rfl
                | cons => cases h1
              | false => cases h2 : nilB es with
                | true => cases es with
                  | nil => unfold entR at g2; subst g2; simp
                  | cons => cases h2
                | false =>
                  rw [h1, h2] at hc
                  obtain ⟨e, he, hlt⟩ := anyLt_ok g2 (by simpa using hc.1)
                  have : (⟨es'⟩ : Array MapEntry).all (·.born ≥ last) = false := by
                    rw [Bool.eq_false_iff]
                    intro ha
                    simp at ha
                    have := ha e he; omega
                  rw [this]; simp
            unfold nxM
            simp only [k2, g1]
            rw [e1]
            refine ⟨hno, fun e he => hall e (by simpa using he), ?_, ?_⟩
            · intro hnil
              have hl0 : (es'.filter fun e => !seen.contains e.born) = [] := by simpa using congrArg Array.toList hnil
              rw [hl0] at hleft
              have hln := entR_len hleft
              have hcons : leftX seen es = [] := List.length_eq_zero_iff.1 (by rw [List.length_nil] at hln; omega)
              rw [hcons] at hx
              cases hx
              exact hK _ _ (List.mem_singleton.2 rfl) _ h (tup1_ok false) hh
            · intro e he
              have he : e ∈ es'.filter fun e => !seen.contains e.born := by simpa using he
              obtain ⟨j, hj, rfl⟩ := List.getElem_of_mem he
              obtain ⟨k, w, f1, f2, f3⟩ := entR_get hleft (List.getElem?_eq_getElem hj)
              split at hx
              · rename_i hnil
                rw [hnil] at f1; simp at f1
              · rename_i e0 l0 hcons
                cases hx
                rw [hcons] at f1
                generalize es'.filter (fun e => !seen.contains e.born) = L at hj f2 f3 f1
                refine hK _ _ (outsX_mem f1) (.tuple ⟨[.bool true, L[j].key, L[j].val]⟩) _ ?_ (hh.chg hg hp h0r ?_)
                · unfold VR; refine ⟨_, rfl, ?_⟩
                  unfold VRs; refine ⟨_, _, rfl, by unfold VR; rfl, ?_⟩
                  unfold VRs; refine ⟨_, _, rfl, f2, ?_⟩
                  unfold VRs; refine ⟨_, _, rfl, f3, ?_⟩
                  unfold VRs; rfl
                · unfold OR
                  exact ⟨some q.r, by simp, ⟨q, hq, rfl⟩, h0r, hd⟩
      · cases hx
    · cases hx
  · cases hx
def lastN : List Nat → Option Nat
  | [] => none
  | [x] => some x
  | _ :: y :: l => lastN (y :: l)
def bornX (n : Nat) : List (CV × CV × Nat) → Option (CV × CV)
  | [] => none
  | (k, v, b) :: l => bif Nat.beq b n then some (k, v) else bornX n l
def entX (H : CH) (x : CV) : Option CV :=
  match x with
  | .ptr b 0 => match H.t.get b with
    | some (.mit (some m) _ seen last) => match lastN seen, H.t.get m with
      | some n, some (.mp es c) => bif Nat.beq c last then (match bornX n es with
        | some (k, v) => some (.tup [k, v])
        | none => none) else none
      | _, _ => none
    | _ => none
  | _ => none
theorem lastN_ok : ∀ {l : List Nat} {n : Nat}, lastN l = some n → (⟨l⟩ : Array Nat).back? = some n := by
  intro l n h
  have : l.getLast? = some n := by
    induction l with
    | nil => cases h
    | cons x l ih =>
      cases l with
      | nil => simpa [lastN] using h
      | cons y l => rw [List.getLast?_cons_cons]; exact ih h
  simpa using this
theorem bornX_ok {n : Nat} : ∀ {es : List (CV × CV × Nat)} {l : List MapEntry}, entR σ es l → ∀ {k v : CV}, bornX n es = some (k, v) → ∃ e, l.find? (·.born == n) = some e ∧ VR σ k e.key ∧ VR σ v e.val := by
  intro es
  induction es with
  | nil => intro l h k v hb; cases hb
  | cons x es ih =>
    intro l h k v hb
    obtain ⟨k', v', b⟩ := x
    unfold entR at h; obtain ⟨e, r, rfl, h1, h2, h3, h4⟩ := h
    simp only [bornX] at hb
    cases hq : Nat.beq b n with
    | true =>
      rw [hq] at hb; cases hb
      exact ⟨e, by rw [List.find?_cons_of_pos (by rw [h3]; simpa using Nat.eq_of_beq_eq_true hq)], h1, h2⟩
    | false =>
      rw [hq] at hb
      obtain ⟨e', g1, g2⟩ := ih h4 hb
      exact ⟨e', by rw [List.find?_cons_of_neg (by rw [h3]; simpa using Nat.ne_of_beq_eq_false hq)]; exact g1, g2⟩
theorem entX_ok (hh : HR P G h0 σ H h) {x y : CV} {v : Value} (hx : entX H x = some y) (hv : VR σ x v) : ∃ w p, v = .pointer p ∧ VR σ y w ∧ ∀ K : Value → Hp → Prop, K w h → enM h p fun a b => K (.tuple ⟨[a, b]⟩) h := by
  unfold entX at hx
  split at hx
  · rename_i b
    unfold VR at hv; obtain ⟨p, hp, rfl⟩ := hv
    split at hx
    · rename_i m since seen last hg
      split at hx
      · rename_i n es c hn hm
        cases hcl : Nat.beq c last with
        | false => rw [hcl] at hx; cases hx
        | true =>
          rw [hcl] at hx
          simp only [cond_true] at hx
          have hcl := Nat.eq_of_beq_eq_true hcl
          subst hcl
          split at hx
          · rename_i k u hb
            cases hx
            obtain ⟨q, z, k1, k2, k3⟩ := hh.obj b _ hg
            rw [hp] at k1; cases k1
            unfold OR at k3
            obtain ⟨r, rfl, hr, h0r, hd⟩ := k3
            have hat : p.at 0 = ⟨p.r, 0, none⟩ := by simp [Pl.at, hd]
            rw [hat]
            cases r with
            | none => exact hr.elim
            | some r =>
              obtain ⟨q, hq, rfl⟩ := hr
              obtain ⟨es', g1, g2⟩ := mp_at hh hm hq
              obtain ⟨e, f1, f2, f3⟩ := bornX_ok g2 hb
              refine ⟨.tuple ⟨[e.key, e.val]⟩, _, rfl, ?_, fun K hK => ?_⟩
              · unfold VR; refine ⟨_, rfl, ?_⟩
                unfold VRs; refine ⟨_, _, rfl, f2, ?_⟩
                unfold VRs; refine ⟨_, _, rfl, f3, ?_⟩
                unfold VRs; rfl
              · unfold enM
                have hf : (⟨es'⟩ : Array MapEntry).find? (·.born == n) = some e := by simpa using f1
                simp only [k2, lastN_ok hn, g1, hf]
                exact ⟨trivial, hK⟩
          · cases hx
      · cases hx
    · cases hx
  · cases hx
end
end Go.Ix

/-
  Two states of the small machine that are one but for the numbers of their blocks.
-/
set_option linter.unusedSimpArgs false
set_option linter.unusedVariables false
namespace Go.Ix
open Go Go.Hw
def pi : List (Nat × Nat × Nat) → Nat → Nat
  | [], b => b
  | (s, n, s') :: l, b => bif Nat.ble s b && Nat.blt b (s + n) then s' + (b - s) else pi l b
mutual
def CV.eqr (π : Nat → Nat) : CV → CV → Bool
  | .int k n, .int k' n' => kindEq k k' && decide (n = n')
  | .bool b, .bool b' => b == b'
  | .str l, .str l' => leq l l'
  | .pnil, .pnil => true
  | .ptr b o, .ptr b' o' => Nat.beq (π b) b' && Nat.beq o o'
  | .snil, .snil => true
  | .slc b o n c, .slc b' o' n' c' => Nat.beq (π b) b' && Nat.beq o o' && Nat.beq n n' && oeq c c'
  | .slz b o l, .slz b' o' l' => Nat.beq (π b) b' && Nat.beq o o' && Nat.beq l l'
  | .mnil, .mnil => true
  | .map b, .map b' => Nat.beq (π b) b'
  | .agg l, .agg l' => CV.eqrs π l l'
  | .tup l, .tup l' => CV.eqrs π l l'
  | .nili, .nili => true
  | .ifc t v, .ifc t' v' => Nat.beq t t' && CV.eqr π v v'
  | .fn f a b, .fn f' a' b' => Nat.beq f f' && CV.eqrs π a a' && CV.eqrs π b b'
  | .nilf, .nilf => true
  | _, _ => false
def CV.eqrs (π : Nat → Nat) : List CV → List CV → Bool
  | [], [] => true
  | x :: l, y :: m => CV.eqr π x y && CV.eqrs π l m
  | _, _ => false
end
section
variable {σ τ : Sig} {π : Nat → Nat}
mutual
theorem CV.eqr_VR (hp : ∀ b p, σ b = some p → τ (π b) = some p) : ∀ (x y : CV) (v : Value), CV.eqr π x y = true → VR σ x v → VR τ y v := by
  intro x y v h hv
  cases x <;> cases y <;> first | (simp [CV.eqr] at h; done) | skip
  case int.int k n k' n' => simp only [CV.eqr, Bool.and_eq_true, decide_eq_true_eq] at h; rw [← kindEq_eq h.1, ← h.2]; exact hv
  case bool.bool => simp [CV.eqr] at h; rw [← h]; exact hv
  case str.str => simp only [CV.eqr] at h; rw [← leq_eq h]; exact hv
  case pnil.pnil => exact hv
  case ptr.ptr =>
    simp only [CV.eqr, Bool.and_eq_true] at h
    rw [← Nat.eq_of_beq_eq_true h.1, ← Nat.eq_of_beq_eq_true h.2]
    unfold VR at hv ⊢; obtain ⟨p, h1, h2⟩ := hv; exact ⟨p, hp _ _ h1, h2⟩
  case snil.snil => exact hv
  case slc.slc b o n c b' o' n' c' =>
    simp only [CV.eqr, Bool.and_eq_true] at h
    rw [← Nat.eq_of_beq_eq_true h.1.1.1, ← Nat.eq_of_beq_eq_true h.1.1.2, ← Nat.eq_of_beq_eq_true h.1.2, ← oeq_eq h.2]
    cases c with
    | some c => unfold VR at hv ⊢; obtain ⟨p, h1, h2⟩ := hv; exact ⟨p, hp _ _ h1, h2⟩
    | none => unfold VR at hv ⊢; obtain ⟨p, c, h1, h2⟩ := hv; exact ⟨p, c, hp _ _ h1, h2⟩
  case slz.slz =>
    simp only [CV.eqr, Bool.and_eq_true] at h
    rw [← Nat.eq_of_beq_eq_true h.1.1, ← Nat.eq_of_beq_eq_true h.1.2, ← Nat.eq_of_beq_eq_true h.2]
    unfold VR at hv ⊢; obtain ⟨p, c, h1, h2⟩ := hv; exact ⟨p, c, hp _ _ h1, h2⟩
  case mnil.mnil => exact hv
  case map.map =>
    simp only [CV.eqr] at h
    rw [← Nat.eq_of_beq_eq_true h]
    unfold VR at hv ⊢; obtain ⟨p, h1, h2⟩ := hv; exact ⟨p, hp _ _ h1, h2⟩
  case agg.agg l m => simp only [CV.eqr] at h; unfold VR at hv ⊢; obtain ⟨vs, h1, h2⟩ := hv; exact ⟨vs, h1, CV.eqrs_VR hp l m vs h h2⟩
  case tup.tup l m => simp only [CV.eqr] at h; unfold VR at hv ⊢; obtain ⟨vs, h1, h2⟩ := hv; exact ⟨vs, h1, CV.eqrs_VR hp l m vs h h2⟩
  case nili.nili => exact hv
  case ifc.ifc t x t' x' =>
    simp only [CV.eqr, Bool.and_eq_true] at h
    rw [← Nat.eq_of_beq_eq_true h.1]
    unfold VR at hv ⊢; obtain ⟨w, h1, h2⟩ := hv; exact ⟨w, h1, CV.eqr_VR hp x x' w h.2 h2⟩
  case fn.fn f a b f' a' b' =>
    simp only [CV.eqr, Bool.and_eq_true] at h
    rw [← Nat.eq_of_beq_eq_true h.1.1]
    unfold VR at hv ⊢; obtain ⟨xs, ys, h1, h2, h3⟩ := hv
    exact ⟨xs, ys, h1, CV.eqrs_VR hp a a' xs h.1.2 h2, CV.eqrs_VR hp b b' ys h.2 h3⟩
  case nilf.nilf => exact hv
theorem CV.eqrs_VR (hp : ∀ b p, σ b = some p → τ (π b) = some p) : ∀ (l m : List CV) (vs : List Value), CV.eqrs π l m = true → VRs σ l vs → VRs τ m vs := by
  intro l m vs h hv
  cases l <;> cases m <;> first | (simp [CV.eqrs] at h; done) | skip
  case nil.nil => exact hv
  case cons.cons x l y m =>
    simp only [CV.eqrs, Bool.and_eq_true] at h
    unfold VRs at hv ⊢; obtain ⟨v, r, h1, h2, h3⟩ := hv
    exact ⟨v, r, h1, CV.eqr_VR hp x y v h.1 h2, CV.eqrs_VR hp l m r h.2 h3⟩
end
theorem CV.eqrs_get : ∀ {l m : List CV}, CV.eqrs π l m = true → l.length = m.length ∧ ∀ {i : Nat} {y : CV}, m[i]? = some y → ∃ x, l[i]? = some x ∧ CV.eqr π x y = true := by
  intro l
  induction l with
  | nil => intro m h; cases m with
    | nil => exact ⟨rfl, fun h => by simp at h⟩
    | cons => cases h
  | cons x l ih =>
    intro m h
    cases m with
    | nil => cases h
    | cons y m =>
      simp only [CV.eqrs, Bool.and_eq_true] at h
      obtain ⟨h1, h2⟩ := ih h.2
      refine ⟨by simp [h1], ?_⟩
      intro i z hz
      cases i with
      | zero => simp at hz; subst hz; exact ⟨x, rfl, h.1⟩
      | succ i => simp at hz; obtain ⟨u, g1, g2⟩ := h2 hz; exact ⟨u, by simpa using g1, g2⟩
def entEq (π : Nat → Nat) : List (CV × CV × Nat) → List (CV × CV × Nat) → Bool
  | [], [] => true
  | (k, v, b) :: l, (k', v', b') :: m => CV.eqr π k k' && CV.eqr π v v' && Nat.beq b b' && entEq π l m
  | _, _ => false
def COeq (π : Nat → Nat) : CO → CO → Bool
  | .row o p m e cs, .row o' p' m' e' cs' => (o == o') && (p == p') && (m == m') && Nat.beq e e' && CV.eqrs π cs cs'
  | .tab cs, .tab cs' => CV.eqrs π cs cs'
  | .mp es c, .mp es' c' => entEq π es es' && Nat.beq c c'
  | .sit l n, .sit l' n' => leq l l' && Nat.beq n n'
  | .mit m s e l, .mit m' s' e' l' => (match m, m' with | none, none => true | some b, some b' => Nat.beq (π b) b' | _, _ => false) && Nat.beq s s' && leq e e' && Nat.beq l l'
  | _, _ => false
theorem entEq_ok (hp : ∀ b p, σ b = some p → τ (π b) = some p) : ∀ {es fs : List (CV × CV × Nat)} {l : List MapEntry}, entEq π es fs = true → entR σ es l → entR τ fs l := by
  intro es
  induction es with
  | nil => intro fs l h he; cases fs with
    | nil => exact he
    | cons x fs => obtain ⟨a, b, c⟩ := x; cases h
  | cons x es ih =>
    intro fs l h he
    obtain ⟨k, v, b⟩ := x
    cases fs with
    | nil => cases h
    | cons y fs =>
      obtain ⟨k', v', b'⟩ := y
      simp only [entEq, Bool.and_eq_true] at h
      unfold entR at he ⊢
      obtain ⟨e, r, h1, h2, h3, h4, h5⟩ := he
      exact ⟨e, r, h1, CV.eqr_VR hp _ _ _ h.1.1.1 h2, CV.eqr_VR hp _ _ _ h.1.1.2 h3, by rw [h4]; exact Nat.eq_of_beq_eq_true h.1.2, ih h.2 h5⟩
theorem COeq_ok {P : Program} {h0 : Hp} (hp : ∀ b p, σ b = some p → τ (π b) = some p) {p : Pl} {o o' : CO} {x : Obj} (h : COeq π o o' = true) (ho : OR P h0 σ p o x) : OR P h0 τ p o' x := by
  cases o <;> cases o' <;> first | (simp [COeq] at h; done) | skip
  case row.row ow op mk e cs ow' op' mk' e' cs' =>
    simp only [COeq, Bool.and_eq_true, beq_iff_eq] at h
    obtain ⟨⟨⟨⟨rfl, rfl⟩, rfl⟩, he⟩, hcs⟩ := h
    have := Nat.eq_of_beq_eq_true he; subst this
    obtain ⟨hl, hg⟩ := CV.eqrs_get hcs
    unfold OR at ho ⊢
    obtain ⟨vs, lo, hi, h1, h2, h3, h4, h5, h6⟩ := ho
    refine ⟨vs, lo, hi, h1, h2, by omega, fun e => by rw [← hl]; exact h4 e, fun i c hc => ?_, h6⟩
    obtain ⟨u, g1, g2⟩ := hg hc
    obtain ⟨v, k1, k2⟩ := h5 i u g1
    exact ⟨v, k1, CV.eqr_VR hp _ _ _ g2 k2⟩
  case tab.tab cs cs' =>
    simp only [COeq] at h
    obtain ⟨hl, hg⟩ := CV.eqrs_get h
    unfold OR at ho ⊢
    obtain ⟨vs, e, fr, h1, h5⟩ := ho
    refine ⟨vs, e, fr, h1, fun i c hc => ?_⟩
    obtain ⟨u, g1, g2⟩ := hg hc
    obtain ⟨v, k1, k2⟩ := h5 i u g1
    exact ⟨v, k1, CV.eqr_VR hp _ _ _ g2 k2⟩
  case mp.mp es c es' c' =>
    simp only [COeq, Bool.and_eq_true] at h
    have := Nat.eq_of_beq_eq_true h.2; subst this
    unfold OR at ho ⊢
    obtain ⟨l, h1, h2, h3⟩ := ho
    exact ⟨l, h1, entEq_ok hp h.1 h2, h3⟩
  case sit.sit l n l' n' =>
    simp only [COeq, Bool.and_eq_true] at h
    rw [← leq_eq h.1, ← Nat.eq_of_beq_eq_true h.2]; exact ho
  case mit.mit m s e l m' s' e' l' =>
    simp only [COeq, Bool.and_eq_true] at h
    obtain ⟨⟨⟨hm, hs⟩, he⟩, hl⟩ := h
    rw [← Nat.eq_of_beq_eq_true hs, ← leq_eq he, ← Nat.eq_of_beq_eq_true hl]
    unfold OR at ho ⊢
    obtain ⟨r, h1, h2, h3⟩ := ho
    refine ⟨r, h1, ?_, h3⟩
    cases m <;> cases m' <;> cases r <;> first | (simp at hm; done) | exact h2 | skip
    obtain ⟨q, g1, g2⟩ := h2
    exact ⟨q, by rw [← Nat.eq_of_beq_eq_true hm]; exact hp _ _ g1, g2⟩
end
/-! trees -/
def allT {α : Type} (q : Nat → α → Bool) : T α → Nat → Nat → Bool
  | .leaf, _, _ => true
  | .node l v r, a, b => (match v with | some x => q b x | none => true) && (allT q l (2 * a) (a + b) && allT q r (2 * a) (2 * a + b))
theorem allT_get {α : Type} {q : Nat → α → Bool} : ∀ {t : T α} {a b k : Nat} {x : α}, allT q t a b = true → t.get k = some x → q (a * k + b) x = true := by
  intro t
  induction t with
  | leaf => intro a b k x _ h; cases h
  | node l v r ihl ihr =>
    intro a b k x h hg
    simp only [allT, Bool.and_eq_true] at h
    simp only [T.get] at hg
    cases h0 : Nat.beq k 0 with
    | true =>
      rw [h0] at hg
      have := Nat.eq_of_beq_eq_true h0; subst this
      simp only [cond_true] at hg
      rw [hg] at h
      simpa using h.1
    | false =>
      rw [h0] at hg
      have hk := Nat.ne_of_beq_eq_false h0
      simp only [cond_false] at hg
      cases h1 : Nat.beq (k % 2) 1 with
      | true =>
        rw [h1] at hg
        have := ihl h.2.1 hg
        have hk2 := Nat.eq_of_beq_eq_true h1
        have e : 2 * a * (k / 2) + (a + b) = a * k + b := by
          obtain ⟨m, rfl⟩ : ∃ m, k = 2 * m + 1 := ⟨k / 2, by omega⟩
          rw [show (2 * m + 1) / 2 = m by omega, Nat.mul_add, Nat.mul_one, Nat.mul_right_comm, Nat.mul_comm (2 * m) a, ← Nat.mul_assoc, Nat.mul_comm a 2]; omega
        rw [e] at this; exact this
      | false =>
        rw [h1] at hg
        have := ihr h.2.2 hg
        have hk2 := Nat.ne_of_beq_eq_false h1
        have e : 2 * a * (k / 2 - 1) + (2 * a + b) = a * k + b := by
          obtain ⟨m, rfl⟩ : ∃ m, k = 2 * m + 2 := ⟨k / 2 - 1, by omega⟩
          rw [show (2 * m + 2) / 2 - 1 = m by omega, Nat.mul_add, ← Nat.mul_assoc, Nat.mul_comm a 2]; omega
        rw [e] at this; exact this
def ranB (q : Nat → Bool) : Nat → Bool
  | 0 => true
  | n + 1 => q n && ranB q n
theorem ranB_get {q : Nat → Bool} : ∀ {n : Nat}, ranB q n = true → ∀ i, i < n → q i = true := by
  intro n
  induction n with
  | zero => intro _ i h; omega
  | succ n ih =>
    intro h i hi
    simp only [ranB, Bool.and_eq_true] at h
    by_cases e : i = n
    · subst e; exact h.1
    · exact ih h.2 i (by omega)
abbrev Lg := List (Nat × Nat × Nat)
def mapLg (lb : Lg) : Lg → List (Nat × Nat × Nat)
  | [] => []
  | (i, s', e') :: l => (match lb.find? fun x => Nat.beq x.1 i with
    | some (_, s, e) => bif Nat.beq (e - s) (e' - s') && Nat.blt s e then (s, e - s, s') :: mapLg lb l else mapLg lb l
    | none => mapLg lb l)
def swapL : List (Nat × Nat × Nat) → List (Nat × Nat × Nat)
  | [] => []
  | (s, n, s') :: l => (s', n, s) :: swapL l
def oneX (G nx0 : Nat) (lb la : Lg) (eb ea : CE) (HB HA : CH) : Bool :=
  let m := mapLg lb la
  let m' := swapL m
  Nat.beq HA.nx HB.nx && Nat.ble G nx0 && Nat.ble nx0 HA.nx && ranB (fun b => Nat.beq (pi m' (pi m b)) b && Nat.blt (pi m b) HA.nx && Nat.beq (pi m (pi m' b)) b && Nat.blt (pi m' b) HA.nx) HA.nx &&
  ranB (fun b => Nat.beq (pi m' b) b) nx0 &&
  allT (fun a o => Nat.blt a HA.nx && (match HB.t.get (pi m' a) with | some o' => COeq (pi m) o' o | none => false)) HA.t 1 0 &&
  allT (fun t x => match eb.get t with | some y => CV.eqr (pi m) y x | none => false) ea 1 0
theorem oneX_ok {P : Program} {G nx0 : Nat} {h0 : Hp} {lb la : Lg} {eb ea : CE} {HB HA : CH} (hs : oneX G nx0 lb la eb ea HB HA = true) {σ0 σ : Sig} {ρ : Env} {h : Hp} (hfr : ∀ b, nx0 ≤ b → σ0 b = none) (hle : Le σ0 σ)
    (he : ER σ eb ρ) (hh : HR P G h0 σ HB h) : ∃ τ, Le σ0 τ ∧ ER τ ea ρ ∧ HR P G h0 τ HA h := by
  unfold oneX at hs
  simp only [Bool.and_eq_true] at hs
  obtain ⟨⟨⟨⟨⟨⟨s1, s2⟩, s3⟩, s4⟩, s5⟩, s6⟩, s7⟩ := hs
  have hnx := Nat.eq_of_beq_eq_true s1
  have hG := Nat.le_of_ble_eq_true s2
  have hn0 := Nat.le_of_ble_eq_true s3
  have inv : ∀ b, b < HA.nx → pi (swapL (mapLg lb la)) (pi (mapLg lb la) b) = b ∧ pi (mapLg lb la) b < HA.nx ∧ pi (mapLg lb la) (pi (swapL (mapLg lb la)) b) = b ∧ pi (swapL (mapLg lb la)) b < HA.nx := by
    intro b hb
    have := ranB_get s4 b hb
    simp only [Bool.and_eq_true] at this
    exact ⟨Nat.eq_of_beq_eq_true this.1.1.1, by simpa [Nat.blt_eq] using this.1.1.2, Nat.eq_of_beq_eq_true this.1.2, by simpa [Nat.blt_eq] using this.2⟩
  have fix : ∀ b, b < nx0 → pi (swapL (mapLg lb la)) b = b := fun b hb => Nat.eq_of_beq_eq_true (ranB_get s5 b hb)
  generalize mapLg lb la = m at *
  generalize hm' : swapL m = m' at *
  let τ : Sig := fun a => if a < HA.nx then σ (pi m' a) else none
  have hp : ∀ b p, σ b = some p → τ (pi m b) = some p := by
    intro b p hb
    have hlt : b < HA.nx := by
      rcases Nat.lt_or_ge b HA.nx with h1 | h1
      · exact h1
      · rw [hh.fresh b (by omega)] at hb; cases hb
    obtain ⟨i1, i2, _, _⟩ := inv b hlt
    show (if pi m b < HA.nx then σ (pi m' (pi m b)) else none) = some p
    rw [if_pos i2, i1]; exact hb
  refine ⟨τ, ?_, ?_, ?_, ?_, ?_, hh.keep, ?_⟩
  · intro b p hb
    have hlt : b < nx0 := by
      rcases Nat.lt_or_ge b nx0 with h1 | h1
      · exact h1
      · rw [hfr b h1] at hb; cases hb
    show (if b < HA.nx then σ (pi m' b) else none) = some p
    rw [if_pos (by omega), fix b hlt]; exact hle _ _ hb
  · intro t x hx
    have := allT_get s7 hx
    simp only [Nat.one_mul, Nat.add_zero] at this
    split at this
    · rename_i y hy
      obtain ⟨v, g1, g2⟩ := he t y hy
      exact ⟨v, g1, CV.eqr_VR hp _ _ _ this g2⟩
    · cases this
  · intro a o ho
    have := allT_get s6 ho
    simp only [Nat.one_mul, Nat.add_zero, Bool.and_eq_true] at this
    obtain ⟨q1, q2⟩ := this
    have hlt : a < HA.nx := by simpa [Nat.blt_eq] using q1
    split at q2
    · rename_i o' ho'
      obtain ⟨p, x, g1, g2, g3⟩ := hh.obj _ _ ho'
      refine ⟨p, x, ?_, g2, COeq_ok hp q2 g3⟩
      show (if a < HA.nx then σ (pi m' a) else none) = some p
      rw [if_pos hlt]; exact g1
    · cases q2
  · intro a a' o o' p p' ga ga' hne hpa hpa'
    have q1 := allT_get s6 ga
    have q2 := allT_get s6 ga'
    simp only [Nat.one_mul, Nat.add_zero, Bool.and_eq_true] at q1 q2
    have l1 : a < HA.nx := by simpa [Nat.blt_eq] using q1.1
    have l2 : a' < HA.nx := by simpa [Nat.blt_eq] using q2.1
    have r1 := q1.2
    have r2 := q2.2
    split at r1
    · rename_i b hb
      split at r2
      · rename_i b' hb'
        have e1 : σ (pi m' a) = some p := by
          have : (if a < HA.nx then σ (pi m' a) else none) = some p := hpa
          rwa [if_pos l1] at this
        have e2 : σ (pi m' a') = some p' := by
          have : (if a' < HA.nx then σ (pi m' a') else none) = some p' := hpa'
          rwa [if_pos l2] at this
        refine hh.inj _ _ _ _ p p' hb hb' ?_ e1 e2
        intro e
        have i1 := (inv a l1).2.2.1
        have i2 := (inv a' l2).2.2.1
        rw [e] at i1
        exact hne (i1.symm.trans i2)
      · cases r2
    · cases r1
  · intro b hb
    show (if b < HA.nx then σ (pi m' b) else none) = none
    rw [if_neg (by omega)]
  · intro g hg
    obtain ⟨p, g1, g2⟩ := hh.glob g hg
    refine ⟨p, ?_, g2⟩
    show (if g < HA.nx then σ (pi m' g) else none) = some p
    rw [if_pos (by omega), fix g (by omega)]; exact g1
end Go.Ix

/-
  Code of the small machine: regions, loops, calls; what it reckons to 'true' holds of the machine's own walk.
-/
set_option linter.unusedSimpArgs false
set_option linter.unusedVariables false
namespace Go.Ix
open Go Go.Hw
class Both (R : Type) where
  an : R → R → R
instance : Both Bool := ⟨fun a b => a && b⟩
instance : Both Nat := ⟨fun a b => bif Nat.beq a 0 then b else a⟩
instance {α : Type} : Both (Option α) := ⟨fun a _ => a⟩
section
variable {R : Type} [Both R]
def entB (P : Program) (g : Nat) : Bool := match P.funcs[g]? with
  | some fn => (match fn.body with | some _ => true | none => false) && !(fn.name == "runtime.NumGoroutine")
  | none => false
theorem entB_ok (P : Program) : EnterOk P (entB P) := by
  intro f hf
  unfold entB at hf
  split at hf
  · rename_i fn hfn
    simp only [Bool.and_eq_true, Bool.not_eq_true'] at hf
    refine ⟨fn, hfn, ?_, hf.2⟩
    cases hb : fn.body with
    | none => rw [hb] at hf; simp at hf
    | some c => rfl
  · cases hf
abbrev Call (R : Type) := Nat → List CV → CH → (CV → CH → R) → R
def vksOk (P : Program) : List TypeId → List CV → Bool
  | [], [] => true
  | t :: l, x :: m => vkOk P t x && vksOk P l m
  | _, _ => false
def rsOk (P : Program) (t : TypeId) (x : CV) : Bool :=
  match P.underlying t with
  | some (.tuple ⟨[]⟩) => true
  | some (.tuple ⟨ts⟩) => match x with
    | .tup l => vksOk P ts l
    | _ => false
  | _ => vkOk P t x
def invX (P : Program) (name : String) (t : TypeId) : Option Nat := match P.info? t with
  | some i => match i.methods.find? (·.name == name) with
    | some m => match m.path.toList, m.func with
      | [], some (f, pr) => match P.underlying t with
        | some (.pointer _) => bif pr then some f else none
        | some _ => bif pr then none else some f
        | none => none
      | _, _ => none
    | none => none
  | none => none
def allK (fl : Nat → R) (k : CV → CH → R) : List (CV × CH) → R
  | [] => fl 21
  | [(y, H')] => k y H'
  | (y, H') :: z :: l => Both.an (k y H') (allK fl k (z :: l))
def tagO : Op → Nat
  | .move _ => 1 | .assign _ => 2 | .pick .. => 3 | .alloc _ => 4 | .box .. => 5 | .build .. => 6 | .buildSlice .. => 7 | .insert .. => 8 | .load .. => 9 | .store .. => 10
  | .nilCheck _ => 11 | .binOp .. => 12 | .unOp .. => 13 | .convert .. => 14 | .makeInterface .. => 15 | .makeFunc .. => 16 | .makeMap .. => 17 | .makeSlice .. => 18 | .slice .. => 19 | .fieldAddr .. => 20
  | .field .. => 21 | .indexAddr .. => 22 | .index .. => 23 | .lookup .. => 24 | .mapUpdate .. => 25 | .mapEntry .. => 26 | .entryStore .. => 27 | .range .. => 28 | .next .. => 29 | .entry _ => 30
  | .typeAssert .. => 31 | .extract .. => 32 | .call ⟨.builtin .append, _, _⟩ => 41 | .call ⟨.builtin .copy, _, _⟩ => 42 | .call ⟨.builtin .len, _, _⟩ => 43 | .call ⟨.builtin _, _, _⟩ => 44 | .call ⟨.invoke .., _, _⟩ => 45 | .call _ => 46
  | .panic _ => 47 | .sliceToArrayPointer .. => 48 | .ready _ => 49 | .waits _ => 50
  | _ => 51
def opX (fl : Nat → R) (P : Program) (G : Nat) (call : Call R) (o : Oper) (env : CE) (H : CH) (k : CV → CH → R) : R :=
  match vX P G H env o with
  | some y => k y H
  | none => match eX P G H env o with
    | some (y, H') => k y H'
    | none => match o.op with
      | .call ⟨.value f, args, _⟩ => match evC G env f with
        | some (.fn g fs cs) => match evCs G env args.toList with
          | some vs => bif entB P g then call g (fs ++ (vs ++ cs)) H fun y H' => bif rsOk P o.type y then k y H' else fl 1
              else (match exOf P g with
              | some e => match extX e H (fs ++ (vs ++ cs)) with
                | some y => bif rsOk P o.type y then k y H else fl 1
                | none => fl 20
              | none => fl (1000 + g))
          | none => fl 2
        | _ => fl 3
      | .call ⟨.invoke r name, args, _⟩ => match evC G env r with
        | some (.ifc t x) => match evCs G env args.toList with
          | some vs => match invX P name t with
            | some g => bif entB P g then call g (x :: vs) H k else fl (1000 + g)
            | none => fl 24
          | none => fl 2
        | _ => fl 25
      | .entry x => match evC G env x with
        | some x => match entX H x with
          | some y => k y H
          | none => fl 23
        | none => fl 2
      | .next x false => match evC G env x with
        | some x => match mnX H x with
          | some l => allK fl k l
          | none => fl 22
        | none => fl 2
      | _ => fl (2000 + tagO o.op)
def gdX (l : List Oper) (j : Nat) (env : CE) : Option (Option Bool) := match gdstL l j with
  | some d => match env.get d with
    | some (.bool c) => some (some c)
    | some (.tup _) => some none
    | _ => none
  | none => none
def stepX (fl : Nat → R) (P : Program) (G : Nat) (call : Call R) (n : Nat) (all : List Oper) (o : Oper) (env : CE) (H : CH) (k : CE → CH → R) : R :=
  bif okDst n o.dst then
    match o.guard with
    | none => opX fl P G call o env H fun y H' => k (putE env o.dst y) H'
    | some (j, want) => match gdX all j env with
      | some c => bif gEq c want then opX fl P G call o env H fun y H' => k (putE env o.dst y) H' else k (putE env o.dst (.tup [])) H
      | none => fl 5
  else fl 6
def opsX (fl : Nat → R) (P : Program) (G : Nat) (call : Call R) (n : Nat) (all : List Oper) : List Oper → CE → CH → (CE → CH → R) → R
  | [], env, H, k => k env H
  | o :: l, env, H, k => stepX fl P G call n all o env H fun env' H' => opsX fl P G call n all l env' H' k
abbrev WX := List (Nat × Oper × CE × CV)
def chkW (P : Program) (G : Nat) (m : Nat) (H : CH) : WX → Bool
  | [] => true
  | (i, o, env, y) :: W => (bit m i || (match vX P G H env o with
    | some z => CV.eq y z
    | none => false)) && chkW P G m H W
def dDX (fl : Nat → R) (P : Program) (G : Nat) (call : Call R) (n : Nat) (all : List Oper) (M : List Nat) : WX → List Nat → CE → CH → (CE → CH → R) → R
  | _, [], env, H, k => k env H
  | W, i :: l, env, H, k =>
    match all[i]? with
    | none => fl 7
    | some o => match clsO P o with
      | .pure => stepX fl P G call n all o env H fun env' H' => dDX fl P G call n all M W l env' H' k
      | .eff => stepX fl P G call n all o env H fun env' H' => bif chkW P G (M.getD i 0) H' W then dDX fl P G call n all M W l env' H' k else fl 8
      | .read => bif okDst n o.dst then
          match o.guard with
          | none => match vX P G H env o with
            | some y => dDX fl P G call n all M ((i, o, env, y) :: W) l (putE env o.dst y) H k
            | none => fl 9
          | some (j, want) => match gdX all j env with
            | some c => bif gEq c want then (match vX P G H env o with
                | some y => dDX fl P G call n all M ((i, o, env, y) :: W) l (putE env o.dst y) H k
                | none => fl 9) else dDX fl P G call n all M W l (putE env o.dst (.tup [])) H k
            | none => fl 5
        else fl 6
def pickO (P : Program) (done : Nat) (M : List Nat) (any : Bool) : List Oper → Nat → Option Nat
  | [], _ => none
  | o :: l, i => bif !bit done i && (Nat.beq (Nat.land (M.getD i 0) done) (M.getD i 0) && (any || (match clsO P o with | .eff => false | _ => true))) then some i else pickO P done M any l (i + 1)
def ordX (P : Program) (ops : List Oper) (M : List Nat) : Nat → Nat → List Nat
  | 0, _ => []
  | f + 1, done => match pickO P done M false ops 0 with
    | some i => i :: ordX P ops M f (Nat.lor done (Nat.shiftLeft 1 i))
    | none => match pickO P done M true ops 0 with
      | some i => i :: ordX P ops M f (Nat.lor done (Nat.shiftLeft 1 i))
      | none => []
def valG (P : Program) (G n : Nat) (all : List Oper) (o : Oper) (env : CE) (H : CH) : Option CV :=
  bif okDst n o.dst then
    match o.guard with
    | none => vX P G H env o
    | some (j, want) => match gdX all j env with
      | some c => bif gEq c want then vX P G H env o else some (.tup [])
      | none => none
  else none
def chkT (P : Program) (G n : Nat) (all : List Oper) (m : Nat) (H : CH) : WX → Bool
  | [] => true
  | (i, o, env, y) :: W => (bit m i || (match valG P G n all o env H with
    | some z => CV.eq y z
    | none => false)) && chkT P G n all m H W
def rdB (done : Nat) (o : Oper) (i : Nat) : Bool := !bit done i && (o.after.toList.all fun e => !Region.binds .any e || bit done e.on)
def pickT (P : Program) (done : Nat) : List Oper → Nat → Option Nat
  | [], _ => none
  | o :: l, i => bif rdB done o i && (match clsO P o with | .eff => false | _ => true) then some i else pickT P done l (i + 1)
def effsT (done : Nat) : List Oper → Nat → List Nat
  | [], _ => []
  | o :: l, i => bif rdB done o i then i :: effsT done l (i + 1) else effsT done l (i + 1)
def allI (run : Nat → R) : Nat → List Nat → R
  | i, [] => run i
  | i, j :: r => Both.an (run i) (allI run j r)
def treeX (fl : Nat → R) (P : Program) (G : Nat) (call : Call R) (n : Nat) (all : List Oper) (M : List Nat) (one : Bool) : Nat → Nat → WX → Lg → CE → CH → (Lg → CE → CH → R) → R
  | 0, done, _, lg, env, H, k => (match pickT P done all 0, effsT done all 0 with
    | none, [] => k lg env H
    | _, _ => fl 31)
  | f + 1, done, W, lg, env, H, k => (match pickT P done all 0 with
    | some i => (match all[i]? with
      | none => fl 7
      | some o => (match valG P G n all o env H with
        | some y => (match clsO P o with
          | .pure => treeX fl P G call n all M one f (Nat.lor done (Nat.shiftLeft 1 i)) W lg (putE env o.dst y) H k
          | .read => treeX fl P G call n all M one f (Nat.lor done (Nat.shiftLeft 1 i)) ((i, o, env, y) :: W) lg (putE env o.dst y) H k
          | .eff => fl 7)
        | none => fl 9))
    | none => (match effsT done all 0 with
      | [] => k lg env H
      | i :: r =>
        let run : Nat → R := fun i => (match all[i]? with
          | none => fl 7
          | some o => (match clsO P o with
            | .eff => stepX fl P G call n all o env H fun env' H' => bif chkT P G n all (M.getD i 0) H' W then treeX fl P G call n all M one f (Nat.lor done (Nat.shiftLeft 1 i)) W ((i, H.nx, H'.nx) :: lg) env' H' k else fl 8
            | _ => fl 7))
        bif one then run i else allI run i r))
abbrev Tre (R : Type) := Call R → Nat → List Oper → CE → CH → (CE → CH → R) → R
def tree1 (fl : Nat → R) (P : Program) (G : Nat) : Tre R := fun call n ops env H k => treeX fl P G call n ops (masks ops []) true ops.length 0 [] [] env H fun _ e h => k e h
def regX (fl : Nat → R) (P : Program) (G : Nat) (tr : Tre R) (call : Call R) (n : Nat) (ops : List Oper) (draw : Bool) (env : CE) (H : CH) (k : CE → CH → R) : R :=
  bif draw then
    (bif orderGood P ops (ordX P ops (masks ops []) ops.length 0) then dDX fl P G call n ops (masks ops []) [] (ordX P ops (masks ops []) ops.length 0) env H k else tr call n ops env H k)
  else opsX fl P G call n ops ops env H k
def loopX (fl : Nat → R) (body : CE → CH → (Exit → CE → CH → R) → R) : Nat → CE → CH → (Exit → CE → CH → R) → R
  | 0, _, _, _ => fl 11
  | m + 1, env, H, k => body env H fun e env' H' => match e with
    | .normal => loopX fl body m env' H' k
    | .exit i => k (.exit i) env' H'
    | .goto l => k (.goto l) env' H'
    | .ret => k .ret env' H'
    | _ => fl 12
def cX (fl : Nat → R) (P : Program) (G : Nat) (tr : Tre R) (call : Call R) (lf : Nat) (n : Nat) : Code → CE → CH → (Exit → CE → CH → R) → R
  | .skip, env, H, k => k .normal env H
  | .region _ ops draw, env, H, k => regX fl P G tr call n ops.toList draw env H fun env' H' => k .normal env' H'
  | .seq x y, env, H, k => cX fl P G tr call lf n x env H fun e env' H' => match e with
    | .normal => cX fl P G tr call lf n y env' H' k
    | .exit i => k (.exit i) env' H'
    | .goto l => k (.goto l) env' H'
    | .ret => k .ret env' H'
    | _ => fl 12
  | .cond c x y, env, H, k => match evC G env c with
    | some (.bool b) => bif b then cX fl P G tr call lf n x env H k else cX fl P G tr call lf n y env H k
    | _ => fl 13
  | .block id c, env, H, k => cX fl P G tr call lf n c env H fun e env' H' => match e with
    | .normal => k .normal env' H'
    | .exit i => bif Nat.beq i id then k .normal env' H' else k (.exit i) env' H'
    | .goto l => k (.goto l) env' H'
    | .ret => k .ret env' H'
    | _ => fl 12
  | .scope c, env, H, k => cX fl P G tr call lf n c env H fun e env' H' => match e with
    | .normal => k .normal env' H'
    | .exit i => k (.exit i) env' H'
    | .ret => k .ret env' H'
    | _ => fl 12
  | .loop c, env, H, k => loopX fl (cX fl P G tr call lf n c) lf env H k
  | .exit id, env, H, k => k (.exit id) env H
  | .label _, env, H, k => k .normal env H
  | .ret, env, H, k => k .ret env H
  | _, _, _, _ => fl 14
def argsX : Nat → List CV → CE
  | _, [] => .leaf
  | i, x :: l => (argsX (i + 1) l).set i (some x)
def resX (P : Program) (H : CH) (env : CE) : List ResultVar → Option (List CV)
  | [] => some []
  | .tmp t :: r => match env.get t, resX P H env r with
    | some x, some l => some (x :: l)
    | _, _ => none
  | .cell a t :: r => match env.get a with
    | some (.ptr b o) => bif (P.underlying t).isSome then (match ldX P H t b o, resX P H env r with
      | some x, some l => some (x :: l)
      | _, _ => none) else none
    | _ => none
def resC : List CV → CV
  | [x] => x
  | l => .tup l
def callX (fl : Nat → R) (P : Program) (G : Nat) (tr : Tre R) (lf : Nat) : Nat → Call R
  | 0, _, _, _, _ => fl 15
  | m + 1, g, args, H, k => match P.funcs[g]? with
    | some fn => match fn.body with
      | some c => bif Nat.ble args.length fn.ntmps then cX (fun i => fl (i + 10000 * g)) P G tr (callX fl P G tr lf m) lf fn.ntmps c (argsX 0 args) H fun e env' H' =>
          (match e with
          | .normal => (match resX P H' env' fn.results.toList with
            | some l => k (resC l) H'
            | none => fl 16)
          | .ret => (match resX P H' env' fn.results.toList with
            | some l => k (resC l) H'
            | none => fl 16)
          | _ => fl 12) else fl 17
      | none => fl 18
    | none => fl 19
end
section
variable {P : Program} {G : Nat} {h0 : Hp}
abbrev no : Nat → Bool := fun _ => false
def CallOk (P : Program) (G : Nat) (h0 : Hp) (call : Call Bool) : Prop := ∀ g args H k, call g args H k = true → ∀ σ h vs, VRs σ args vs → HR P G h0 σ H h →
  ∀ K : Value → Hp → Prop, (∀ σ' y v H' h', Le σ σ' → VR σ' y v → HR P G h0 σ' H' h' → k y H' = true → K v h') → HCalls P g ⟨vs⟩ h K
theorem vkOk_VT {t : TypeId} {σ : Sig} {x : CV} {v : Value} (hk : vkOk P t x = true) (hr : VR σ x v) {F : (vtOf P t).T → Prop} (hf : ∀ y, (vtOf P t).mk y = v → F y) : (vtOf P t).on (some v) F := by
  unfold vkOk at hk
  generalize vtOf P t = vt at hk F hf ⊢
  split at hk
  · exact kOk_on (F := F) hk hr hf
  · split at hk
    · unfold VR at hr; obtain ⟨vs, rfl, hvs⟩ := hr
      exact ksOk_on hk hvs fun y hy => hf y (by show Value.agg ⟨TL.mk _ y⟩ = _; rw [hy])
    · cases hk
theorem vksOk_on {σ : Sig} : ∀ {ts : List TypeId} {l : List CV} {vs : List Value} {F : TVs (mapT (vtOf P) ts) → Prop}, vksOk P ts l = true → VRs σ l vs → (∀ y, TVs.mk (mapT (vtOf P) ts) y = vs → F y) → TVs.on (mapT (vtOf P) ts) vs F
  | [], l, vs, F, hk, hv, hf => by
    cases l with
    | nil => unfold VRs at hv; subst hv; exact hf () rfl
    | cons => cases hk
  | [t], l, vs, F, hk, hv, hf => by
    rcases l with _ | ⟨x, _ | ⟨y, l⟩⟩
    · cases hk
    · unfold VRs at hv; obtain ⟨v, r, rfl, h1, h2⟩ := hv
      unfold VRs at h2; subst h2
      simp only [vksOk, Bool.and_true] at hk
      exact vkOk_VT hk h1 fun y hy => hf y (by simp [TVs.mk, mapT, hy])
    · simp [vksOk] at hk
  | t :: u :: ts, l, vs, F, hk, hv, hf => by
    cases l with
    | nil => cases hk
    | cons x l =>
      unfold VRs at hv; obtain ⟨v, r, rfl, h1, h2⟩ := hv
      simp only [vksOk, Bool.and_eq_true] at hk
      refine vkOk_VT hk.1 h1 fun y hy => ?_
      have hk2 : vksOk P (u :: ts) l = true := by
        cases l with
        | nil => simp [vksOk] at hk
        | cons => simpa [vksOk] using hk.2
      exact vksOk_on (ts := u :: ts) hk2 h2 fun z hz => hf (y, z) (by
        show (vtOf P t).mk y :: TVs.mk (mapT (vtOf P) (u :: ts)) z = _
        rw [hy, hz])
theorem rsOk_ok {t : TypeId} {σ : Sig} {x : CV} {v : Value} (hk : rsOk P t x = true) (hr : VR σ x v) {F : Value → Prop} (hf : F v) : resOn P t v F := by
  unfold rsOk at hk
  unfold resOn
  split at hk
  · rename_i hu; rw [hu]; exact hf
  · rename_i ts hn hu
    rw [hu]; simp only []
    split at hk
    · unfold VR at hr; obtain ⟨vs, rfl, hvs⟩ := hr
      unfold tupOn; simp only []
      exact vksOk_on hk hvs fun y hy => by rw [hy]; exact hf
    · cases hk
  · rename_i h1 h2
    split
    · rename_i hu; exact absurd hu h1
    · rename_i ts hts hu; exact absurd hu (h2 ts)
    · exact vkOk_VT hk hr fun y hy => by rw [hy]; exact hf
theorem allK_ok {k : CV → CH → Bool} : ∀ {l : List (CV × CH)}, allK no k l = true → ∀ y H', (y, H') ∈ l → k y H' = true
  | [], h, y, H', hm => by cases hm
  | [(a, A)], h, y, H', hm => by
    rw [List.mem_singleton] at hm; cases hm; exact h
  | (a, A) :: z :: l, h, y, H', hm => by
    have h2 : (k a A && allK no k (z :: l)) = true := h
    rw [Bool.and_eq_true] at h2
    cases hm with
    | head => exact h2.1
    | tail _ hm => exact allK_ok h2.2 y H' hm
theorem invX_ok {name : String} {t : TypeId} {g : Nat} (hi : invX P name t = some g) {v : Value} {h : Hp} {n : Nat} {K : FuncId × Value → Hp → Prop} (hK : K (g, v) h) : swp P (method (n + 1) t v name) h K := by
  unfold invX at hi
  split at hi
  · rename_i i hinf
    split at hi
    · rename_i m hm
      split at hi
      · rename_i f pr hp hf
        unfold method
        rw [swp_bind']
        refine typeInfo_swp hinf ?_
        rw [hm]
        simp only [hp, swp_bind']
        unfold follow
        rw [swp_pure]
        simp only [hf, swp_bind']
        split at hi
        · rename_i e hu
          cases pr with
          | false => cases hi
          | true =>
            cases hi
            unfold receiverAt
            rw [swp_bind']
            refine underlying_swp hu ?_
            exact hK
        · rename_i d hn hu
          cases pr with
          | true => cases hi
          | false =>
            cases hi
            unfold receiverAt
            rw [swp_bind']
            refine underlying_swp hu ?_
            cases d <;> first | exact hK | exact absurd rfl (hn _)
        · cases hi
      · cases hi
    · cases hi
  · cases hi
theorem opX_ok {call : Call Bool} (hc : CallOk P G h0 call) {o : Oper} {env : CE} {H : CH} {k : CV → CH → Bool} (hx : opX no P G call o env H k = true) {σ : Sig} {ρ : Env} {h : Hp} (he : ER σ env ρ) (hh : HR P G h0 σ H h)
    {K : Value → Hp → Prop} (hK : ∀ σ' y v H' h', Le σ σ' → VR σ' y v → HR P G h0 σ' H' h' → k y H' = true → K v h') : opK P (entB P) o ρ h K := by
  unfold opX at hx
  split at hx
  · rename_i y hy
    obtain ⟨v, h1, h2⟩ := vX_ok (E := entB P) he hh hy
    exact h2 K (hK σ y v H h (Le.refl σ) h1 hh hx)
  · split at hx
    · rename_i y H' hy
      exact eX_ok he hh hy fun σ' v h' hl hv hh' => hK σ' y v H' h' hl hv hh' hx
    · split at hx
      · rename_i f args ts ho
        split at hx
        · rename_i g fs cs hf
          split at hx
          · rename_i vs hvs
            obtain ⟨vf, f1, f2⟩ := evC_ok hf he hh
            obtain ⟨ws, w1, w2, w3, w4⟩ := evCs_ok he hh hvs
            unfold VR at f2; obtain ⟨xs, ys, rfl, x1, y1⟩ := f2
            unfold opK
            rw [ho]
            refine mv_ok f1 (w4 [] _ ?_)
            simp only [List.reverse_nil, List.nil_append]
            unfold callK HCallV
            simp only []
            cases hb : entB P g with
            | false =>
              rw [hb] at hx
              simp only [cond_false] at hx ⊢
              split at hx
              · rename_i e he'
                split at hx
                · rename_i y hy
                  cases hrs : rsOk P o.type y with
                  | false => rw [hrs] at hx; cases hx
                  | true =>
                    rw [hrs] at hx
                    obtain ⟨v, v1, v2⟩ := ext_ok hh he' hy (x1.app (w1.app y1))
                    exact v2 _ (rsOk_ok (F := fun v' => K v' h) hrs v1 (hK σ y v H h (Le.refl σ) v1 hh hx))
                · cases hx
              · cases hx
            | true =>
              rw [hb] at hx
              simp only [cond_true] at hx ⊢
              refine hc _ _ _ _ hx σ h _ (x1.app (w1.app y1)) hh _ ?_
              intro σ' y v H' h' hl hv hh' hky
              cases hrs : rsOk P o.type y with
              | false => rw [hrs] at hky; cases hky
              | true =>
                rw [hrs] at hky
                exact rsOk_ok (F := fun v' => K v' h') hrs hv (hK σ' y v H' h' hl hv hh' hky)
          · cases hx
        · cases hx
      · rename_i r name args ts ho
        split at hx
        · rename_i t x hrx
          split at hx
          · rename_i vs hvs
            split at hx
            · rename_i g hg
              cases hb : entB P g with
              | false => rw [hb] at hx; cases hx
              | true =>
                rw [hb] at hx
                simp only [cond_true] at hx
                obtain ⟨vr, f1, f2⟩ := evC_ok hrx he hh
                obtain ⟨ws, w1, w2, w3, _⟩ := evCs_ok he hh hvs
                unfold VR at f2; obtain ⟨xv, rfl, f3⟩ := f2
                unfold opK
                rw [ho]
                show someAny ρ P o h K
                unfold someAny
                have hokk : (okAll ρ o.op.operands.toList && !isSel o.op) = true := by
                  rw [ho]
                  simp only [Op.operands, Call.operands, isSel, Bool.not_false, Bool.and_true]
                  have : okAll ρ (r :: args.toList) = true := by simp [okAll, (some1 f1).1, w2]
                  simpa using this
                rw [hokk]
                show opS P o (evD ρ) h K
                unfold opS execOp
                rw [ho]
                simp only []
                have hres : resolve (evD ρ) ⟨.invoke r name, args, ts⟩ o.type = (pure { target := .fn (.method name) #[], args := #[.iface t xv] ++ args.map (evD ρ) } : Sem Deferred) := by
                  unfold resolve; simp only [(some1 f1).2]
                rw [hres]
                show swp P (invoke (.fn (.method name) #[]) (#[.iface t xv] ++ args.map (evD ρ))) h (nextK P K)
                have hargs : (#[.iface t xv] ++ args.map (evD ρ) : Array Value) = ⟨.iface t xv :: ws⟩ := by apply Array.ext'; simp [w3]
                rw [hargs]
                have hinv : invoke (.fn (.method name) #[]) ⟨.iface t xv :: ws⟩ = callMethod (.iface t xv) name ⟨ws⟩ := by
                  unfold invoke
                  have e0 : (⟨.iface t xv :: ws⟩ : Array Value)[0]? = some (.iface t xv) := rfl
                  simp only [e0]
                  congr 1
                  apply Array.ext'; simp
                rw [hinv]
                unfold callMethod
                simp only []
                rw [swp_bind', program_swp, swp_bind']
                have hd : P.types.size + Made.depth = (P.types.size + Made.depth - 1) + 1 := by
                  have : 0 < Made.depth := by decide
                  omega
                rw [hd]
                refine invX_ok hg ?_
                have ha : (#[xv] ++ ⟨ws⟩ : Array Value) = ⟨xv :: ws⟩ := by apply Array.ext'; simp
                simp only [ha]
                refine callFunc_swp (entB_ok P) hb ?_
                exact hc _ _ _ _ hx σ h _ (by unfold VRs; exact ⟨xv, ws, rfl, f3, w1⟩) hh _ hK
            · cases hx
          · cases hx
        · cases hx
      · rename_i x ho
        split at hx
        · rename_i c hcx
          split at hx
          · rename_i y hy
            obtain ⟨v, h1, h2⟩ := evC_ok hcx he hh
            obtain ⟨w, p, rfl, g1, g2⟩ := entX_ok (h := h) hh hy h2
            unfold opK
            rw [ho]
            exact mv_ok h1 (g2 K (hK σ y w H h (Le.refl σ) g1 hh hx))
          · cases hx
        · cases hx
      · rename_i x ho
        split at hx
        · rename_i c hcx
          split at hx
          · rename_i l hl
            obtain ⟨v, h1, h2⟩ := evC_ok hcx he hh
            obtain ⟨p, rfl, hn⟩ := mnX_ok (K := K) hh hl h2 fun y H' hm v h' hv hh' => hK σ y v H' h' (Le.refl σ) hv hh' (allK_ok hx y H' hm)
            unfold opK
            rw [ho]
            exact mv_ok h1 hn
          · cases hx
        · cases hx
      · cases hx
theorem gdX_ok {l : List Oper} {j : Nat} {env : CE} {σ : Sig} {ρ : Env} (he : ER σ env ρ) {c : Option Bool} (hg : gdX l j env = some c) {F : Option Bool → Env → Prop} (hF : F c ρ) : gK ρ (gdstL l j) F := by
  unfold gdX at hg
  unfold gK
  split at hg
  · rename_i d hd
    rw [hd]; simp only []
    split at hg
    · rename_i b hb
      cases hg
      obtain ⟨v, h1, h2⟩ := he d _ hb
      unfold VR at h2; subst h2
      rw [h1]; simp only []
      cases b
      · simp only [cond_false]; rw [putd_same h1]; exact hF
      · simp only [cond_true]; rw [putd_same h1]; exact hF
    · rename_i b hb
      cases hg
      obtain ⟨v, h1, h2⟩ := he d _ hb
      unfold VR at h2; obtain ⟨vs, rfl, _⟩ := h2
      rw [h1]; exact hF
    · cases hg
  · cases hg
theorem stepX_ok {call : Call Bool} (hc : CallOk P G h0 call) {n : Nat} {all : List Oper} {o : Oper} {env : CE} {H : CH} {k : CE → CH → Bool} (hx : stepX no P G call n all o env H k = true) {σ : Sig} {ρ : Env} {h : Hp}
    (he : ER σ env ρ) (hh : HR P G h0 σ H h) {X : Env → Hp → Prop} (hX : ∀ σ' env' ρ' H' h', Le σ σ' → ER σ' env' ρ' → HR P G h0 σ' H' h' → k env' H' = true → X ρ' h') : denOp P (entB P) n all o ρ h X := by
  unfold stepX at hx
  cases hd : okDst n o.dst with
  | false => rw [hd] at hx; cases hx
  | true =>
    rw [hd] at hx
    simp only [cond_true] at hx
    unfold denOp
    cases hg : o.guard with
    | none =>
      rw [hg] at hx
      simp only [] at hx ⊢
      rw [hd]
      exact opX_ok hc hx he hh fun σ' y v H' h' hl hv hh' hk => hX σ' _ _ H' h' hl ((he.mono hl).put o.dst hv) hh' hk
    | some g =>
      obtain ⟨j, want⟩ := g
      rw [hg] at hx
      simp only [] at hx ⊢
      split at hx
      · rename_i c hcg
        refine gdX_ok he hcg ?_
        rw [hd]
        simp only [cond_true]
        cases hq : gEq c want with
        | true =>
          rw [hq] at hx
          exact opX_ok hc hx he hh fun σ' y v H' h' hl hv hh' hk => hX σ' _ _ H' h' hl ((he.mono hl).put o.dst hv) hh' hk
        | false =>
          rw [hq] at hx
          exact hX σ _ _ H h (Le.refl σ) (he.put o.dst VR_undef) hh hx
      · cases hx
theorem opsX_ok {call : Call Bool} (hc : CallOk P G h0 call) {n : Nat} {all : List Oper} : ∀ {l : List Oper} {env : CE} {H : CH} {k : CE → CH → Bool} (hx : opsX no P G call n all l env H k = true) {σ : Sig} {ρ : Env} {h : Hp}
    (he : ER σ env ρ) (hh : HR P G h0 σ H h) {X : Env → Hp → Prop} (hX : ∀ σ' env' ρ' H' h', Le σ σ' → ER σ' env' ρ' → HR P G h0 σ' H' h' → k env' H' = true → X ρ' h'), denOps P (entB P) n all l ρ h X := by
  intro l
  induction l with
  | nil => intro env H k hx σ ρ h he hh X hX; exact hX σ env ρ H h (Le.refl σ) he hh hx
  | cons o l ih =>
    intro env H k hx σ ρ h he hh X hX
    unfold denOps
    refine stepX_ok hc (show stepX no P G call n all o env H (fun env' H' => opsX no P G call n all l env' H' k) = true from hx) he hh ?_
    intro σ' env' ρ' H' h' hl he' hh' hk
    exact ih hk he' hh' fun σ'' env'' ρ'' H'' h'' hl' => hX σ'' env'' ρ'' H'' h'' (hl.trans hl')
def WR (P : Program) (σ : Sig) : WX → Watch → Prop
  | [], W => W = []
  | (i, o, env, y) :: r, W => ∃ ρ v W', W = (i, rechk P (entB P) o ρ v) :: W' ∧ ER σ env ρ ∧ VR σ y v ∧ WR P σ r W'
theorem WR.mono {σ σ' : Sig} (hs : Le σ σ') : ∀ {w : WX} {W : Watch}, WR P σ w W → WR P σ' w W := by
  intro w
  induction w with
  | nil => intro W h; exact h
  | cons a w ih =>
    intro W h
    obtain ⟨i, o, env, y⟩ := a
    unfold WR at h ⊢; obtain ⟨ρ, v, W', h1, h2, h3, h4⟩ := h
    exact ⟨ρ, v, W', h1, h2.mono hs, h3.mono hs _ _, ih h4⟩
theorem chkW_ok {m : Nat} {H : CH} {σ : Sig} {h : Hp} (hh : HR P G h0 σ H h) {X : Prop} (hX : X) : ∀ {w : WX} {W : Watch}, chkW P G m H w = true → WR P σ w W → andW m W h X := by
  intro w
  induction w with
  | nil => intro W _ hW; unfold WR at hW; subst hW; exact hX
  | cons a w ih =>
    intro W hc hW
    obtain ⟨i, o, env, y⟩ := a
    unfold WR at hW; obtain ⟨ρ, v, W', rfl, h2, h3, h4⟩ := hW
    simp only [chkW, Bool.and_eq_true, Bool.or_eq_true] at hc
    unfold andW
    cases hb : bit m i with
    | true => exact ih hc.2 h4
    | false =>
      rw [hb] at hc
      refine ⟨?_, ih hc.2 h4⟩
      have h5 := hc.1.resolve_left (by simp)
      split at h5
      · rename_i z hz
        have := CV.eq_eq _ _ h5; subst this
        obtain ⟨v', g1, g2⟩ := vX_ok (E := entB P) h2 hh hz
        have := VR.one _ _ _ h3 g1; subst this
        exact g2 _ ⟨rfl, rfl⟩
      · cases h5
theorem dDX_ok {call : Call Bool} (hc : CallOk P G h0 call) {n : Nat} {all : List Oper} {M : List Nat} : ∀ {l : List Nat} {w : WX} {env : CE} {H : CH} {k : CE → CH → Bool} (hx : dDX no P G call n all M w l env H k = true) {σ : Sig} {ρ : Env} {h : Hp} {W : Watch}
    (he : ER σ env ρ) (hh : HR P G h0 σ H h) (hw : WR P σ w W) {X : Env → Hp → Prop} (hX : ∀ σ' env' ρ' H' h', Le σ σ' → ER σ' env' ρ' → HR P G h0 σ' H' h' → k env' H' = true → X ρ' h'), dD P (entB P) n all M X W l ρ h := by
  intro l
  induction l with
  | nil => intro w env H k hx σ ρ h W he hh hw X hX; exact hX σ env ρ H h (Le.refl σ) he hh hx
  | cons i l ih =>
    intro w env H k hx σ ρ h W he hh hw X hX
    unfold dDX at hx
    unfold dD
    cases ho : all[i]? with
    | none => rw [ho] at hx; cases hx
    | some o =>
      rw [ho] at hx
      simp only [] at hx ⊢
      cases hcl : clsO P o with
      | pure =>
        rw [hcl] at hx
        simp only [] at hx ⊢
        refine stepX_ok hc hx he hh ?_
        intro σ' env' ρ' H' h' hl he' hh' hk
        exact ih hk he' hh' (hw.mono hl) fun σ'' env'' ρ'' H'' h'' hl' => hX σ'' env'' ρ'' H'' h'' (hl.trans hl')
      | eff =>
        rw [hcl] at hx
        simp only [] at hx ⊢
        refine stepX_ok hc hx he hh ?_
        intro σ' env' ρ' H' h' hl he' hh' hk
        cases hck : chkW P G (M.getD i 0) H' w with
        | false => rw [hck] at hk; cases hk
        | true =>
          rw [hck] at hk
          exact chkW_ok hh' (ih hk he' hh' (hw.mono hl) fun σ'' env'' ρ'' H'' h'' hl' => hX σ'' env'' ρ'' H'' h'' (hl.trans hl')) hck (hw.mono hl)
      | read =>
        rw [hcl] at hx
        simp only [] at hx ⊢
        cases hd : okDst n o.dst with
        | false => rw [hd] at hx; cases hx
        | true =>
          rw [hd] at hx
          simp only [cond_true] at hx
          cases hg : o.guard with
          | none =>
            rw [hg] at hx
            simp only [cond_true] at hx ⊢
            split at hx
            · rename_i y hy
              obtain ⟨v, g1, g2⟩ := vX_ok (E := entB P) he hh hy
              refine g2 _ ?_
              refine ih hx (he.put o.dst g1) hh ?_ hX
              unfold WR; exact ⟨ρ, v, W, rfl, he, g1, hw⟩
            · cases hx
          | some g =>
            obtain ⟨j, want⟩ := g
            rw [hg] at hx
            simp only [cond_true] at hx ⊢
            split at hx
            · rename_i c hcg
              refine gdX_ok he hcg ?_
              cases hq : gEq c want with
              | true =>
                rw [hq] at hx
                simp only [cond_true] at hx ⊢
                split at hx
                · rename_i y hy
                  obtain ⟨v, g1, g2⟩ := vX_ok (E := entB P) he hh hy
                  refine g2 _ ?_
                  refine ih hx (he.put o.dst g1) hh ?_ hX
                  unfold WR; exact ⟨ρ, v, W, rfl, he, g1, hw⟩
                · cases hx
              | false =>
                rw [hq] at hx
                simp only [cond_false] at hx ⊢
                exact ih hx (he.put o.dst VR_undef) hh hw hX
            · cases hx
theorem gd_ok {ops : Array Oper} {j : Nat} {env : CE} {σ : Sig} {ρ : Env} (he : ER σ env ρ) {c : Option Bool} (hg : gdX ops.toList j env = some c) : ∃ v, (gdst ops j).bind ρ = some v ∧ blOf v = c := by
  unfold gdX at hg
  rw [gdstL_eq] at hg
  split at hg
  · rename_i d hd
    rw [hd]
    split at hg
    · rename_i b hb
      cases hg
      obtain ⟨v, h1, h2⟩ := he d _ hb
      unfold VR at h2; subst h2
      exact ⟨_, h1, rfl⟩
    · rename_i b hb
      cases hg
      obtain ⟨v, h1, h2⟩ := he d _ hb
      unfold VR at h2; obtain ⟨vs, rfl, _⟩ := h2
      exact ⟨_, h1, rfl⟩
    · cases hg
  · cases hg
theorem valG_ok {n : Nat} {ops : Array Oper} {o : Oper} {env : CE} {H : CH} {y : CV} (hv : valG P G n ops.toList o env H = some y) (hcl : clsO P o ≠ .eff) {σ : Sig} {ρ : Env} {h : Hp} (he : ER σ env ρ) (hh : HR P G h0 σ H h) :
    ∃ v, VR σ y v ∧ YdS P n ops o ρ h v ∧ (clsO P o = .pure → ∀ h', YdS P n ops o ρ h' v) := by
  unfold valG at hv
  cases hd : okDst n o.dst with
  | false => rw [hd] at hv; cases hv
  | true =>
    rw [hd] at hv
    simp only [cond_true] at hv
    have one : vX P G H env o = some y → ∃ v, VR σ y v ∧ ((isSel o.op = false ∧ okAll ρ o.op.operands.toList = true) ∧ Yd P o (evD ρ) h v) ∧
        (clsO P o = .pure → ∀ h', (isSel o.op = false ∧ okAll ρ o.op.operands.toList = true) ∧ Yd P o (evD ρ) h' v) := by
      intro hx
      obtain ⟨v, g1, g2⟩ := vX_ok (E := entB P) he hh hx
      have hk := g2 (Only v h) ⟨rfl, rfl⟩
      refine ⟨v, g1, yd_of_opK (entB_ok P) hcl hk, fun hp h' => ?_⟩
      obtain ⟨v', k1, k2, k3⟩ := detK hcl hk
      obtain ⟨rfl, _⟩ := k1
      exact yd_of_opK (entB_ok P) hcl (k3 hp h')
    unfold YdS
    cases hg : o.guard with
    | none =>
      rw [hg] at hv
      obtain ⟨v, g1, g2, g3⟩ := one hv
      exact ⟨v, g1, ⟨hd, g2⟩, fun hp h' => ⟨hd, g3 hp h'⟩⟩
    | some g =>
      obtain ⟨j, want⟩ := g
      rw [hg] at hv
      simp only [] at hv
      split at hv
      · rename_i c hc
        obtain ⟨cv, b1, b2⟩ := gd_ok he hc
        cases hq : gEq c want with
        | true =>
          rw [hq] at hv
          have hbl : blOf cv = some want := by rw [b2]; exact gEq_eq.1 hq
          obtain ⟨v, g1, g2, g3⟩ := one hv
          exact ⟨v, g1, ⟨hd, cv, b1, by rw [if_pos hbl]; exact g2⟩, fun hp h' => ⟨hd, cv, b1, by rw [if_pos hbl]; exact g3 hp h'⟩⟩
        | false =>
          rw [hq] at hv; cases hv
          have hbl : ¬ blOf cv = some want := by rw [b2]; intro e; rw [gEq_eq.2 e] at hq; cases hq
          exact ⟨undef, VR_undef, ⟨hd, cv, b1, by rw [if_neg hbl]⟩, fun hp h' => ⟨hd, cv, b1, by rw [if_neg hbl]⟩⟩
      · cases hv
def WT (P : Program) (n : Nat) (ops : Array Oper) (σ : Sig) : WX → Watch → Prop
  | [], W => W = []
  | (i, o, env, y) :: r, W => ∃ ρ v W', W = (i, fun h' => YdS P n ops o ρ h' v) :: W' ∧ ER σ env ρ ∧ VR σ y v ∧ clsO P o ≠ .eff ∧ WT P n ops σ r W'
theorem WT.mono {n : Nat} {ops : Array Oper} {σ σ' : Sig} (hs : Le σ σ') : ∀ {w : WX} {W : Watch}, WT P n ops σ w W → WT P n ops σ' w W := by
  intro w
  induction w with
  | nil => intro W h; exact h
  | cons a w ih =>
    intro W h
    obtain ⟨i, o, env, y⟩ := a
    unfold WT at h ⊢; obtain ⟨ρ, v, W', h1, h2, h3, h4, h5⟩ := h
    exact ⟨ρ, v, W', h1, h2.mono hs, h3.mono hs _ _, h4, ih h5⟩
theorem chkT_ok {n : Nat} {ops : Array Oper} {m : Nat} {H : CH} {σ : Sig} {h : Hp} (hh : HR P G h0 σ H h) : ∀ {w : WX} {W : Watch}, chkT P G n ops.toList m H w = true → WT P n ops σ w W → ∀ r ∈ W, bit m r.1 = false → r.2 h := by
  intro w
  induction w with
  | nil => intro W _ hW r hr; unfold WT at hW; subst hW; cases hr
  | cons a w ih =>
    intro W hc hW r hr hb
    obtain ⟨i, o, env, y⟩ := a
    unfold WT at hW; obtain ⟨ρ, v, W', rfl, h2, h3, h4, h5⟩ := hW
    simp only [chkT, Bool.and_eq_true, Bool.or_eq_true] at hc
    cases hr with
    | tail _ hm => exact ih hc.2 h5 r hm hb
    | head =>
      have h6 := hc.1.resolve_left (by rw [hb]; decide)
      split at h6
      · rename_i z hz
        have := CV.eq_eq _ _ h6; subst this
        obtain ⟨v', g1, g2, _⟩ := valG_ok hz h4 h2 hh
        have := VR.one _ _ _ h3 g1; subst this
        exact g2
      · cases h6
def RelL (ops : Array Oper) (done : Nat) (L : Array Bool) : Prop := L.size = ops.size ∧ ∀ j, L.getD j false = bit done j
theorem rdB_ok {ops : Array Oper} {done : Nat} {L : Array Bool} (hr : RelL ops done L) {i : Nat} {o : Oper} (ho : ops.toList[i]? = some o) : rdB done o i = true ↔ i ∈ rdy ops L := by
  have hi : i < ops.size := by have := (List.getElem?_eq_some_iff.1 ho).1; simpa using this
  have ho' : ops[i]? = some o := by rw [← Array.getElem?_toList]; exact ho
  have hd : L.getD i true = bit done i := by
    rw [← hr.2 i, Array.getD_eq_getD_getElem?, Array.getD_eq_getD_getElem?, Array.getElem?_eq_getElem (by rw [hr.1]; exact hi)]; rfl
  unfold rdB
  rw [Go.Hw.mem_ready]
  simp only [Bool.and_eq_true, Bool.not_eq_true', List.all_eq_true, Bool.or_eq_true]
  constructor
  · rintro ⟨h1, h2⟩
    refine ⟨hi, by rw [hd]; exact h1, o, ho', fun e he hb => ?_⟩
    rw [hr.2]
    rcases h2 e he with h3 | h3
    · rw [hb] at h3; cases h3
    · exact h3
  · rintro ⟨_, h1, o', ho2, h2⟩
    rw [ho'] at ho2; cases ho2
    refine ⟨by rw [← hd]; exact h1, fun e he => ?_⟩
    cases hb : Region.binds .any e with
    | false => exact .inl rfl
    | true => exact .inr (by rw [← hr.2]; exact h2 e he hb)
theorem RelL.set {ops : Array Oper} {done : Nat} {L : Array Bool} (hr : RelL ops done L) {i : Nat} (hi : i < ops.size) : RelL ops (Nat.lor done (Nat.shiftLeft 1 i)) (setD L i) := by
  refine ⟨by simp [hr.1], fun j => ?_⟩
  rw [bit_eq]
  have e1 : (Nat.lor done (Nat.shiftLeft 1 i)).testBit j = (done.testBit j || decide (i = j)) := by
    show (done ||| 1 <<< i).testBit j = _
    rw [Nat.testBit_or, Nat.one_shiftLeft, Nat.testBit_two_pow]
  rw [e1, ← bit_eq, ← hr.2 j, Array.getD_eq_getD_getElem?, Array.getD_eq_getD_getElem?]
  by_cases e : i = j
  · subst e
    rw [Array.getElem?_setIfInBounds_self, if_pos (by rw [hr.1]; exact hi)]
    simp
  · rw [Array.getElem?_setIfInBounds_ne e]; simp [e]
theorem pickT_some {done : Nat} : ∀ {l : List Oper} {k i : Nat}, pickT P done l k = some i → ∃ o, k ≤ i ∧ l[i - k]? = some o ∧ rdB done o i = true ∧ clsO P o ≠ .eff := by
  intro l
  induction l with
  | nil => intro k i h; cases h
  | cons o l ih =>
    intro k i h
    unfold pickT at h
    cases hb : rdB done o k && (match clsO P o with | .eff => false | _ => true) with
    | true =>
      rw [hb] at h; cases h
      simp only [Bool.and_eq_true] at hb
      refine ⟨o, Nat.le_refl _, by simp, hb.1, fun e => ?_⟩
      have := hb.2
      rw [e] at this; cases this
    | false =>
      rw [hb] at h
      obtain ⟨o', h1, h2, h3, h4⟩ := ih h
      refine ⟨o', by omega, ?_, h3, h4⟩
      rw [show i - k = (i - (k + 1)) + 1 by omega, List.getElem?_cons_succ]; exact h2
theorem pickT_none {done : Nat} : ∀ {l : List Oper} {k : Nat}, pickT P done l k = none → ∀ {i : Nat} {o : Oper}, l[i]? = some o → rdB done o (k + i) = true → clsO P o = .eff := by
  intro l
  induction l with
  | nil => intro k _ i o h; simp at h
  | cons x l ih =>
    intro k h i o ho hr
    unfold pickT at h
    cases hb : rdB done x k && (match clsO P x with | .eff => false | _ => true) with
    | true => rw [hb] at h; cases h
    | false =>
      rw [hb] at h
      cases i with
      | zero =>
        simp at ho; subst ho
        rw [Nat.add_zero] at hr
        rw [hr] at hb
        cases hc : clsO P x with
        | eff => rfl
        | pure => rw [hc] at hb; cases hb
        | read => rw [hc] at hb; cases hb
      | succ i => simp at ho; exact ih h ho (by rw [show k + 1 + i = k + (i + 1) by omega]; exact hr)
theorem effsT_mem {done : Nat} : ∀ {l : List Oper} {k i : Nat}, i ∈ effsT done l k ↔ ∃ o, k ≤ i ∧ l[i - k]? = some o ∧ rdB done o i = true := by
  intro l
  induction l with
  | nil => intro k i; simp [effsT]
  | cons x l ih =>
    intro k i
    unfold effsT
    have step : (∃ o, k + 1 ≤ i ∧ l[i - (k + 1)]? = some o ∧ rdB done o i = true) ↔ (∃ o, k < i ∧ (x :: l)[i - k]? = some o ∧ rdB done o i = true) := by
      constructor
      · rintro ⟨o, h1, h2, h3⟩
        exact ⟨o, by omega, by rw [show i - k = (i - (k + 1)) + 1 by omega, List.getElem?_cons_succ]; exact h2, h3⟩
      · rintro ⟨o, h1, h2, h3⟩
        rw [show i - k = (i - (k + 1)) + 1 by omega, List.getElem?_cons_succ] at h2
        exact ⟨o, by omega, h2, h3⟩
    cases hb : rdB done x k with
    | true =>
      simp only [cond_true, List.mem_cons, ih, step]
      constructor
      · rintro (rfl | ⟨o, h1, h2, h3⟩)
        · exact ⟨x, Nat.le_refl _, by simp, hb⟩
        · exact ⟨o, by omega, h2, h3⟩
      · rintro ⟨o, h1, h2, h3⟩
        by_cases e : i = k
        · exact .inl e
        · exact .inr ⟨o, by omega, h2, h3⟩
    | false =>
      simp only [cond_false, ih, step]
      constructor
      · rintro ⟨o, h1, h2, h3⟩
        exact ⟨o, by omega, h2, h3⟩
      · rintro ⟨o, h1, h2, h3⟩
        by_cases e : i = k
        · subst e; simp at h2; subst h2; rw [hb] at h3; cases h3
        · exact ⟨o, by omega, h2, h3⟩
theorem allI_ok {run : Nat → Bool} : ∀ {r : List Nat} {i : Nat}, allI run i r = true → ∀ j ∈ i :: r, run j = true := by
  intro r
  induction r with
  | nil => intro i h j hj; rw [List.mem_singleton] at hj; subst hj; exact h
  | cons x r ih =>
    intro i h j hj
    have h2 : (run i && allI run x r) = true := h
    rw [Bool.and_eq_true] at h2
    cases hj with
    | head => exact h2.1
    | tail _ hm => exact ih h2.2 j hm
theorem treeX_ok {call : Call Bool} (hc : CallOk P G h0 call) {n : Nat} {ops : Array Oper} : ∀ (f : Nat) {done : Nat} {w : WX} {lg : Lg} {env : CE} {H : CH} {k : Lg → CE → CH → Bool} (hx : treeX no P G call n ops.toList (masks ops.toList []) false f done w lg env H k = true)
    {σ : Sig} {ρ : Env} {h : Hp} {W : Watch} {L : Array Bool} (he : ER σ env ρ) (hh : HR P G h0 σ H h) (hw : WT P n ops σ w W) (hr : RelL ops done L) {X : Env → Hp → Prop}
    (hX : ∀ σ' lg' env' ρ' H' h', Le σ σ' → ER σ' env' ρ' → HR P G h0 σ' H' h' → k lg' env' H' = true → X ρ' h'), Tr P n ops X f L W ρ h := by
  have noR : ∀ {done : Nat} {L : Array Bool}, RelL ops done L → pickT P done ops.toList 0 = none → effsT done ops.toList 0 = [] → rdy ops L = [] := by
    intro done L hr hp hee
    rw [List.eq_nil_iff_forall_not_mem]
    intro i hi
    obtain ⟨_, _, o, ho, _⟩ := Go.Hw.mem_ready.1 hi
    have ho' : ops.toList[i]? = some o := by rw [Array.getElem?_toList]; exact ho
    have : i ∈ effsT done ops.toList 0 := effsT_mem.2 ⟨o, Nat.zero_le _, by simpa using ho', (rdB_ok hr ho').2 hi⟩
    rw [hee] at this; cases this
  intro f
  induction f with
  | zero =>
    intro done w lg env H k hx σ ρ h W L he hh hw hr X hX
    unfold treeX at hx
    split at hx
    · rename_i hp hee
      exact ⟨noR hr hp hee, hX σ lg env ρ H h (Le.refl σ) he hh hx⟩
    · cases hx
  | succ f ih =>
    intro done w lg env H k hx σ ρ h W L he hh hw hr X hX
    unfold treeX at hx
    split at hx
    · rename_i i hp
      obtain ⟨o, _, ho, hrd, hcl⟩ := pickT_some hp
      rw [Nat.sub_zero] at ho
      have hi : i < ops.size := by have := (List.getElem?_eq_some_iff.1 ho).1; simpa using this
      have hri := (rdB_ok hr ho).1 hrd
      rw [ho] at hx
      simp only [] at hx
      split at hx
      · rename_i y hy
        obtain ⟨v, g1, g2, g3⟩ := valG_ok hy hcl he hh
        cases hk : clsO P o with
        | pure =>
          rw [hk] at hx
          exact .inr (.inl ⟨i, o, v, hri, ho, hk, g3 hk, ih hx (he.put o.dst g1) hh hw (hr.set hi) hX⟩)
        | read =>
          rw [hk] at hx
          refine .inr (.inr (.inl ⟨i, o, v, hri, ho, hk, g2, ih hx (he.put o.dst g1) hh ?_ (hr.set hi) hX⟩))
          unfold WT
          exact ⟨ρ, v, W, rfl, he, g1, hcl, hw⟩
        | eff => exact absurd hk hcl
      · cases hx
    · rename_i hp
      split at hx
      · rename_i hee
        exact .inl ⟨noR hr hp hee, hX σ lg env ρ H h (Le.refl σ) he hh hx⟩
      · rename_i i r hee
        simp only [cond_false] at hx
        have hall := allI_ok hx
        refine .inr (.inr (.inr ⟨?_, ?_⟩))
        · intro hnil
          have him : i ∈ effsT done ops.toList 0 := by rw [hee]; exact List.mem_cons_self ..
          obtain ⟨o, _, ho, hrd⟩ := effsT_mem.1 him
          rw [Nat.sub_zero] at ho
          have := (rdB_ok hr ho).1 hrd
          rw [hnil] at this; cases this
        · intro j hj
          obtain ⟨_, _, o, ho, _⟩ := Go.Hw.mem_ready.1 hj
          have ho' : ops.toList[j]? = some o := by rw [Array.getElem?_toList]; exact ho
          have hjr := (rdB_ok hr ho').2 hj
          have hjm : j ∈ effsT done ops.toList 0 := effsT_mem.2 ⟨o, Nat.zero_le _, by simpa using ho', hjr⟩
          have hcl := pickT_none hp ho' (by rw [Nat.zero_add]; exact hjr)
          have hrun := hall j (by rw [← hee]; exact hjm)
          rw [ho'] at hrun
          simp only [] at hrun
          rw [hcl] at hrun
          simp only [] at hrun
          refine ⟨o, ho', hcl, denOp_step (entB_ok P) (stepX_ok hc hrun he hh ?_)⟩
          intro σ' env' ρ' H' h' hl he' hh' hk
          cases hck : chkT P G n ops.toList ((masks ops.toList []).getD j 0) H' w with
          | false => rw [hck] at hk; cases hk
          | true =>
            rw [hck] at hk
            have hi : j < ops.size := by have := (List.getElem?_eq_some_iff.1 ho').1; simpa using this
            exact ⟨chkT_ok hh' hck (hw.mono hl), ih hk he' hh' (hw.mono hl) (hr.set hi) fun σ'' lg'' env'' ρ'' H'' h'' hl' => hX σ'' lg'' env'' ρ'' H'' h'' (hl.trans hl')⟩
def TreOk (P : Program) (G : Nat) (h0 : Hp) (tr : Tre Bool) : Prop := ∀ call, CallOk P G h0 call → ∀ n id (ops : Array Oper) env H k, tr call n ops.toList env H k = true → ∀ σ ρ h, ER σ env ρ → HR P G h0 σ H h → ∀ Q : Post,
  (∀ σ' env' ρ' H' h', Le σ σ' → ER σ' env' ρ' → HR P G h0 σ' H' h' → k env' H' = true → Q .normal ρ' h') → D P n (.region id ops true) ρ h Q
def treeB (P : Program) (G : Nat) (callO : Call (Option (Lg × CE × CH))) : Tre Bool := fun call n ops env H k =>
  slotsAll P ops (masks ops []) ops 0 && (match treeX (fun _ => none) P G callO n ops (masks ops []) true ops.length 0 [] [] env H fun lg e h => some (lg, e, h) with
  | some (la, ea, HA) => treeX no P G call n ops (masks ops []) false ops.length 0 [] [] env H (fun lb eb HB => oneX G H.nx lb la eb ea HB HA) && k ea HA
  | none => false)
theorem treeB_ok (hm : P.follows .mixedOrders = true) {callO : Call (Option (Lg × CE × CH))} : TreOk P G h0 (treeB P G callO) := by
  intro call hc n id ops env H k hx σ ρ h he hh Q hQ
  unfold treeB at hx
  rw [Bool.and_eq_true] at hx
  obtain ⟨hsl, hx⟩ := hx
  split at hx
  · rename_i la ea HA _
    rw [Bool.and_eq_true] at hx
    obtain ⟨hx, hk⟩ := hx
    refine D_draw_tree hm hsl ?_
    rw [Array.length_toList] at hx
    refine treeX_ok hc ops.size hx he hh (by unfold WT; rfl) ?_ ?_
    · refine ⟨by simp, fun j => ?_⟩
      rw [bit_eq, Nat.zero_testBit, Array.getD_eq_getD_getElem?, Array.getElem?_replicate]
      split <;> rfl
    · intro σ' lg' env' ρ' H' h' hl he' hh' hone
      obtain ⟨τ, t1, t2, t3⟩ := oneX_ok hone (fun b hb => hh.fresh b hb) hl he' hh'
      exact hQ τ ea ρ' HA h' t1 t2 t3 hk
  · cases hx
def DLW (P : Program) (n : Nat) (c : Code) (ρ : Env) (h : Hp) (Q : Post) : Prop :=
  ∀ a w, Ag n ρ a → hpOf w = h → LW P c (fun e a' w' => ∃ ρ', Ag n ρ' a' ∧ Sm (.loop c) a w a' w' ∧ Q e ρ' (hpOf w')) a w
theorem DLW_D {n : Nat} {c : Code} {ρ : Env} {h : Hp} {Q : Post} (hd : DLW P n c ρ h Q) : D P n (.loop c) ρ h Q := fun a w ha hw => LW_loop (hd a w ha hw)
theorem LW.mono {c : Code} {Q Q' : Exit → Act → World → Prop} {a : Act} {w : World} (h : LW P c Q a w) (hq : ∀ e a' w', Q e a' w' → Q' e a' w') : LW P c Q' a w :=
  fun b k cs => let ⟨e, a', w', q, r⟩ := h b k cs; ⟨e, a', w', hq _ _ _ q, r⟩
theorem DLW_round {n : Nat} {c : Code} {ρ : Env} {h : Hp} {Q : Post} (hd : D P n c ρ h (thenQ (fun ρ' h' => DLW P n c ρ' h' Q) Q)) : DLW P n c ρ h Q := by
  intro a w ha hw
  refine LW_round (wp_mono (hd a w ha hw) ?_)
  rintro e a' w' ⟨ρ', h1, h2, h3⟩
  cases e with
  | normal =>
    refine LW.mono (h3 a' w' h1 rfl) ?_
    rintro e a2 w2 ⟨ρ2, g1, g2, g3⟩
    exact ⟨ρ2, g1, ⟨fun t ht => (g2.1 t ht).trans (h2.1 t ht), h2.2.trans g2.2⟩, g3⟩
  | exit i => exact ⟨ρ', h1, h2, h3⟩
  | goto l => exact ⟨ρ', h1, h2, h3⟩
  | ret => exact ⟨ρ', h1, h2, h3⟩
  | panic ch => exact h3.elim
  | outgrown => exact h3.elim
def BodyOk (P : Program) (G : Nat) (h0 : Hp) (n : Nat) (c : Code) (body : CE → CH → (Exit → CE → CH → Bool) → Bool) : Prop :=
  ∀ env H k, body env H k = true → ∀ σ ρ h, ER σ env ρ → HR P G h0 σ H h → ∀ Q : Post, (∀ e σ' env' ρ' H' h', Le σ σ' → ER σ' env' ρ' → HR P G h0 σ' H' h' → k e env' H' = true → Q e ρ' h') → D P n c ρ h Q
theorem loopX_ok {n : Nat} {c : Code} {body : CE → CH → (Exit → CE → CH → Bool) → Bool} (hb : BodyOk P G h0 n c body) : ∀ (m : Nat) (env : CE) (H : CH) (k : Exit → CE → CH → Bool), loopX no body m env H k = true →
    ∀ σ ρ h, ER σ env ρ → HR P G h0 σ H h → ∀ Q : Post, (∀ e σ' env' ρ' H' h', Le σ σ' → ER σ' env' ρ' → HR P G h0 σ' H' h' → k e env' H' = true → Q e ρ' h') → DLW P n c ρ h Q := by
  intro m
  induction m with
  | zero => intro env H k hx; cases hx
  | succ m ih =>
    intro env H k hx σ ρ h he hh Q hQ
    unfold loopX at hx
    refine DLW_round (hb env H _ hx σ ρ h he hh _ ?_)
    intro e σ' env' ρ' H' h' hl he' hh' hk
    cases e with
    | normal => exact ih env' H' k hk σ' ρ' h' he' hh' Q fun e σ'' env'' ρ'' H'' h'' hl' => hQ e σ'' env'' ρ'' H'' h'' (hl.trans hl')
    | exit i => exact hQ _ σ' env' ρ' H' h' hl he' hh' hk
    | goto l => exact hQ _ σ' env' ρ' H' h' hl he' hh' hk
    | ret => exact hQ _ σ' env' ρ' H' h' hl he' hh' hk
    | panic ch => cases hk
    | outgrown => cases hk
theorem cX_ok {call : Call Bool} (hc : CallOk P G h0 call) (hm : P.follows .mixedOrders = true) {tr : Tre Bool} (ht : TreOk P G h0 tr) {lf n : Nat} : ∀ (c : Code), BodyOk P G h0 n c (cX no P G tr call lf n c) := by
  intro c
  induction c with
  | skip => intro env H k hx σ ρ h he hh Q hQ; exact D_skip (hQ _ σ env ρ H h (Le.refl σ) he hh hx)
  | region id ops draw =>
    intro env H k hx σ ρ h he hh Q hQ
    unfold cX regX at hx
    cases draw with
    | false =>
      exact D_region (entB_ok P) (opsX_ok hc hx he hh fun σ' env' ρ' H' h' hl he' hh' hk => hQ _ σ' env' ρ' H' h' hl he' hh' hk)
    | true =>
      simp only [cond_true] at hx
      cases ho : orderGood P ops.toList (ordX P ops.toList (masks ops.toList []) ops.toList.length 0) with
      | false =>
        rw [ho] at hx
        exact ht call hc n id ops env H _ hx σ ρ h he hh Q fun σ' env' ρ' H' h' hl he' hh' hk => hQ _ σ' env' ρ' H' h' hl he' hh' hk
      | true =>
        rw [ho] at hx
        refine D_draw (entB_ok P) hm (l := ordX P ops.toList (masks ops.toList []) ops.toList.length 0) ?_
        unfold denDraw
        rw [ho]
        exact dDX_ok hc hx he hh (W := []) (by unfold WR; rfl) fun σ' env' ρ' H' h' hl he' hh' hk => hQ _ σ' env' ρ' H' h' hl he' hh' hk
  | seq x y ihx ihy =>
    intro env H k hx σ ρ h he hh Q hQ
    unfold cX at hx
    refine D_seq (ihx env H _ hx σ ρ h he hh _ ?_)
    intro e σ' env' ρ' H' h' hl he' hh' hk
    cases e with
    | normal => exact ihy env' H' k hk σ' ρ' h' he' hh' Q fun e σ'' env'' ρ'' H'' h'' hl' => hQ e σ'' env'' ρ'' H'' h'' (hl.trans hl')
    | exit i => exact hQ _ σ' env' ρ' H' h' hl he' hh' hk
    | goto l => exact hQ _ σ' env' ρ' H' h' hl he' hh' hk
    | ret => exact hQ _ σ' env' ρ' H' h' hl he' hh' hk
    | panic ch => cases hk
    | outgrown => cases hk
  | cond c x y ihx ihy =>
    intro env H k hx σ ρ h he hh Q hQ
    unfold cX at hx
    split at hx
    · rename_i b hb
      obtain ⟨v, h1, h2⟩ := evC_ok hb he hh
      unfold VR at h2; subst h2
      refine D_cond h1 ?_
      cases b with
      | true => exact ihx env H k hx σ ρ h he hh Q hQ
      | false => exact ihy env H k hx σ ρ h he hh Q hQ
    · cases hx
  | block id c ih =>
    intro env H k hx σ ρ h he hh Q hQ
    unfold cX at hx
    refine D_block (ih env H _ hx σ ρ h he hh _ ?_)
    intro e σ' env' ρ' H' h' hl he' hh' hk
    cases e with
    | normal => exact hQ _ σ' env' ρ' H' h' hl he' hh' hk
    | exit i =>
      simp only [blockQ]
      simp only [] at hk
      cases hb : Nat.beq i id with
      | true => rw [hb] at hk; exact hQ _ σ' env' ρ' H' h' hl he' hh' hk
      | false => rw [hb] at hk; exact hQ _ σ' env' ρ' H' h' hl he' hh' hk
    | goto l => exact hQ _ σ' env' ρ' H' h' hl he' hh' hk
    | ret => exact hQ _ σ' env' ρ' H' h' hl he' hh' hk
    | panic ch => cases hk
    | outgrown => cases hk
  | loop c ih =>
    intro env H k hx σ ρ h he hh Q hQ
    unfold cX at hx
    exact DLW_D (loopX_ok ih lf env H k hx σ ρ h he hh Q hQ)
  | rangeFunc f ps x y ihx ihy => intro env H k hx; cases hx
  | exit id => intro env H k hx σ ρ h he hh Q hQ; exact D_exit (hQ _ σ env ρ H h (Le.refl σ) he hh hx)
  | scope c ih =>
    intro env H k hx σ ρ h he hh Q hQ
    unfold cX at hx
    refine D_scope (ih env H _ hx σ ρ h he hh _ ?_)
    intro e σ' env' ρ' H' h' hl he' hh' hk
    cases e with
    | normal => exact hQ _ σ' env' ρ' H' h' hl he' hh' hk
    | exit i => exact hQ _ σ' env' ρ' H' h' hl he' hh' hk
    | goto l => cases hk
    | ret => exact hQ _ σ' env' ρ' H' h' hl he' hh' hk
    | panic ch => cases hk
    | outgrown => cases hk
  | label l => intro env H k hx σ ρ h he hh Q hQ; exact D_label (hQ _ σ env ρ H h (Le.refl σ) he hh hx)
  | goto l => intro env H k hx; cases hx
  | ret => intro env H k hx σ ρ h he hh Q hQ; exact D_ret (hQ _ σ env ρ H h (Le.refl σ) he hh hx)
  | refuse s => intro env H k hx; cases hx
theorem argsX_ok {σ : Sig} : ∀ {l : List CV} {vs : List Value} (i : Nat), VRs σ l vs → ER σ (argsX i l) (argsE i vs) := by
  intro l
  induction l with
  | nil => intro vs i h; unfold VRs at h; subst h; intro t x hx; cases hx
  | cons x l ih =>
    intro vs i h
    unfold VRs at h; obtain ⟨v, r, rfl, h1, h2⟩ := h
    exact (ih (i + 1) h2).put (some i) h1
theorem resX_ok {σ : Sig} {H : CH} {h : Hp} {env : CE} {ρ : Env} (he : ER σ env ρ) (hh : HR P G h0 σ H h) : ∀ {rs : List ResultVar} {l : List CV}, resX P H env rs = some l →
    ∃ vs, VRs σ l vs ∧ ∀ (acc : List Value) (F : List Value → Prop), F (acc.reverse ++ vs) → resM P h rs ρ acc F := by
  intro rs
  induction rs with
  | nil => intro l hl; cases hl; exact ⟨[], by unfold VRs; rfl, fun acc F hF => by simpa [resM] using hF⟩
  | cons r rs ih =>
    intro l hl
    cases r with
    | tmp t =>
      simp only [resX] at hl
      split at hl
      · rename_i x l' hx hl'
        cases hl
        obtain ⟨v, h1, h2⟩ := he t x hx
        obtain ⟨vs, h3, h4⟩ := ih hl'
        refine ⟨v :: vs, by unfold VRs; exact ⟨v, vs, rfl, h2, h3⟩, fun acc F hF => ?_⟩
        unfold resM; rw [h1]
        exact h4 _ F (by simpa using hF)
      · cases hl
    | cell a t =>
      simp only [resX] at hl
      split at hl
      · rename_i b o ha
        cases hu : (P.underlying t).isSome with
        | false => rw [hu] at hl; cases hl
        | true =>
          rw [hu] at hl
          simp only [cond_true] at hl
          split at hl
          · rename_i x l' hx hl'
            cases hl
            obtain ⟨v, h1, h2⟩ := he a _ ha
            unfold VR at h2; obtain ⟨p, hp, rfl⟩ := h2
            obtain ⟨w, g1, g2⟩ := ldX_ok hh hx hp
            obtain ⟨vs, h3, h4⟩ := ih hl'
            refine ⟨w :: vs, by unfold VRs; exact ⟨w, vs, rfl, g1, h3⟩, fun acc F hF => ?_⟩
            unfold resM; rw [h1]
            simp only [vK, xP, nn]
            rw [hu]
            exact g2 _ (h4 _ F (by simpa using hF))
          · cases hl
      · cases hl
theorem resC_ok {σ : Sig} {l : List CV} {vs : List Value} (h : VRs σ l vs) : VR σ (resC l) (resV vs) := by
  rcases l with _ | ⟨x, _ | ⟨y, l⟩⟩
  · unfold VRs at h; subst h; exact VR_undef
  · unfold VRs at h; obtain ⟨v, r, rfl, h1, h2⟩ := h
    unfold VRs at h2; subst h2; exact h1
  · have h' := h
    unfold VRs at h; obtain ⟨v, r, rfl, h1, h2⟩ := h
    unfold VRs at h2; obtain ⟨w, r, rfl, h2, h3⟩ := h2
    show VR σ (.tup (x :: y :: l)) (.tuple ⟨v :: w :: r⟩)
    unfold VR; exact ⟨_, rfl, h'⟩
theorem callX_ok (hm : P.follows .mixedOrders = true) {tr : Tre Bool} (ht : TreOk P G h0 tr) {lf : Nat} : ∀ (m : Nat), CallOk P G h0 (callX no P G tr lf m) := by
  intro m
  induction m with
  | zero => intro g args H k hx; cases hx
  | succ m ih =>
    intro g args H k hx σ h vs hv hh K hK
    unfold callX at hx
    split at hx
    · rename_i fn hfn
      split at hx
      · rename_i c hc
        cases hb : Nat.ble args.length fn.ntmps with
        | false => rw [hb] at hx; cases hx
        | true =>
          rw [hb] at hx
          simp only [cond_true] at hx
          refine calls_of_M hfn hc (by simpa [hv.len] using hb) ?_
          refine cX_ok ih hm ht c _ H _ hx σ _ h (argsX_ok 0 hv) hh _ ?_
          intro e σ' env' ρ' H' h' hl he' hh' hk
          have fin : ∀ l, resX P H' env' fn.results.toList = some l → k (resC l) H' = true → resM P h' fn.results.toList ρ' [] fun l => K (resV l) h' := by
            intro l hl' hk'
            obtain ⟨ws, w1, w2⟩ := resX_ok he' hh' hl'
            exact w2 [] _ (hK σ' _ _ H' h' hl (resC_ok w1) hh' hk')
          cases e with
          | normal =>
            simp only [] at hk
            split at hk
            · rename_i l hl'; exact fin l hl' hk
            · cases hk
          | ret =>
            simp only [] at hk
            split at hk
            · rename_i l hl'; exact fin l hl' hk
            · cases hk
          | exit i => cases hk
          | goto l => cases hk
          | panic ch => cases hk
          | outgrown => cases hk
      · cases hx
    · cases hx
end
end Go.Ix

/-
  A closed call, reckoned: it gives what the small machine gives, and leaves all that was there.
-/
set_option linter.unusedSimpArgs false
set_option linter.unusedVariables false
namespace Go.Ix
open Go Go.Hw
def H0 (G e : Nat) : List (Nat × List CV) → CH
  | [] => ⟨.leaf, G + e⟩
  | (g, cs) :: l => ⟨(H0 G e l).t.set g (some (.tab cs)), G + e⟩
def σ0 (G : Nat) (bs : List Addr) : Sig := fun b => if b < G then some ⟨b, 0, 0, 0⟩ else match bs[b - G]? with
  | some a => some ⟨a.block, a.off, 0, 0⟩
  | none => none
theorem H0_get {G e : Nat} : ∀ {l : List (Nat × List CV)} {b : Nat} {o : CO}, (H0 G e l).t.get b = some o → ∃ cs, (b, cs) ∈ l ∧ o = .tab cs := by
  intro l
  induction l with
  | nil => intro b o h; cases h
  | cons x l ih =>
    intro b o h
    obtain ⟨g, cs⟩ := x
    simp only [H0, T.get_set] at h
    split at h
    · rename_i e; subst e; cases h; exact ⟨cs, List.mem_cons_self .., rfl⟩
    · obtain ⟨c, h1, h2⟩ := ih h; exact ⟨c, List.mem_cons_of_mem _ h1, h2⟩
theorem H0_nx {G e : Nat} : ∀ {l : List (Nat × List CV)}, (H0 G e l).nx = G + e
  | [] => rfl
  | (_, _) :: _ => rfl
def TabAt (σ : Sig) (h : Hp) (g : Nat) (cs : List CV) : Prop := ∃ (vs : List Value) (e : TypeId) (fr : Nat × Nat), h g = some (.cells ⟨vs⟩ e fr) ∧ ∀ (i : Nat) (c : CV), cs[i]? = some c → ∃ v, vs[i]? = some v ∧ VR σ c v
theorem H0_ok {P : Program} {G : Nat} {h : Hp} {l : List (Nat × List CV)} {bs : List Addr} (hg : ∀ x ∈ l, x.1 < G) (ht : ∀ x ∈ l, TabAt (σ0 G bs) h x.1 x.2) : HR P G h (σ0 G bs) (H0 G bs.length l) h := by
  refine ⟨?_, ?_, ?_, fun _ _ h => h, ?_⟩
  · intro b o hb
    obtain ⟨cs, h1, rfl⟩ := H0_get hb
    obtain ⟨vs, e, fr, h2, h3⟩ := ht _ h1
    refine ⟨⟨b, 0, 0, 0⟩, _, by simp [σ0, hg _ h1], h2, ?_⟩
    unfold OR
    refine ⟨vs, e, fr, rfl, fun i c hc => ?_⟩
    obtain ⟨v, h4, h5⟩ := h3 i c hc
    exact ⟨v, by simpa using h4, h5⟩
  · intro b b' o o' p p' g1 g2 hne hp hp'
    obtain ⟨cs, h1, rfl⟩ := H0_get g1
    obtain ⟨cs', h2, rfl⟩ := H0_get g2
    unfold σ0 at hp hp'
    rw [if_pos (hg _ h1)] at hp
    rw [if_pos (hg _ h2)] at hp'
    cases hp; cases hp'; exact hne
  · intro b hb
    rw [H0_nx] at hb
    unfold σ0; rw [if_neg (by omega)]
    rw [List.getElem?_eq_none (by omega)]
  · intro g hgg
    exact ⟨⟨g, 0, 0, 0⟩, by simp [σ0, hgg], rfl, rfl⟩
theorem err_vr {G j t : Nat} {bs : List Addr} {a : Addr} (hj : bs[j]? = some a) (hs : a.spot = none) : VR (σ0 G bs) (.ifc t (.ptr (G + j) 0)) (.iface t (.pointer (some a))) := by
  unfold VR
  refine ⟨_, rfl, ?_⟩
  unfold VR
  refine ⟨⟨a.block, a.off, 0, 0⟩, ?_, ?_⟩
  · unfold σ0
    rw [if_neg (by omega), Nat.add_sub_cancel_left, hj]
  · cases a; simp at hs; subst hs; rfl
theorem spot_of {h : Hp} {a : Addr} {v : Value} (hc : cell h a = some v) : a.spot = none := by
  unfold cell at hc
  split at hc
  · split at hc
    · cases hc
    · rename_i hs; simpa using hs
  · cases hc
def runC (P : Program) (G lf m : Nat) : Call Bool := callX no P G (treeB P G (callX (fun _ => none) P G (tree1 (fun _ => none) P G) lf m)) lf m
theorem closed {P : Program} (hm : P.follows .mixedOrders = true) {G e lf m f : Nat} {l : List (Nat × List CV)} (hg : (l.all fun x => Nat.blt x.1 G) = true)
    (hx : runC P G lf m f [] (H0 G e l) (fun y _ => CV.eq y (.bool true)) = true) {h : Hp} {bs : List Addr} (he : bs.length = e) (ht : ∀ x ∈ l, TabAt (σ0 G bs) h x.1 x.2) {K : Value → Hp → Prop}
    (hK : ∀ h', Ext none' h h' → K (.bool true) h') : HCalls P f ⟨[]⟩ h K := by
  have hg' : ∀ x ∈ l, x.1 < G := fun x hx => by have := List.all_eq_true.1 hg x hx; simpa [Nat.blt_eq] using this
  subst he
  refine callX_ok (h0 := h) hm (treeB_ok hm) m f [] _ _ hx (σ0 G bs) h [] (by unfold VRs; rfl) (H0_ok hg' ht) K ?_
  intro σ' y v H' h' hl hv hh' hk
  have := CV.eq_eq _ _ hk; subst this
  unfold VR at hv; subst hv
  exact hK h' fun b o hb _ => hh'.keep b o hb
end Go.Ix

/-
  The frame of the laws: what is laid; a world that meets it; the tables as they are read.
-/
set_option linter.unusedSimpArgs false
set_option linter.unusedVariables false
namespace Go.Proofs.YtedklcmdjoojfaaDoor
open Go Go.Hw Go.Ix
open Go.ChangeShapes Go.WideShapes Go.ChangeAt Go.RowKit
theorem own_knob : ownKnob Tryd.prog.godebug = none := by kernel_rfl
theorem laid_out : laidOutB Tryd.prog = true := by kernel_rfl
theorem follows_mixed : Tryd.prog.follows .mixedOrders = true := by kernel_rfl
noncomputable def low : Nat := (World.holding Tryd.prog default ⟨#[], #[], []⟩).heap.size
def rowOf {H : Type} (d : DataW H) : Array Value := match d with
  | .agg l => (l.flatMap fun
    | .lit (.int k n) => [Value.int k n]
    | .agg m => m.map fun | .lit (.int k n) => Value.int k n | _ => .nilIface
    | _ => []).toArray
  | _ => #[]
def layAt (w : World) (g : Nat) (cs : Array Value) : World :=
  { w with heap := w.heap.modify g fun
      | .cells _ t frozen => .cells cs t frozen
      | o => o }
noncomputable def laidWorld (os : Os) : World :=
  layAt (layAt (layAt (layAt (layAt (World.holding Tryd.prog os ⟨#[.cells #[.string ⟨⟨[118, 97, 108, 117, 101, 32, 111, 117, 116, 32, 111, 102, 32, 114, 97, 110, 103, 101]⟩⟩] 134, .cells #[.string ⟨⟨[105, 110, 118, 97, 108, 105, 100, 32, 115, 121, 110, 116, 97, 120]⟩⟩] 134], #[], []⟩) 2 (rowOf (H := Unit) Rows.laid_math_bits_deBruijn32tab)) 3 (rowOf (H := Unit) Rows.laid_math_bits_deBruijn64tab)) 1 (rowOf (H := Unit) Rows.laid_internal_strconv_uint64pow10)) 5 #[.iface 132 (.pointer (some ⟨low + 0, 0, none⟩))]) 4 #[.iface 132 (.pointer (some ⟨low + 1, 0, none⟩))]
abbrev laidL : List (String × DataW Unit) := Rows.tftpNumbersRow.laid
theorem laid_met (os : Os) (args : Array Value) : laidMetH Tryd.prog laidL ((laidWorld os).forCall (fun _ _ => 0) ⟨#[], args, []⟩).memory := by
  have h : laidMet Tryd.prog laidL ((laidWorld os).forCall (fun _ _ => 0) ⟨#[], args, []⟩).memory := laidMet_of_run' 8 (by kernel_rfl) (by kernel_rfl)
  exact h
theorem none_handles : (laidL.filter fun x => x.2.handleName?.isSome) = [] := by kernel_rfl
def tab0L : List Int := [0, 1, 28, 2, 29, 14, 24, 3, 30, 22, 20, 15, 25, 17, 4, 8, 31, 27, 13, 23, 21, 19, 16, 7, 26, 12, 18, 6, 11, 5, 10, 9]
theorem tab0 {W : World} (h : laidMetH Tryd.prog laidL W) (σ : Sig) : TabAt σ (hpOf W) 2 (tab0L.map fun z => CV.int .u8 z) := by
  have hp := laid_one h none_handles (n := "math/bits.deBruijn32tab") (d := Rows.laid_math_bits_deBruijn32tab) (by kernel_rfl)
  rw [show (Rows.laid_math_bits_deBruijn32tab : DataW Unit) = Lib.tabData .u8 tab0L by kernel_rfl] at hp
  have hg : Tryd.prog.globalNamed "math/bits.deBruijn32tab" = some 2 := by kernel_rfl
  have tab : Lib.TabIs Tryd.prog W "math/bits.deBruijn32tab" .u8 tab0L :=
    Lib.tabIs_of_head hg (t := 123) (e := 5) (n := 32) (by kernel_rfl) (by kernel_rfl) (by kernel_rfl) (by kernel_rfl) (by kernel_rfl) hp
  unfold Lib.TabIs World.var? at tab
  rw [hg] at tab
  simp only [Option.bind_some] at tab
  cases hb : W.heap[2]? with
  | none => rw [hb] at tab; cases tab
  | some o =>
    rw [hb] at tab
    cases o <;> simp at tab
    rename_i c e fr
    refine ⟨c.toList, e, fr, hb, fun i x hx => ?_⟩
    rw [List.getElem?_map] at hx
    cases hz : tab0L[i]? with
    | none => rw [hz] at hx; cases hx
    | some z =>
      rw [hz] at hx; cases hx
      refine ⟨.int .u8 z, by rw [tab]; simp [hz], by unfold VR; rfl⟩
def tab1L : List Int := [0, 1, 56, 2, 57, 49, 28, 3, 61, 58, 42, 50, 38, 29, 17, 4, 62, 47, 59, 36, 45, 43, 51, 22, 53, 39, 33, 30, 24, 18, 12, 5, 63, 55, 48, 27, 60, 41, 37, 16, 46, 35, 44, 21, 52, 32, 23, 11, 54, 26, 40, 15, 34, 20, 31, 10, 25, 14, 19, 9, 13, 8, 7, 6]
theorem tab1 {W : World} (h : laidMetH Tryd.prog laidL W) (σ : Sig) : TabAt σ (hpOf W) 3 (tab1L.map fun z => CV.int .u8 z) := by
  have hp := laid_one h none_handles (n := "math/bits.deBruijn64tab") (d := Rows.laid_math_bits_deBruijn64tab) (by kernel_rfl)
  rw [show (Rows.laid_math_bits_deBruijn64tab : DataW Unit) = Lib.tabData .u8 tab1L by kernel_rfl] at hp
  have hg : Tryd.prog.globalNamed "math/bits.deBruijn64tab" = some 3 := by kernel_rfl
  have tab : Lib.TabIs Tryd.prog W "math/bits.deBruijn64tab" .u8 tab1L :=
    Lib.tabIs_of_head hg (t := 124) (e := 5) (n := 64) (by kernel_rfl) (by kernel_rfl) (by kernel_rfl) (by kernel_rfl) (by kernel_rfl) hp
  unfold Lib.TabIs World.var? at tab
  rw [hg] at tab
  simp only [Option.bind_some] at tab
  cases hb : W.heap[3]? with
  | none => rw [hb] at tab; cases tab
  | some o =>
    rw [hb] at tab
    cases o <;> simp at tab
    rename_i c e fr
    refine ⟨c.toList, e, fr, hb, fun i x hx => ?_⟩
    rw [List.getElem?_map] at hx
    cases hz : tab1L[i]? with
    | none => rw [hz] at hx; cases hx
    | some z =>
      rw [hz] at hx; cases hx
      refine ⟨.int .u8 z, by rw [tab]; simp [hz], by unfold VR; rfl⟩
def tab2L : List Int := [1, 10, 100, 1000, 10000, 100000, 1000000, 10000000, 100000000, 1000000000, 10000000000, 100000000000, 1000000000000, 10000000000000, 100000000000000, 1000000000000000, 10000000000000000, 100000000000000000, 1000000000000000000, 10000000000000000000]
theorem tab2 {W : World} (h : laidMetH Tryd.prog laidL W) (σ : Sig) : TabAt σ (hpOf W) 1 (tab2L.map fun z => CV.int .u64 z) := by
  have hp := laid_one h none_handles (n := "internal/strconv.uint64pow10") (d := Rows.laid_internal_strconv_uint64pow10) (by kernel_rfl)
  rw [show (Rows.laid_internal_strconv_uint64pow10 : DataW Unit) = Lib.tabData .u64 tab2L by kernel_rfl] at hp
  have hg : Tryd.prog.globalNamed "internal/strconv.uint64pow10" = some 1 := by kernel_rfl
  have tab : Lib.TabIs Tryd.prog W "internal/strconv.uint64pow10" .u64 tab2L :=
    Lib.tabIs_of_head hg (t := 106) (e := 80) (n := 20) (by kernel_rfl) (by kernel_rfl) (by kernel_rfl) (by kernel_rfl) (by kernel_rfl) hp
  unfold Lib.TabIs World.var? at tab
  rw [hg] at tab
  simp only [Option.bind_some] at tab
  cases hb : W.heap[1]? with
  | none => rw [hb] at tab; cases tab
  | some o =>
    rw [hb] at tab
    cases o <;> simp at tab
    rename_i c e fr
    refine ⟨c.toList, e, fr, hb, fun i x hx => ?_⟩
    rw [List.getElem?_map] at hx
    cases hz : tab2L[i]? with
    | none => rw [hz] at hx; cases hx
    | some z =>
      rw [hz] at hx; cases hx
      refine ⟨.int .u64 z, by rw [tab]; simp [hz], by unfold VR; rfl⟩
theorem errstr (u : TypeId) (h : Tryd.prog.typeName? 3 u = some "*errors.errorString") : u = 132 :=
  typeName_ptr_named (nm := "errors.errorString") (by rw [show "*" ++ "errors.errorString" = "*errors.errorString" by decide]; kernel_rfl) (by kernel_rfl) (by decide) u (by rw [show "*" ++ "errors.errorString" = "*errors.errorString" by decide]; exact h)
theorem err0 {W : World} (h : laidMetH Tryd.prog laidL W) : ∃ a : Addr, a.spot = none ∧ ∃ e fr, hpOf W 5 = some (.cells ⟨[.iface 132 (.pointer (some a))]⟩ e fr) := by
  have hs := laid_one h none_handles (n := "strconv.ErrRange") (d := Rows.laid_strconv_ErrRange) (by kernel_rfl)
  have hg : Tryd.prog.globalNamed "strconv.ErrRange" = some 5 := by kernel_rfl
  obtain ⟨a, s, hv, hc, _, _⟩ := laid_sentinel (ti := 99) (tp := 132) (te := 134) (ts := 9) (ms := #[("Error", 135)]) (f := ⟨"s", 9, 0, false, "", "errors", 0⟩) hs hg (by kernel_rfl) (by kernel_rfl) errstr (by kernel_rfl) (by kernel_rfl) rfl rfl (by kernel_rfl) (by kernel_rfl) (by kernel_rfl)
  refine ⟨a, spot_of (h := hpOf W) (by rw [cell_hp]; exact hc), ?_⟩
  unfold World.var? at hv
  rw [hg] at hv
  simp only [Option.bind_some] at hv
  cases hb : W.heap[5]? with
  | none => rw [hb] at hv; cases hv
  | some o =>
    rw [hb] at hv
    cases o <;> simp at hv
    rename_i c e fr
    exact ⟨e, fr, by show W.heap[5]? = _; rw [hb, hv]⟩
theorem err1 {W : World} (h : laidMetH Tryd.prog laidL W) : ∃ a : Addr, a.spot = none ∧ ∃ e fr, hpOf W 4 = some (.cells ⟨[.iface 132 (.pointer (some a))]⟩ e fr) := by
  have hs := laid_one h none_handles (n := "strconv.ErrSyntax") (d := Rows.laid_strconv_ErrSyntax) (by kernel_rfl)
  have hg : Tryd.prog.globalNamed "strconv.ErrSyntax" = some 4 := by kernel_rfl
  obtain ⟨a, s, hv, hc, _, _⟩ := laid_sentinel (ti := 99) (tp := 132) (te := 134) (ts := 9) (ms := #[("Error", 135)]) (f := ⟨"s", 9, 0, false, "", "errors", 0⟩) hs hg (by kernel_rfl) (by kernel_rfl) errstr (by kernel_rfl) (by kernel_rfl) rfl rfl (by kernel_rfl) (by kernel_rfl) (by kernel_rfl)
  refine ⟨a, spot_of (h := hpOf W) (by rw [cell_hp]; exact hc), ?_⟩
  unfold World.var? at hv
  rw [hg] at hv
  simp only [Option.bind_some] at hv
  cases hb : W.heap[4]? with
  | none => rw [hb] at hv; cases hv
  | some o =>
    rw [hb] at hv
    cases o <;> simp at hv
    rename_i c e fr
    exact ⟨e, fr, by show W.heap[4]? = _; rw [hb, hv]⟩
def tabL : List (Nat × List CV) := [(2, tab0L.map fun z => CV.int .u8 z), (3, tab1L.map fun z => CV.int .u8 z), (1, tab2L.map fun z => CV.int .u64 z), (5, [.ifc 132 (.ptr (6 + 0) 0)]), (4, [.ifc 132 (.ptr (6 + 1) 0)])]
def erN : Nat := 2
theorem tabs_of {W : World} (h : laidMetH Tryd.prog laidL W) : ∃ bs : List Addr, bs.length = erN ∧ ∀ x ∈ tabL, TabAt (σ0 6 bs) (hpOf W) x.1 x.2 := by
  obtain ⟨a0, s0, e0, f0, c0⟩ := err0 h
  obtain ⟨a1, s1, e1, f1, c1⟩ := err1 h
  refine ⟨[a0, a1], rfl, ?_⟩
  intro x hx
  simp only [tabL, List.mem_cons, List.mem_nil_iff, or_false] at hx
  rcases hx with rfl | rfl | rfl | rfl | rfl
  · exact tab0 h _
  · exact tab1 h _
  · exact tab2 h _
  · exact ⟨_, e0, f0, c0, fun i c hc => by
      cases i with
      | zero => cases hc; exact ⟨_, rfl, err_vr (j := 0) rfl s0⟩
      | succ i => cases hc⟩
  · exact ⟨_, e1, f1, c1, fun i c hc => by
      cases i with
      | zero => cases hc; exact ⟨_, rfl, err_vr (j := 1) rfl s1⟩
      | succ i => cases hc⟩
def glN : Nat := 6
end Go.Proofs.YtedklcmdjoojfaaDoor

/-
  What is laid is what the walks of layer 17 ask for; what a few calls answer (live).
-/
set_option linter.unusedSimpArgs false
set_option linter.unusedVariables false
namespace Go.Proofs.YtedklcmdjoojfaaDoor
open Go Go.Hw
open Go.ChangeShapes Go.WideShapes Go.ChangeAt Go.RowKit
theorem g_pow : Tryd.prog.globalNamed "internal/strconv.uint64pow10" = some 1 := by kernel_rfl
theorem g_syn : Tryd.prog.globalNamed "strconv.ErrSyntax" = some 4 := by kernel_rfl
theorem g_rng : Tryd.prog.globalNamed "strconv.ErrRange" = some 5 := by kernel_rfl
theorem one_pow : (laidL.filter fun x => x.1 == "internal/strconv.uint64pow10") = [("internal/strconv.uint64pow10", Rows.laid_internal_strconv_uint64pow10)] := by kernel_rfl
theorem one_syn : (laidL.filter fun x => x.1 == "strconv.ErrSyntax") = [("strconv.ErrSyntax", Rows.laid_strconv_ErrSyntax)] := by kernel_rfl
theorem one_rng : (laidL.filter fun x => x.1 == "strconv.ErrRange") = [("strconv.ErrRange", Rows.laid_strconv_ErrRange)] := by kernel_rfl
theorem pow_data : (Rows.laid_internal_strconv_uint64pow10 : DataW Unit) = Lib.tabData .u64 Lib.pow10Tab := by kernel_rfl
theorem glob_of {W : World} (h : laidMetH Tryd.prog laidL W) (hsh : W.ShapedOpen Tryd.prog) : Glob (hpOf W) := by
  have hp := laid_one h none_handles one_pow
  have hs := laid_one h none_handles one_syn
  have hr := laid_one h none_handles one_rng
  rw [pow_data] at hp
  have tab : Lib.TabIs Tryd.prog W "internal/strconv.uint64pow10" .u64 Lib.pow10Tab := by
    obtain ⟨t, e, n, q1, q2, q3, q4, q5⟩ : ∃ t e n, (Tryd.prog.globals[1]?).map (·.type) = some t ∧ Tryd.prog.underlying t = some (.array n e) ∧ Tryd.prog.underlying e = some (.int .u64) ∧ Tryd.prog.cellsOf e = 1 ∧ Tryd.prog.cellsOf t = n := ⟨106, 80, 20, by kernel_rfl, by kernel_rfl, by kernel_rfl, by kernel_rfl, by kernel_rfl⟩
    exact Lib.tabIs_of_head g_pow q1 q2 q3 q4 q5 hp
  have hvar := tab
  unfold Lib.TabIs at hvar
  refine ⟨fun i z hz => ?_, ?_, ?_, ?_, ?_⟩
  · have hi := lt_of_get hz
    have := World.var?_cell g_pow hvar i
    rw [cell_hp, this]
    simp [hz]
  · unfold World.var? at hvar
    rw [g_pow] at hvar
    simp only [Option.bind_some] at hvar
    cases hb : W.heap[1]? with
    | none => rw [hb] at hvar; cases hvar
    | some o =>
      rw [hb] at hvar
      cases o <;> simp at hvar
      rename_i c e fr
      exact ⟨c.toList, e, fr, hb, by rw [hvar]; simp [pow_len]⟩
  · obtain ⟨a, s, hv, _, _, _⟩ := laid_sentinel (ti := 99) (tp := 132) (te := 134) (ts := 9) (ms := #[("Error", 135)]) (f := ⟨"s", 9, 0, false, "", "errors", 0⟩) hs g_syn (by kernel_rfl) (by kernel_rfl) errstr (by kernel_rfl) (by kernel_rfl) rfl rfl (by kernel_rfl) (by kernel_rfl) (by kernel_rfl)
    exact ⟨_, _, by rw [cell_hp]; have := World.var?_cell g_syn hv 0; simpa using this⟩
  · obtain ⟨a, s, hv, _, _, _⟩ := laid_sentinel (ti := 99) (tp := 132) (te := 134) (ts := 9) (ms := #[("Error", 135)]) (f := ⟨"s", 9, 0, false, "", "errors", 0⟩) hr g_rng (by kernel_rfl) (by kernel_rfl) errstr (by kernel_rfl) (by kernel_rfl) rfl rfl (by kernel_rfl) (by kernel_rfl) (by kernel_rfl)
    exact ⟨_, _, by rw [cell_hp]; have := World.var?_cell g_rng hv 0; simpa using this⟩
  · obtain ⟨m, hm⟩ := cell_of_shapedOpen_int (g := 0) (t := 3) (zero := #[.int .i64 0]) (k := .i64) hsh (of_decide_eq_true (by kernel_rfl)) (by kernel_rfl) (by kernel_rfl) (by kernel_rfl) (by kernel_rfl) (by kernel_rfl)
    exact ⟨m, hm⟩
set_option maxRecDepth 100000 in
theorem live_reckoned : Ix.runC Tryd.prog glN 1000000 1000 8 [] (Ix.H0 glN erN tabL) (fun y _ => Ix.CV.eq y (.bool true)) = true := by kernel_rfl
theorem tab_ext {σ : Ix.Sig} {h h' : Hp} {g : Nat} {cs : List Ix.CV} (H : Ix.TabAt σ h g cs) (he : Ext none' h h') : Ix.TabAt σ h' g cs := by
  obtain ⟨vs, e, fr, h1, h2⟩ := H
  exact ⟨vs, e, fr, he _ _ h1 (fun e => e), h2⟩
def Laid (h : Hp) : Prop := ∃ bs : List Addr, bs.length = erN ∧ ∀ x ∈ tabL, Ix.TabAt (Ix.σ0 glN bs) h x.1 x.2
theorem Laid.ext {h h' : Hp} (H : Laid h) (he : Ext none' h h') : Laid h' := let ⟨bs, h1, h2⟩ := H; ⟨bs, h1, fun x hx => tab_ext (h2 x hx) he⟩
theorem laid_of {W : World} (h : laidMetH Tryd.prog laidL W) : Laid (hpOf W) := tabs_of h
theorem c_live {h : Hp} {K : Bool → Hp → Prop} (L : Laid h) (hK : ∀ h', Ext none' h h' → K true h') : C8 h K := by
  obtain ⟨bs, hb, ht⟩ := L
  unfold C8
  exact (Ix.closed (bs := bs) follows_mixed (by kernel_rfl) live_reckoned hb ht (K := fun v h' => v = .bool true ∧ Ext none' h h') fun h' he => ⟨rfl, he⟩).mono fun v h' ⟨e, he⟩ => by subst e; exact hK h' he
end Go.Proofs.YtedklcmdjoojfaaDoor

/-
  Books begun; lent lists read; what the second form's bound gives (OcM and OcU, over this seat's texts).
-/
set_option linter.unusedSimpArgs false
set_option linter.unusedVariables false
namespace Go.Proofs.YtedklcmdjoojfaaDoor
open Go Go.Hw
theorem bulk_one {H : Type} (d : DataW H) : 1 ≤ Rows.uptoBulk d := by
  cases d with
  | lit l => cases l <;> simp [Rows.uptoBulk]
  | _ => simp [Rows.uptoBulk]
theorem bulk_len {H : Type} (l : List (DataW H)) : l.length ≤ Rows.uptoBulkAll l := by
  induction l with
  | nil => simp [Rows.uptoBulkAll]
  | cons x r ih => have := bulk_one x; simp only [Rows.uptoBulkAll, List.length_cons]; omega
theorem bulk_slice {H : Type} (e s : List (DataW H)) : e.length ≤ Rows.uptoBulk (.slice e s) := by
  have := bulk_len e
  simp only [Rows.uptoBulk]; omega
end Go.Proofs.YtedklcmdjoojfaaDoor

/-
  Packets and choices that a law is handed: opened.
-/
set_option linter.unusedSimpArgs false
set_option linter.unusedVariables false
namespace Go.Proofs.YtedklcmdjoojfaaDoor
open Go Go.Hw
open Go.ChangeShapes Go.WideShapes Go.ChangeAt Go.RowKit
theorem optB_len {o : Opt} {b : Nat} (h : o.1.size + 3 ≤ b) (hv : o.2 ≤ 9223372036854775807) : (optB o).length ≤ 8 * b := by
  have hs : o.1.size = o.1.data.toList.length := by show o.1.data.size = _; simp
  have := dec_lt 19 o.2.toNat (by omega)
  simp only [optB, List.length_append, List.length_cons, List.length_nil]
  omega
theorem optsB_bulk {H : Type} : ∀ (os : List Opt) (ds : List (DataW H)), os.length = ds.length → (∀ (i : Nat) o d, os[i]? = some o → ds[i]? = some d → o.1.size + 3 ≤ Rows.uptoBulk d ∧ o.2 ≤ 9223372036854775807) → (optsB os).length ≤ 8 * Rows.uptoBulkAll ds
  | [], ds, _, _ => by simp [optsB]
  | o :: os, d :: ds, hl, h => by
    have h1 := h 0 o d rfl rfl
    have h2 := optsB_bulk os ds (by simpa using hl) fun i o' d' ho hd => h (i + 1) o' d' ho hd
    have h3 := optB_len h1.1 h1.2
    have e : optsB (o :: os) = optB o ++ optsB os := rfl
    rw [e, List.length_append]
    simp only [Rows.uptoBulkAll]
    omega
section
variable {H : Type} {enc : TypeId × Value → H}
set_option maxRecDepth 100000 in
theorem choice_one {W : World} {sp : Nat → Bool} {held : Bool} {n : Nat} {cs : List Value} {y : DataW H × List MemPlace} (hf : DataW.trod enc Tryd.prog W 0 sp held n 56 cs = some y) :
    ∃ o : Opt, cs = oc o ∧ o.1.size + 3 ≤ Rows.uptoBulk y.1 ∧ -9223372036854775808 ≤ o.2 ∧ o.2 ≤ 9223372036854775807 := by
  have hu : Tryd.prog.underlying 56 = some (.struct #[.mk "Name" 9 0 false "" "" 0, .mk "Value" 3 1 false "" "" 16]) := by kernel_rfl
  obtain ⟨xs, m, _, rfl, hl, hxl, hx⟩ := DataW.trod_struct hu hf
  rw [ch_a] at hl
  have hxl : xs.length = 2 := hxl
  match cs, hl with
  | [u0, u1], _ =>
    match xs, hxl with
    | [y0, y1], _ =>
      have g0 := hx 0 _ rfl
      have g1 := hx 1 _ rfl
      simp only [show Tryd.prog.cellsOf 9 = 1 from by kernel_rfl, show Tryd.prog.cellsOf 3 = 1 from by kernel_rfl, List.drop_zero, List.drop_succ_cons, List.take_succ_cons, List.take_zero, List.getElem?_cons_zero, List.getElem?_cons_succ] at g0 g1
      obtain ⟨s, e0, d0, _⟩ := DataW.trod_string (by kernel_rfl) g0
      obtain ⟨v, e1, d1, hw⟩ := DataW.trod_int (k := .i64) (by kernel_rfl) g1
      cases e0; cases e1
      have hw := wfb hw
      simp [IntKind.min, IntKind.max, IntKind.signed, IntKind.bits] at hw
      refine ⟨(s, v), rfl, ?_, hw.1, hw.2⟩
      rw [d0, d1]
      have hs : s.size = s.data.toList.length := by show s.data.size = _; simp
      simp only [List.map_cons, List.map_nil, Rows.uptoBulk, Rows.uptoBulkAll]
      omega
theorem choices_core {W : World} {held : Bool} {n : Nat} {cs : List Value} {y : DataW H × List MemPlace} (hf : DataW.trod enc Tryd.prog W 0 (fun _ => true) held n 23 cs = some y) :
    ∃ (s : Sl) (os : List Opt), cs = [s.v] ∧ RdO (hpOf W) s os ∧ os.length ≤ Rows.uptoBulk y.1 ∧ (optsB os).length ≤ 8 * Rows.uptoBulk y.1 ∧ (s.c = 0 ∨ ∃ elems spare, y.1 = .slice elems spare ∧ elems.length + spare.length = s.c) := by
  rcases DataW.trod_slice (e := 56) (by kernel_rfl) hf with ⟨h0, hx⟩ | ⟨a, len, cap, elems, rest, m, _, h1, hx, _, hl, _, hlen, hel, hsp, _⟩
  · exact ⟨⟨none, 0, 0⟩, [], h0, ⟨rfl, Nat.le_refl _, by intro i v hi; simp at hi⟩, by simp, by simp [optsB], .inl rfl⟩
  · rw [ch_a] at hel
    have each : ∀ i ∈ List.range len, ∃ o : Opt, (∃ d, (elems.map (·.1))[i]? = some d ∧ o.1.size + 3 ≤ Rows.uptoBulk d ∧ o.2 ≤ 9223372036854775807) ∧ cell (hpOf W) (a.add (i * 2)) = some (.string o.1) ∧ cell (hpOf W) (a.add (i * 2 + 1)) = some (.int .i64 o.2) := by
      intro i hi
      have hi := List.mem_range.1 hi
      have h2 := hel i hi
      rw [List.getElem?_eq_getElem (by omega)] at h2
      obtain ⟨cs, h3, h4⟩ := Option.bind_eq_some_iff.1 h2
      obtain ⟨o, rfl, hb, _, hv⟩ := choice_one h4
      have c := (World.cells?_some h3).2.2
      have c0 := c 0 (by omega)
      have c1 := c 1 (by omega)
      rw [add_add] at c0 c1
      refine ⟨o, ⟨elems[i].1, by rw [List.getElem?_map, List.getElem?_eq_getElem (by omega)]; rfl, hb, hv⟩, ?_, ?_⟩
      · rw [cell_hp]; exact c0
      · rw [cell_hp]; exact c1
    obtain ⟨os, hol, ho⟩ := pick_all (fun (i : Nat) (o : Opt) => (∃ d, (elems.map (·.1))[i]? = some d ∧ o.1.size + 3 ≤ Rows.uptoBulk d ∧ o.2 ≤ 9223372036854775807) ∧ cell (hpOf W) (a.add (i * 2)) = some (.string o.1) ∧ cell (hpOf W) (a.add (i * 2 + 1)) = some (.int .i64 o.2)) each
    simp only [List.length_range] at hol
    have hox : ∀ (i : Nat) o, os[i]? = some o → (∃ d, (elems.map (·.1))[i]? = some d ∧ o.1.size + 3 ≤ Rows.uptoBulk d ∧ o.2 ≤ 9223372036854775807) ∧ cell (hpOf W) (a.add (i * 2)) = some (.string o.1) ∧ cell (hpOf W) (a.add (i * 2 + 1)) = some (.int .i64 o.2) := by
      intro i o hi
      have hil : i < len := by rw [← hol]; exact (List.getElem?_eq_some_iff.1 hi).1
      obtain ⟨o', h1, h2⟩ := ho i i (by simp [hil])
      rw [hi] at h1
      cases h1
      exact h2
    have hb := optsB_bulk os (elems.map (·.1)) (by simp; omega) fun i o d h1 h2 => by
      obtain ⟨⟨d', h3, h4⟩, _⟩ := hox i o h1
      rw [h2] at h3
      cases h3
      exact h4
    have hsl := (hsp rfl).1
    refine ⟨⟨some a, len, cap⟩, os, h1, ⟨hol.symm, hl, ?_⟩, ?_, ?_, ?_⟩
    · intro i v hi
      have hlt := (List.getElem?_eq_some_iff.1 hi).1
      rw [oc_len] at hlt
      obtain ⟨j, hj⟩ : ∃ j, i = j * 2 ∨ i = j * 2 + 1 := ⟨i / 2, by omega⟩
      have hk : j < os.length := by omega
      obtain ⟨g1, g2⟩ := oc_get os j hk
      obtain ⟨_, k1, k2⟩ := hox j _ (List.getElem?_eq_getElem hk)
      refine ⟨a, rfl, ?_⟩
      rcases hj with rfl | rfl
      · rw [g1] at hi
        cases hi
        exact k1
      · rw [g2] at hi
        cases hi
        exact k2
    · rw [hx]
      have := bulk_slice (H := H) (elems.map (·.1)) (rest.map (·.1))
      simp only [List.length_map] at this
      dsimp only
      omega
    · rw [hx]
      simp only [Rows.uptoBulk]
      omega
    · refine .inr ⟨_, _, by rw [hx], ?_⟩
      simp only [List.length_map]
      omega
set_option maxRecDepth 100000 in
/-- a packet -/
theorem packet_open {r : Reach} {W : World} {b0 : Nat} {held : Bool} {v : Value} {d : DataW H} {ps : List MemPlace} (hwt : ∀ n ∈ d.weights Tryd.prog 26, n ≤ reachBytes) (hval : Value.okWide Tryd.prog W r b0 26 v) (hd : DataW.Trod enc Tryd.prog W 0 (fun _ => true) held 26 v d ps) :
    ∃ (op : Int) (file mode : ByteArray) (x3 : Sl) (block : Int) (x5 : Sl) (code : Int) (text : ByteArray) (os : List Opt) (data : List UInt8), v = .agg ⟨pkL op file mode x3 block x5 code text⟩ ∧ RdO (hpOf W) x3 os ∧ RdB (hpOf W) x5 data ∧
      os.length ≤ Rows.uptoBulk d ∧ file.size + mode.size + text.size + (optsB os).length + data.length ≤ 10 * Rows.uptoBulk d ∧
      (os.length ≤ 5864062014635 ∧ data.length ≤ 140737488351232 ∧ file.size ≤ 140737488351232 ∧ text.size ≤ 140737488351232) ∧
      (-9223372036854775808 ≤ op ∧ op ≤ 9223372036854775807) ∧ (-9223372036854775808 ≤ block ∧ block ≤ 9223372036854775807) ∧ (-9223372036854775808 ≤ code ∧ code ≤ 9223372036854775807) := by
  have hu : Tryd.prog.underlying 26 = some (.struct #[.mk "Op" 3 0 false "" "" 0, .mk "File" 9 1 false "" "" 8, .mk "Mode" 9 2 false "" "" 24, .mk "Choices" 23 3 false "" "" 40,
    .mk "Block" 3 4 false "" "" 64, .mk "Data" 24 5 false "" "" 72, .mk "Code" 3 6 false "" "" 96, .mk "Text" 9 7 false "" "" 104]) := by kernel_rfl
  obtain ⟨⟨cs⟩, rfl, hsz⟩ := okWide_struct hu hval
  obtain ⟨fuel, hf⟩ := hd
  replace hf : DataW.trod enc Tryd.prog W 0 (fun _ => true) held fuel 26 cs = some (d, ps) := hf
  obtain ⟨xs, m, _, hxe, hl, hxl, hx⟩ := DataW.trod_struct hu hf
  rw [show Tryd.prog.cellsOf 26 = 8 from by kernel_rfl] at hl
  have hxl : xs.length = 8 := hxl
  obtain ⟨rfl, rfl⟩ := Prod.mk.inj hxe
  match cs, hl with
  | [u0, u1, u2, u3, u4, u5, u6, u7], _ =>
    match xs, hxl with
    | [y0, y1, y2, y3, y4, y5, y6, y7], _ =>
      have g0 := hx 0 _ rfl
      have g1 := hx 1 _ rfl
      have g2 := hx 2 _ rfl
      have g3 := hx 3 _ rfl
      have g4 := hx 4 _ rfl
      have g5 := hx 5 _ rfl
      have g6 := hx 6 _ rfl
      have g7 := hx 7 _ rfl
      simp only [show Tryd.prog.cellsOf 9 = 1 from by kernel_rfl, show Tryd.prog.cellsOf 3 = 1 from by kernel_rfl, show Tryd.prog.cellsOf 24 = 1 from by kernel_rfl, show Tryd.prog.cellsOf 23 = 1 from by kernel_rfl,
        List.drop_zero, List.drop_succ_cons, List.take_succ_cons, List.take_zero, List.getElem?_cons_zero, List.getElem?_cons_succ] at g0 g1 g2 g3 g4 g5 g6 g7
      obtain ⟨op, e0, _, w0⟩ := DataW.trod_int (k := .i64) (by kernel_rfl) g0
      obtain ⟨file, e1, d1, _⟩ := DataW.trod_string (by kernel_rfl) g1
      obtain ⟨mode, e2, d2, _⟩ := DataW.trod_string (by kernel_rfl) g2
      obtain ⟨x3, os, e3, ho, hol, hob, hoc⟩ := choices_core g3
      obtain ⟨block, e4, _, w4⟩ := DataW.trod_int (k := .i64) (by kernel_rfl) g4
      obtain ⟨x5, data, e5, hd5, hcap⟩ := bytes_core (e := 5) (by kernel_rfl) (by kernel_rfl) (by kernel_rfl) g5
      obtain ⟨code, e6, _, w6⟩ := DataW.trod_int (k := .i64) (by kernel_rfl) g6
      obtain ⟨text, e7, d7, _⟩ := DataW.trod_string (by kernel_rfl) g7
      cases e0; cases e1; cases e2; cases e3; cases e4; cases e5; cases e6; cases e7
      have w0 := wfb w0
      have w4 := wfb w4
      have w6 := wfb w6
      simp [IntKind.min, IntKind.max, IntKind.signed, IntKind.bits] at w0 w4 w6
      have hs1 : file.size = file.data.toList.length := by show file.data.size = _; simp
      have hs2 : mode.size = mode.data.toList.length := by show mode.data.size = _; simp
      have hs7 : text.size = text.data.toList.length := by show text.data.size = _; simp
      have hdl : data.length ≤ Rows.uptoBulk y5.1 := by
        have hn := hd5.n
        have hc := hd5.c
        rcases hcap with h | ⟨el, sp, hd, hls⟩
        · omega
        · rw [hd]
          have b1 := bulk_len el
          have b2 := bulk_len sp
          simp only [Rows.uptoBulk]
          omega
      simp only [DataW.weights, hu, List.map_cons, List.map_nil, DataW.weightsEach, List.mem_append] at hwt
      refine ⟨op, file, mode, x3, block, x5, code, text, os, data, rfl, ho, hd5, ?_, ?_, ⟨?_, ?_, ?_, ?_⟩, w0, w4, w6⟩
      · simp only [List.map_cons, List.map_nil, Rows.uptoBulk, Rows.uptoBulkAll]
        omega
      · rw [d1, d2, d7]
        simp only [List.map_cons, List.map_nil, Rows.uptoBulk, Rows.uptoBulkAll]
        omega
      · have hn := ho.n
        have hc := ho.c
        rcases hoc with h | ⟨el, sp, hd, hls⟩
        · omega
        · have := hwt ((el.length + sp.length) * Tryd.prog.bytesOf 56) (by
            rw [hd]; simp only [DataW.weights, show Tryd.prog.underlying 23 = some (.slice 56) from by kernel_rfl]; simp)
          rw [ch_b] at this
          unfold reachBytes at this
          omega
      · have hn := hd5.n
        have hc := hd5.c
        rcases hcap with h | ⟨el, sp, hd, hls⟩
        · omega
        · have := hwt ((el.length + sp.length) * Tryd.prog.bytesOf 5) (by
            rw [hd]; simp only [DataW.weights, show Tryd.prog.underlying 24 = some (.slice 5) from by kernel_rfl]; simp)
          rw [y_b] at this
          unfold reachBytes at this
          omega
      · have := hwt file.data.toList.length (by rw [d1]; simp [DataW.weights])
        unfold reachBytes at this
        omega
      · have := hwt text.data.toList.length (by rw [d7]; simp [DataW.weights])
        unfold reachBytes at this
        omega
end
end Go.Proofs.YtedklcmdjoojfaaDoor

/-
  Choices and an offer that a law is handed: opened.
-/
set_option linter.unusedSimpArgs false
set_option linter.unusedVariables false
namespace Go.Proofs.YtedklcmdjoojfaaDoor
open Go Go.Hw
open Go.ChangeShapes Go.WideShapes Go.ChangeAt Go.RowKit
section
variable {H : Type} {enc : TypeId × Value → H}
set_option maxRecDepth 100000 in
theorem offer_open {r : Reach} {W : World} {b0 : Nat} {held : Bool} {v : Value} {d : DataW H} {ps : List MemPlace} (hval : Value.okWide Tryd.prog W r b0 46 v) (hd : DataW.Trod enc Tryd.prog W 0 (fun _ => true) held 46 v d ps) :
    ∃ (bl wi si mo : Int) (nm : ByteArray), v = .agg #[.int .i64 bl, .int .i64 wi, .int .i64 si, .int .i64 mo, .string nm] := by
  have hu : Tryd.prog.underlying 46 = some (.struct #[.mk "Block" 3 0 false "" "" 0, .mk "Window" 3 1 false "" "" 8, .mk "Size" 3 2 false "" "" 16, .mk "Most" 3 3 false "" "" 24, .mk "Name" 9 4 false "" "" 32]) := by kernel_rfl
  obtain ⟨⟨cs⟩, rfl, hsz⟩ := okWide_struct hu hval
  obtain ⟨fuel, hf⟩ := hd
  replace hf : DataW.trod enc Tryd.prog W 0 (fun _ => true) held fuel 46 cs = some (d, ps) := hf
  obtain ⟨xs, m, _, hxe, hl, hxl, hx⟩ := DataW.trod_struct hu hf
  rw [show Tryd.prog.cellsOf 46 = 5 from by kernel_rfl] at hl
  have hxl : xs.length = 5 := hxl
  match cs, hl with
  | [u0, u1, u2, u3, u4], _ =>
    match xs, hxl with
    | [y0, y1, y2, y3, y4], _ =>
      have g0 := hx 0 _ rfl
      have g1 := hx 1 _ rfl
      have g2 := hx 2 _ rfl
      have g3 := hx 3 _ rfl
      have g4 := hx 4 _ rfl
      simp only [show Tryd.prog.cellsOf 9 = 1 from by kernel_rfl, show Tryd.prog.cellsOf 3 = 1 from by kernel_rfl,
        List.drop_zero, List.drop_succ_cons, List.take_succ_cons, List.take_zero, List.getElem?_cons_zero, List.getElem?_cons_succ] at g0 g1 g2 g3 g4
      obtain ⟨bl, e0, _, _⟩ := DataW.trod_int (k := .i64) (by kernel_rfl) g0
      obtain ⟨wi, e1, _, _⟩ := DataW.trod_int (k := .i64) (by kernel_rfl) g1
      obtain ⟨si, e2, _, _⟩ := DataW.trod_int (k := .i64) (by kernel_rfl) g2
      obtain ⟨mo, e3, _, _⟩ := DataW.trod_int (k := .i64) (by kernel_rfl) g3
      obtain ⟨nm, e4, _, _⟩ := DataW.trod_string (by kernel_rfl) g4
      cases e0; cases e1; cases e2; cases e3; cases e4
      exact ⟨bl, wi, si, mo, nm, rfl⟩
end
end Go.Proofs.YtedklcmdjoojfaaDoor

set_option linter.unusedVariables false
set_option maxRecDepth 100000
namespace Go.Proofs.YtedklcmdjoojfaaDoor
open Go Go.Hw
noncomputable def B7 : Code := match Tryd.f7.body with | some c => c | none => .skip
def N7_j1 (x1_bytes : Sl) (x3_p : Option Addr) (x5_o : Option Addr) (x10_q : Option Addr) (h : Hp) (K_normal : Hp → Prop) (K_ret : Bool → Hp → Prop) : Prop :=
  nn x10_q fun a0 =>
  xL (cell h (a0.add 3)) fun s0 =>
  nn x3_p fun a1 =>
  xL (cell h (a1.add 3)) fun s1 =>
  C27 s0 s1 h fun b0 h0 =>
  nn x3_p fun a2 =>
  xI .i64 (cell h0 a2) fun n0 =>
  bif (n0 == 1) then
    bif (!b0) then
      K_ret false h0
    else
      K_normal h0
  else
    nn x3_p fun a3 =>
    xI .i64 (cell h0 a3) fun n1 =>
    bif (n1 == 6) then
      bif (!b0) then
        K_ret false h0
      else
        K_normal h0
    else
      K_normal h0
noncomputable def N7_j1_t : Xf := pieceT [(1, .c (.slice)), (3, .c (.ptr)), (5, .c (.ptr)), (10, .c (.ptr))] (codeAt B7 [1, 1, 1, 1, 0, 1, 0, 1, 1, 1, 1, 1]) fun x h Q => N7_j1 x.1 x.2.1 x.2.2.1 x.2.2.2 h (fun h' => Q .normal (Sg.env [] ()) h') (fun o0 h' => Q .ret (Sg.env [(6, .c (.bool))] o0) h')
theorem N7_j1_ok : Sound Tryd.prog Tryd.f7.ntmps N7_j1_t (codeAt B7 [1, 1, 1, 1, 0, 1, 0, 1, 1, 1, 1, 1]) := by
  refine piece_sound (fun e => match e with | .normal => [] | .ret => [6] | _ => []) ?_
  intro x h Q hb
  refine den_sound hE hm _ .leaf _ _ _ (annOk_leaf) ?_
  refine cast ?_ hb
  kernel_rfl
def N7_j0 (x1_bytes : Sl) (x3_p : Option Addr) (x5_o : Option Addr) (x10_q : Option Addr) (h : Hp) (K_normal : Hp → Prop) (K_ret : Bool → Hp → Prop) : Prop :=
  nn x3_p fun a0 =>
  xI .i64 (cell h a0) fun n0 =>
  bif (n0 == 5) then
    nn x10_q fun a1 =>
    xI .i64 (cell h (a1.add 6)) fun n1 =>
    nn x3_p fun a2 =>
    xI .i64 (cell h (a2.add 6)) fun n2 =>
    bif (n1 != n2) then
      K_ret false h
    else
      nn x10_q fun a3 =>
      xS (cell h (a3.add 7)) fun s0 =>
      nn x3_p fun a4 =>
      xS (cell h (a4.add 7)) fun s1 =>
      bif (!(s0.toList == s1.toList)) then
        K_ret false h
      else
        nn x3_p fun a5 =>
        xI .i64 (cell h a5) fun n3 =>
        bif (n3 == 1) then
          nn x10_q fun a6 =>
          xS (cell h (a6.add 1)) fun s2 =>
          nn x3_p fun a7 =>
          xS (cell h (a7.add 1)) fun s3 =>
          bif (!(s2.toList == s3.toList)) then
            K_ret false h
          else
            N7_j1 x1_bytes x3_p x5_o x10_q h
              (fun h0 =>
                K_normal h0)
              (fun b0 h1 =>
                K_ret b0 h1)
        else
          N7_j1 x1_bytes x3_p x5_o x10_q h
            (fun h2 =>
              K_normal h2)
            (fun b1 h3 =>
              K_ret b1 h3)
  else
    nn x3_p fun a8 =>
    xI .i64 (cell h a8) fun n4 =>
    bif (n4 == 1) then
      nn x10_q fun a9 =>
      xS (cell h (a9.add 1)) fun s4 =>
      nn x3_p fun a10 =>
      xS (cell h (a10.add 1)) fun s5 =>
      bif (!(s4.toList == s5.toList)) then
        K_ret false h
      else
        N7_j1 x1_bytes x3_p x5_o x10_q h
          (fun h4 =>
            K_normal h4)
          (fun b2 h5 =>
            K_ret b2 h5)
    else
      N7_j1 x1_bytes x3_p x5_o x10_q h
        (fun h6 =>
          K_normal h6)
        (fun b3 h7 =>
          K_ret b3 h7)
noncomputable def N7_j0_t : Xf := pieceT [(1, .c (.slice)), (3, .c (.ptr)), (5, .c (.ptr)), (10, .c (.ptr))] (codeAt B7 [1, 1, 1, 1, 0, 1, 0, 1, 1, 1, 1]) fun x h Q => N7_j0 x.1 x.2.1 x.2.2.1 x.2.2.2 h (fun h' => Q .normal (Sg.env [] ()) h') (fun o0 h' => Q .ret (Sg.env [(6, .c (.bool))] o0) h')
theorem N7_j0_ok : Sound Tryd.prog Tryd.f7.ntmps N7_j0_t (codeAt B7 [1, 1, 1, 1, 0, 1, 0, 1, 1, 1, 1]) := by
  refine piece_sound (fun e => match e with | .normal => [] | .ret => [6] | _ => []) ?_
  intro x h Q hb
  refine den_sound hE hm _ (.two .leaf (.xf N7_j1_t)) _ _ _ (⟨annOk_leaf, N7_j1_ok⟩) ?_
  refine cast ?_ hb
  kernel_rfl
def N7_j4 (x23_block : Int) (x24_window : Int) (x26_x : Int) (x27_y : Int) (x28_g : Int) (x30_h : Int) (h : Hp) (K_ret : Bool → Hp → Prop) : Prop :=
  bif (x26_x == x23_block) then
    bif (x27_y == x24_window) then
      bif (x28_g == 0) then
        bif (x30_h == 0) then
          bif (decide (x23_block ≤ 65464)) then
            K_ret (decide (x24_window ≥ 1)) h
          else
            K_ret false h
        else
          K_ret false h
      else
        K_ret false h
    else
      K_ret false h
  else
    K_ret false h
noncomputable def N7_j4_t : Xf := pieceT [(23, .c (.int .i64)), (24, .c (.int .i64)), (26, .c (.int .i64)), (27, .c (.int .i64)), (28, .c (.int .i64)), (30, .c (.int .i64))] (codeAt B7 [1, 1, 1, 1, 1, 1, 1, 1, 1, 1, 1, 1, 1]) fun x h Q => N7_j4 x.1 x.2.1 x.2.2.1 x.2.2.2.1 x.2.2.2.2.1 x.2.2.2.2.2 h (fun o0 h' => Q .ret (Sg.env [(6, .c (.bool))] o0) h')
theorem N7_j4_ok : Sound Tryd.prog Tryd.f7.ntmps N7_j4_t (codeAt B7 [1, 1, 1, 1, 1, 1, 1, 1, 1, 1, 1, 1, 1]) := by
  refine piece_sound (fun e => match e with | .ret => [6] | _ => []) ?_
  intro x h Q hb
  refine den_sound hE hm _ .leaf _ _ _ (annOk_leaf) ?_
  refine cast ?_ hb
  kernel_rfl
def N7_j3 (x3_p : Option Addr) (x5_o : Option Addr) (h : Hp) (K_ret : Bool → Hp → Prop) : Prop :=
  nn x5_o fun a0 =>
  xI .i64 (cell h (a0.add 2)) fun n0 =>
  nn x3_p fun a1 =>
  xL (cell h (a1.add 3)) fun s0 =>
  nn x5_o fun a2 =>
  xI .i64 (cell h a2) fun n1 =>
  nn x5_o fun a3 =>
  xI .i64 (cell h (a3.add 1)) fun n2 =>
  C22 s0 n1 n2 (mx 0 n0) h fun n3 n4 s1 h0 =>
  nn x3_p fun a4 =>
  xL (cell h0 (a4.add 3)) fun s2 =>
  nn x5_o fun a5 =>
  xI .i64 (cell h0 (a5.add 3)) fun n5 =>
  C23 s2 s1 (mx (mx 0 n0) n5) h0 fun n6 n7 n8 h1 =>
  C11 6 (⟨⟨[]⟩⟩ : ByteArray) (⟨⟨[]⟩⟩ : ByteArray) s1 0 ⟨none, 0, 0⟩ 0 (⟨⟨[]⟩⟩ : ByteArray) h1 fun s3 n9 h2 =>
  C21 s1 (⟨⟨[98, 108, 107, 115, 105, 122, 101]⟩⟩ : ByteArray) h2 fun n10 b0 h3 =>
  bif b0 then
    bif (n10 != n3) then
      K_ret false h3
    else
      bif (!b0) then
        bif (n3 != 512) then
          K_ret false h3
        else
          N7_j4 n3 n4 n6 n7 n8 n9 h3
            (fun b1 h4 =>
              K_ret b1 h4)
      else
        N7_j4 n3 n4 n6 n7 n8 n9 h3
          (fun b2 h5 =>
            K_ret b2 h5)
  else
    bif (!b0) then
      bif (n3 != 512) then
        K_ret false h3
      else
        N7_j4 n3 n4 n6 n7 n8 n9 h3
          (fun b3 h6 =>
            K_ret b3 h6)
    else
      N7_j4 n3 n4 n6 n7 n8 n9 h3
        (fun b4 h7 =>
          K_ret b4 h7)
noncomputable def N7_j3_t : Xf := pieceT [(3, .c (.ptr)), (5, .c (.ptr))] (codeAt B7 [1, 1, 1, 1, 1, 1, 1]) fun x h Q => N7_j3 x.1 x.2 h (fun o0 h' => Q .ret (Sg.env [(6, .c (.bool))] o0) h')
theorem N7_j3_ok : Sound Tryd.prog Tryd.f7.ntmps N7_j3_t (codeAt B7 [1, 1, 1, 1, 1, 1, 1]) := by
  refine piece_sound (fun e => match e with | .ret => [6] | _ => []) ?_
  intro x h Q hb
  refine den_sound hE hm _ (.two .leaf (.two .leaf (.two .leaf (.two .leaf (.two .leaf (.two .leaf (.xf N7_j4_t))))))) _ _ _ (⟨annOk_leaf, ⟨annOk_leaf, ⟨annOk_leaf, ⟨annOk_leaf, ⟨annOk_leaf, ⟨annOk_leaf, N7_j4_ok⟩⟩⟩⟩⟩⟩) ?_
  refine cast ?_ hb
  kernel_rfl
def N7_j2 (x1_bytes : Sl) (x3_p : Option Addr) (x5_o : Option Addr) (h : Hp) (K_ret : Bool → Hp → Prop) : Prop :=
  C17 x1_bytes h fun n0 s0 s1 s2 n1 s3 n2 s4 n3 h0 =>
  nw h0 (.cells ⟨[.int .i64 0, .string (⟨⟨[]⟩⟩ : ByteArray), .string (⟨⟨[]⟩⟩ : ByteArray), .slice none 0 0, .int .i64 0, .slice none 0 0, .int .i64 0, .string (⟨⟨[]⟩⟩ : ByteArray)]⟩ 26) fun b0 h1 =>
  st h1 (bk b0) (.int .i64 n0) fun h2 =>
  st h2 ((bk b0).add 1) (.string s0) fun h3 =>
  st h3 ((bk b0).add 2) (.string s1) fun h4 =>
  st h4 ((bk b0).add 3) (.slice s2.p s2.n s2.c) fun h5 =>
  st h5 ((bk b0).add 4) (.int .i64 n1) fun h6 =>
  st h6 ((bk b0).add 5) (.slice s3.p s3.n s3.c) fun h7 =>
  st h7 ((bk b0).add 6) (.int .i64 n2) fun h8 =>
  st h8 ((bk b0).add 7) (.string s4) fun h9 =>
  bif (n3 == 0) then
    xI .i64 (cell h9 (bk b0)) fun n4 =>
    xS (cell h9 ((bk b0).add 1)) fun s5 =>
    xS (cell h9 ((bk b0).add 2)) fun s6 =>
    xL (cell h9 ((bk b0).add 3)) fun s7 =>
    xI .i64 (cell h9 ((bk b0).add 4)) fun n5 =>
    xL (cell h9 ((bk b0).add 5)) fun s8 =>
    xI .i64 (cell h9 ((bk b0).add 6)) fun n6 =>
    xS (cell h9 ((bk b0).add 7)) fun s9 =>
    C11 n4 s5 s6 s7 n5 s8 n6 s9 h9 fun s10 n7 h10 =>
    C17 s10 h10 fun n8 s11 s12 s13 n9 s14 n10 s15 n11 h11 =>
    nw h11 (.cells ⟨[.int .i64 0, .string (⟨⟨[]⟩⟩ : ByteArray), .string (⟨⟨[]⟩⟩ : ByteArray), .slice none 0 0, .int .i64 0, .slice none 0 0, .int .i64 0, .string (⟨⟨[]⟩⟩ : ByteArray)]⟩ 26) fun b1 h12 =>
    st h12 (bk b1) (.int .i64 n8) fun h13 =>
    st h13 ((bk b1).add 1) (.string s11) fun h14 =>
    st h14 ((bk b1).add 2) (.string s12) fun h15 =>
    st h15 ((bk b1).add 3) (.slice s13.p s13.n s13.c) fun h16 =>
    st h16 ((bk b1).add 4) (.int .i64 n9) fun h17 =>
    st h17 ((bk b1).add 5) (.slice s14.p s14.n s14.c) fun h18 =>
    st h18 ((bk b1).add 6) (.int .i64 n10) fun h19 =>
    st h19 ((bk b1).add 7) (.string s15) fun h20 =>
    xI .i64 (cell h20 (bk b1)) fun n12 =>
    xS (cell h20 ((bk b1).add 1)) fun s16 =>
    xS (cell h20 ((bk b1).add 2)) fun s17 =>
    xL (cell h20 ((bk b1).add 3)) fun s18 =>
    xI .i64 (cell h20 ((bk b1).add 4)) fun n13 =>
    xL (cell h20 ((bk b1).add 5)) fun s19 =>
    xI .i64 (cell h20 ((bk b1).add 6)) fun n14 =>
    xS (cell h20 ((bk b1).add 7)) fun s20 =>
    xI .i64 (cell h20 (bk b0)) fun n15 =>
    xS (cell h20 ((bk b0).add 1)) fun s21 =>
    xS (cell h20 ((bk b0).add 2)) fun s22 =>
    xL (cell h20 ((bk b0).add 3)) fun s23 =>
    xI .i64 (cell h20 ((bk b0).add 4)) fun n16 =>
    xL (cell h20 ((bk b0).add 5)) fun s24 =>
    xI .i64 (cell h20 ((bk b0).add 6)) fun n17 =>
    xS (cell h20 ((bk b0).add 7)) fun s25 =>
    C19 n12 s16 s17 s18 n13 s19 n14 s20 n15 s21 s22 s23 n16 s24 n17 s25 h20 fun b2 h21 =>
    bif (n7 != 0) then
      K_ret false h21
    else
      bif (n11 != 0) then
        K_ret false h21
      else
        bif (!b2) then
          K_ret false h21
        else
          N7_j3 x3_p x5_o h21
            (fun b3 h22 =>
              K_ret b3 h22)
  else
    N7_j3 x3_p x5_o h9
      (fun b4 h23 =>
        K_ret b4 h23)
noncomputable def N7_j2_t : Xf := pieceT [(1, .c (.slice)), (3, .c (.ptr)), (5, .c (.ptr))] (codeAt B7 [1, 1, 1, 1, 1]) fun x h Q => N7_j2 x.1 x.2.1 x.2.2 h (fun o0 h' => Q .ret (Sg.env [(6, .c (.bool))] o0) h')
theorem N7_j2_ok : Sound Tryd.prog Tryd.f7.ntmps N7_j2_t (codeAt B7 [1, 1, 1, 1, 1]) := by
  refine piece_sound (fun e => match e with | .ret => [6] | _ => []) ?_
  intro x h Q hb
  refine den_sound hE hm _ (.two .leaf (.two .leaf (.xf N7_j3_t))) _ _ _ (⟨annOk_leaf, ⟨annOk_leaf, N7_j3_ok⟩⟩) ?_
  refine cast ?_ hb
  kernel_rfl
def N7 (x0_0 : Int) (x0_1 : ByteArray) (x0_2 : ByteArray) (x0_3 : Sl) (x0_4 : Int) (x0_5 : Sl) (x0_6 : Int) (x0_7 : ByteArray) (x1 : Sl) (x2_0 : Int) (x2_1 : Int) (x2_2 : Int) (x2_3 : Int) (x2_4 : ByteArray) (h : Hp) (K : Bool → Hp → Prop) : Prop :=
  nw h (.cells ⟨[.int .i64 x0_0, .string x0_1, .string x0_2, .slice x0_3.p x0_3.n x0_3.c, .int .i64 x0_4, .slice x0_5.p x0_5.n x0_5.c, .int .i64 x0_6, .string x0_7]⟩ 26) fun b0 h0 =>
  nw h0 (.cells ⟨[.int .i64 x2_0, .int .i64 x2_1, .int .i64 x2_2, .int .i64 x2_3, .string x2_4]⟩ 46) fun b1 h1 =>
  C8 h1 fun b2 h2 =>
  bif (!b2) then
    K false h2
  else
    xI .i64 (cell h2 (bk b0)) fun n0 =>
    xS (cell h2 ((bk b0).add 1)) fun s0 =>
    xS (cell h2 ((bk b0).add 2)) fun s1 =>
    xL (cell h2 ((bk b0).add 3)) fun s2 =>
    xI .i64 (cell h2 ((bk b0).add 4)) fun n1 =>
    xL (cell h2 ((bk b0).add 5)) fun s3 =>
    xI .i64 (cell h2 ((bk b0).add 6)) fun n2 =>
    xS (cell h2 ((bk b0).add 7)) fun s4 =>
    C11 n0 s0 s1 s2 n1 s3 n2 s4 h2 fun s5 n3 h3 =>
    bif (n3 == 0) then
      C17 s5 h3 fun n4 s6 s7 s8 n5 s9 n6 s10 n7 h4 =>
      nw h4 (.cells ⟨[.int .i64 0, .string (⟨⟨[]⟩⟩ : ByteArray), .string (⟨⟨[]⟩⟩ : ByteArray), .slice none 0 0, .int .i64 0, .slice none 0 0, .int .i64 0, .string (⟨⟨[]⟩⟩ : ByteArray)]⟩ 26) fun b3 h5 =>
      st h5 (bk b3) (.int .i64 n4) fun h6 =>
      st h6 ((bk b3).add 1) (.string s6) fun h7 =>
      st h7 ((bk b3).add 2) (.string s7) fun h8 =>
      st h8 ((bk b3).add 3) (.slice s8.p s8.n s8.c) fun h9 =>
      st h9 ((bk b3).add 4) (.int .i64 n5) fun h10 =>
      st h10 ((bk b3).add 5) (.slice s9.p s9.n s9.c) fun h11 =>
      st h11 ((bk b3).add 6) (.int .i64 n6) fun h12 =>
      st h12 ((bk b3).add 7) (.string s10) fun h13 =>
      xI .i64 (cell h13 (bk b3)) fun n8 =>
      xS (cell h13 ((bk b3).add 1)) fun s11 =>
      xS (cell h13 ((bk b3).add 2)) fun s12 =>
      xL (cell h13 ((bk b3).add 3)) fun s13 =>
      xI .i64 (cell h13 ((bk b3).add 4)) fun n9 =>
      xL (cell h13 ((bk b3).add 5)) fun s14 =>
      xI .i64 (cell h13 ((bk b3).add 6)) fun n10 =>
      xS (cell h13 ((bk b3).add 7)) fun s15 =>
      C11 n8 s11 s12 s13 n9 s14 n10 s15 h13 fun s16 n11 h14 =>
      bif (n7 != 0) then
        K false h14
      else
        bif (n11 != 0) then
          K false h14
        else
          xI .i64 (cell h14 (bk b3)) fun n12 =>
          xI .i64 (cell h14 (bk b0)) fun n13 =>
          bif (n12 != n13) then
            K false h14
          else
            b2s h14 s16.p s16.n fun s17 =>
            b2s h14 s5.p s5.n fun s18 =>
            bif (!(s17.toList == s18.toList)) then
              K false h14
            else
              xI .i64 (cell h14 (bk b0)) fun n14 =>
              bif (n14 == 3) then
                xI .i64 (cell h14 ((bk b3).add 4)) fun n15 =>
                xI .i64 (cell h14 ((bk b0).add 4)) fun n16 =>
                bif (n15 != n16) then
                  K false h14
                else
                  xL (cell h14 ((bk b3).add 5)) fun s19 =>
                  b2s h14 s19.p s19.n fun s20 =>
                  xL (cell h14 ((bk b0).add 5)) fun s21 =>
                  b2s h14 s21.p s21.n fun s22 =>
                  bif (!(s20.toList == s22.toList)) then
                    K false h14
                  else
                    xI .i64 (cell h14 (bk b0)) fun n17 =>
                    bif (n17 == 4) then
                      xI .i64 (cell h14 ((bk b3).add 4)) fun n18 =>
                      xI .i64 (cell h14 ((bk b0).add 4)) fun n19 =>
                      bif (n18 != n19) then
                        K false h14
                      else
                        N7_j0 x1 (some (bk b0)) (some (bk b1)) (some (bk b3)) h14
                          (fun h15 =>
                            N7_j2 x1 (some (bk b0)) (some (bk b1)) h15
                              (fun b4 h16 =>
                                K b4 h16))
                          (fun b5 h17 =>
                            K b5 h17)
                    else
                      N7_j0 x1 (some (bk b0)) (some (bk b1)) (some (bk b3)) h14
                        (fun h18 =>
                          N7_j2 x1 (some (bk b0)) (some (bk b1)) h18
                            (fun b6 h19 =>
                              K b6 h19))
                        (fun b7 h20 =>
                          K b7 h20)
              else
                xI .i64 (cell h14 (bk b0)) fun n20 =>
                bif (n20 == 4) then
                  xI .i64 (cell h14 ((bk b3).add 4)) fun n21 =>
                  xI .i64 (cell h14 ((bk b0).add 4)) fun n22 =>
                  bif (n21 != n22) then
                    K false h14
                  else
                    N7_j0 x1 (some (bk b0)) (some (bk b1)) (some (bk b3)) h14
                      (fun h21 =>
                        N7_j2 x1 (some (bk b0)) (some (bk b1)) h21
                          (fun b8 h22 =>
                            K b8 h22))
                      (fun b9 h23 =>
                        K b9 h23)
                else
                  N7_j0 x1 (some (bk b0)) (some (bk b1)) (some (bk b3)) h14
                    (fun h24 =>
                      N7_j2 x1 (some (bk b0)) (some (bk b1)) h24
                        (fun b10 h25 =>
                          K b10 h25))
                    (fun b11 h26 =>
                      K b11 h26)
    else
      N7_j2 x1 (some (bk b0)) (some (bk b1)) h3
        (fun b12 h27 =>
          K b12 h27)
theorem S7 {x0_0 : Int} {x0_1 : ByteArray} {x0_2 : ByteArray} {x0_3 : Sl} {x0_4 : Int} {x0_5 : Sl} {x0_6 : Int} {x0_7 : ByteArray} {x1 : Sl} {x2_0 : Int} {x2_1 : Int} {x2_2 : Int} {x2_3 : Int} {x2_4 : ByteArray} {h : Hp} {K : Bool → Hp → Prop} (hn : N7 x0_0 x0_1 x0_2 x0_3 x0_4 x0_5 x0_6 x0_7 x1 x2_0 x2_1 x2_2 x2_3 x2_4 h K) : C7 x0_0 x0_1 x0_2 x0_3 x0_4 x0_5 x0_6 x0_7 x1 x2_0 x2_1 x2_2 x2_3 x2_4 h K := by
  refine calls_of_D Tryd.func7 (c := B7) rfl (by kernel_rfl) ?_
  refine den_sound hE hm _ (.two .leaf (.two .leaf (.two .leaf (.two .leaf (.two (.two .leaf (.two (.two .leaf (.two .leaf (.two .leaf (.two .leaf (.xf N7_j0_t))))) .leaf)) (.xf N7_j2_t)))))) _ _ _ (⟨annOk_leaf, ⟨annOk_leaf, ⟨annOk_leaf, ⟨annOk_leaf, ⟨⟨annOk_leaf, ⟨⟨annOk_leaf, ⟨annOk_leaf, ⟨annOk_leaf, ⟨annOk_leaf, N7_j0_ok⟩⟩⟩⟩, annOk_leaf⟩⟩, N7_j2_ok⟩⟩⟩⟩⟩) ?_
  refine cast ?_ hn
  kernel_rfl
end Go.Proofs.YtedklcmdjoojfaaDoor
