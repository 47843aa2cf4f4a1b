/-
 append, copy; maps that are written; a string that is walked; then all effects in one.
-/
import Derived.Test.YtkfccpabigikkaaPg
import Derived.Test.YtkfccpabigikkaaPc
import Derived.Recover
import Derived.Test.YtkfccpabigikkaaPd
set_option linter.unusedSimpArgs false
set_option linter.unusedVariables false
namespace Go.Ix
open Go Go.Hw
section
variable {P : Program} {E : Nat → Bool} {G : Nat} {h0 : Hp} {σ σ' : Sig} {H : CH} {h : Hp} {env : CE} {ρ : Env}
def lnX : CV → Option Nat
 | .snil => some 0
 | .slc _ _ n _ => some n
 | .slz _ _ _ => some 0
 | .str l => some l.length
 | _ => none
def srX (H : CH) (sz k : Nat) : CV → Option (List CV)
 | .snil => some []
 | .slz _ _ _ => bif Nat.beq k 0 then some [] else none
 | .slc b o _ _ => rdC H b o (k * sz)
 | .str l => some ((bCV l).take k)
 | _ => none
theorem lnX_ok {y : CV} {v : Value} {n : Nat} (hx : lnX y = some n) (hv : VR σ y v) {F : Nat → Prop} (hF : F n) : lnK v F := by
 cases y <;> simp [lnX] at hx
 ·subst hx; unfold VR at hv; obtain ⟨s, rfl, rfl⟩ := hv; rw [bl_len] at hF; exact hF
 ·subst hx; unfold VR at hv; subst hv; exact hF
 ·subst hx; obtain ⟨p, c, _, rfl⟩ := slc_ok hv; exact hF
 ·subst hx; unfold VR at hv; obtain ⟨p, c, _, rfl, _⟩ := hv; exact hF
theorem srX_ok (hh : HR P G h0 σ H h) {sz k : Nat} {y : CV} {v : Value} {l : List CV} (hx : srX H sz k y = some l) (hv : VR σ y v) : ∃ ws, VRs σ l ws ∧ ∀ F : List Value → Prop, F ws → srcK h sz k v F := by
 cases y <;> simp [srX] at hx
 ·subst hx; unfold VR at hv; obtain ⟨s, rfl, rfl⟩ := hv
  exact ⟨_, (bcells_ok s).take k, fun F hF => hF⟩
 ·subst hx; unfold VR at hv; subst hv; exact ⟨[], by unfold VRs; rfl, fun F hF => hF⟩
 ·obtain ⟨p, c, hp, rfl⟩ := slc_ok hv
  obtain ⟨ws, h1, h2, h3⟩ := rdC_rdN hh hx hp
  exact ⟨ws, h1, fun F hF => by unfold srcK; simp only []; rw [h3]; exact hF⟩
 ·obtain ⟨hk, rfl⟩ := condN hx
  have := Nat.eq_of_beq_eq_true hk; subst this
  unfold VR at hv; obtain ⟨p, c, _, rfl, _⟩ := hv
  exact ⟨[], by unfold VRs; rfl, fun F hF => by unfold srcK; simp only []; rw [Nat.zero_mul]; exact hF⟩
theorem HR.del (hh : HR P G h0 σ H h) (b : Nat) : HR P G h0 σ ⟨H.t.set b none, H.nx⟩ h := by
 refine ⟨?_, ?_, hh.fresh, hh.keep, hh.glob⟩
 ·intro b1 o1 hg
  rw [T.get_set] at hg
  split at hg
  ·cases hg
  ·exact hh.obj b1 o1 hg
 ·intro b1 b2 o1 o2 p1 p2 g1 g2
  rw [T.get_set] at g1 g2
  split at g1
  ·cases g1
  ·split at g2
   ·cases g2
   ·exact hh.inj b1 b2 o1 o2 p1 p2 g1 g2
def movB (H : CH) (b : Nat) (o : CO) : CH := ⟨(H.t.set b none).set H.nx (some o), H.nx + 1⟩
theorem HR.move (hh : HR P G h0 σ H h) {b : Nat} {o o' : CO} (hg : H.t.get b = some o) {p p' : Pl} (hp : σ b = some p) (hr : p'.r = p.r) (h0r : h0 p.r = none) {x : Obj} (ho : OR P h0 (plus σ H.nx p') p' o' x) :
  Le σ (plus σ H.nx p') ∧ HR P G h0 (plus σ H.nx p') (movB H b o') (upd h p.r x) := by
 have hl : Le σ (plus σ H.nx p') := plus_le (hh.fresh _ (Nat.le_refl _))
 have hne : b ≠ H.nx := by rintro rfl; rw [hh.fresh _ (Nat.le_refl _)] at hp; cases hp
 have has : ∀ (c : Nat) (oc : CO), c ≠ H.nx → (movB H b o').t.get c = some oc → c ≠ b ∧ H.t.get c = some oc := by
  intro c oc hc hgc
  simp only [movB, T.get_set] at hgc
  rw [if_neg hc] at hgc
  by_cases e : c = b
  ·rw [if_pos e] at hgc; cases hgc
  ·rw [if_neg e] at hgc; exact ⟨e, hgc⟩
 refine ⟨hl, ?_, ?_, ?_, ?_, ?_⟩
 ·intro b1 o1 hg1
  by_cases e : b1 = H.nx
  ·subst e
   simp only [movB, T.get_set, if_true] at hg1; cases hg1
   exact ⟨p', x, by simp [plus], by simp [upd, hr], ho⟩
  ·obtain ⟨g1, g2⟩ := has _ _ e hg1
   obtain ⟨q, y, k1, k2, k3⟩ := hh.obj b1 o1 g2
   have hrr : q.r ≠ p.r := hh.inj b1 b o1 o q p g2 hg g1 k1 hp
   exact ⟨q, y, hl _ _ k1, by simp [upd, hrr, k2], k3.mono hl⟩
 ·intro b1 b2 o1 o2 p1 p2 g1 g2 hn q1 q2
  by_cases e1 : b1 = H.nx
  ·subst e1
   have e2 : ¬ b2 = H.nx := fun e => hn e.symm
   obtain ⟨k1, k2⟩ := has _ _ e2 g2
   simp only [plus] at q1 q2
   rw [if_neg e2] at q2
   simp only [if_true] at q1; cases q1
   rw [hr]
   exact hh.inj b b2 o o2 p p2 hg k2 (fun e => k1 e.symm) hp q2
  ·obtain ⟨k1, k2⟩ := has _ _ e1 g1
   simp only [plus] at q1 q2
   rw [if_neg e1] at q1
   by_cases e2 : b2 = H.nx
   ·subst e2
    rw [if_pos rfl] at q2; cases q2
    rw [hr]
    exact hh.inj b1 b o1 o p1 p k2 hg k1 q1 hp
   ·obtain ⟨k3, k4⟩ := has _ _ e2 g2
    rw [if_neg e2] at q2
    exact hh.inj b1 b2 o1 o2 p1 p2 k2 k4 hn q1 q2
 ·intro b1 hb1
  simp only [movB] at hb1
  simp only [plus]
  rw [if_neg (by omega)]
  exact hh.fresh _ (by omega)
 ·intro b1 y hy
  have hne : b1 ≠ p.r := by rintro rfl; rw [h0r] at hy; cases hy
  simp [upd, hne, hh.keep b1 y hy]
 ·intro g hg
  obtain ⟨q, g1, g2⟩ := hh.glob g hg
  exact ⟨q, hl _ _ g1, g2⟩
def growOk (P : Program) (e n k : Nat) (old l : List CV) : Bool :=
 Nat.blt 0 (P.cellsOf e) && Nat.ble (2 * (n + k) * P.bytesOf e) 281474976710656 && (Nat.beq old.length (n * P.cellsOf e) && Nat.beq l.length (k * P.cellsOf e)) && (match zX P e with
  | some z => Nat.beq z.length (P.cellsOf e)
  | none => false)
theorem growOk_ok {e n k : Nat} {old l : List CV} (hg : growOk P e n k old l = true) : 0 < P.cellsOf e ∧ 2 * (n + k) * P.bytesOf e ≤ 281474976710656 ∧ old.length = n * P.cellsOf e ∧ l.length = k * P.cellsOf e ∧ (zc P e).length = P.cellsOf e := by
 unfold growOk at hg
 simp only [Bool.and_eq_true] at hg
 obtain ⟨⟨⟨g1, g2⟩, g3, g4⟩, g5⟩ := hg
 refine ⟨by simpa [Nat.blt_eq] using g1, Nat.le_of_ble_eq_true g2, Nat.eq_of_beq_eq_true g3, Nat.eq_of_beq_eq_true g4, ?_⟩
 split at g5
 ·rename_i z hz
  obtain ⟨z1, _, _⟩ := zX_ok (σ := fun _ => none) hz
  rw [z1.len]; exact Nat.eq_of_beq_eq_true g5
 ·cases g5
theorem grow_ok (hh : HR P G h0 σ H h) {e n k : Nat} {old l : List CV} {vo vl : List Value} (hg : growOk P e n k old l = true) (ho : VRs σ old vo) (hl : VRs σ l vl) {mk : Bool} {F : Sl → Hp → Prop}
  (hF : ∀ σ' s h', Le σ σ' → VR σ' (.slc H.nx 0 (n + k) none) s.v → HR P G h0 σ' (addB H (.row true true mk e (old ++ l))) h' → F s h') :
  ∀ c b, n + k ≤ c → h b = none → F ⟨some ⟨b, 0, none⟩, n + k, c⟩ (upd h b (.cells (⟨vo ++ vl⟩ ++ zeros P e (c - (n + k))) e)) := by
 intro c b hc hb
 obtain ⟨g1, g2, g3, g4, g5⟩ := growOk_ok hg
 have hzl : (zeros P e (c - (n + k))).toList.length = (c - (n + k)) * P.cellsOf e := by simp [zeros, Builtin.zeroCells, g5]
 have e1 : (⟨vo ++ vl⟩ ++ zeros P e (c - (n + k)) : Array Value) = ⟨(vo ++ vl) ++ (zeros P e (c - (n + k))).toList⟩ := by apply Array.ext'; simp
 have hol : (old ++ l).length = (n + k) * P.cellsOf e := by rw [List.length_append, g3, g4, Nat.add_mul]
 have hle : (n + k) * P.cellsOf e ≤ c * P.cellsOf e := Nat.mul_le_mul_right _ hc
 rw [e1]
 obtain ⟨hle', hn⟩ := hh.add (o := .row true true mk e (old ++ l)) (x := .cells ⟨(vo ++ vl) ++ (zeros P e (c - (n + k))).toList⟩ e) (p := ⟨b, 0, c * P.cellsOf e, P.cellsOf e⟩) hb rfl fun h0b => by
  unfold OR
  refine ⟨_, 0, 0, rfl, ?_, by rw [hol]; exact hle, (fun e => by cases e), (fun i x hi => ?_), Or.inr rfl, (fun _ => rfl), (fun _ => h0b), rfl⟩
  ·rw [List.length_append, List.length_append, hzl, ho.len, hl.len, g3, g4, Nat.sub_mul, Nat.zero_add, ← Nat.add_mul]
   show _ = c * P.cellsOf e
   omega
  ·obtain ⟨w, hw, hr⟩ := ((ho.app hl).mono' (plus_le (p := ⟨b, 0, c * P.cellsOf e, P.cellsOf e⟩) (hh.fresh _ (Nat.le_refl _)))).get hi
   refine ⟨w, ?_, hr⟩
   show ((vo ++ vl) ++ (zeros P e (c - (n + k))).toList)[0 + i]? = some w
   rw [Nat.zero_add, List.getElem?_append_left (List.getElem?_eq_some_iff.1 hw).1]
   exact hw
 refine hF _ _ _ hle' ?_ hn
 unfold VR Sl.v
 exact ⟨_, c, by simp [plus]; rfl, rfl, by simp, g1, hc⟩
def growX (P : Program) (H : CH) (e n k : Nat) (old l : List CV) : Option (CV × CH) :=
 bif growOk P e n k old l then some (.slc H.nx 0 (n + k) none, addB H (.row true true false e (old ++ l))) else none
def pastX (P : Program) (H : CH) (e b o n k : Nat) (l : List CV) : Option (CV × CH) :=
 match H.t.get b with
 | some (.row true opn mk e' cs) => bif Nat.beq e e' then
   (bif Nat.ble (o + (n + k) * P.cellsOf e) cs.length then (bif Nat.beq l.length (k * P.cellsOf e) then (match wrX H b (o + n * P.cellsOf e) l with
    | some H' => some (.slc b o (n + k) none, H')
    | none => none) else none)
   else bif Nat.ble (o + n * P.cellsOf e) cs.length && (growOk P e n k ((cs.drop o).take (n * P.cellsOf e)) l && plXs l) then
    some (.slc H.nx 0 (n + k) none, movB H b (.row true true mk e ((cs.drop o).take (n * P.cellsOf e) ++ l)))
   else none) else none
 | _ => none
def apX (P : Program) (H : CH) (e : TypeId) (s y : CV) : Option (CV × CH) :=
 match lnX y with
 | some k => match srX H (P.cellsOf e) k y with
  | some l => match s with
   | .snil => bif Nat.beq k 0 then some (.snil, H) else growX P H e 0 k [] l
   | .slc b o n (some c) =>
    bif Nat.ble (n + k) c then (bif Nat.beq k 0 && Nat.beq l.length 0 then some (.slc b o n (some c), H) else match wrX H b (o + n * P.cellsOf e) l with
     | some H' => some (.slc b o (n + k) (some c), H')
     | none => none)
    else match rdC H b o (n * P.cellsOf e) with
     | some old => growX P H e n k old l
     | none => none
   | .slc b o n none => bif Nat.beq k 0 then (bif Nat.beq l.length 0 then some (.slc b o n none, H) else none) else pastX P H e b o n k l
   | _ => none
  | none => none
 | none => none
theorem cap48 {e n k c : Nat} (hc : c < n + k) (hg : 2 * (n + k) * P.bytesOf e ≤ 281474976710656) : Builtin.nextslicecap (n + k) c * P.bytesOf e ≤ 2 ^ 48 :=
 Nat.le_trans (Nat.mul_le_mul_right _ (nextcap_le _ _ hc)) hg
theorem growX_ok (hh : HR P G h0 σ H h) {e n k c : Nat} {old l : List CV} {y : CV} {v : Value} {H' : CH} {sp : Option Addr} {vo vl : List Value} (hx : growX P H e n k old l = some (y, H')) (ho : VRs σ old vo) (hl : VRs σ l vl)
  (hso : ∀ F : List Value → Prop, F vo → srcK h (P.cellsOf e) n (.slice sp n c) F) (hsl : ∀ F : List Value → Prop, F vl → srcK h (P.cellsOf e) k v F) (hc : c < n + k) {F : Sl → Hp → Prop}
  (hF : ∀ σ' s h', Le σ σ' → VR σ' y s.v → HR P G h0 σ' H' h' → F s h') :
  Builtin.nextslicecap (n + k) c * P.bytesOf e ≤ 2 ^ 48 ∧ srcK h (P.cellsOf e) n (.slice sp n c) fun old => srcK h (P.cellsOf e) k v fun l =>
   ∀ c b, n + k ≤ c → h b = none → F ⟨some ⟨b, 0, none⟩, n + k, c⟩ (upd h b (.cells (⟨old ++ l⟩ ++ zeros P e (c - (n + k))) e)) := by
 unfold growX at hx
 obtain ⟨hb, hxx⟩ := condN hx
 cases hxx
 obtain ⟨g1, g2, g3, g4, g5⟩ := growOk_ok hb
 exact ⟨cap48 hc g2, hso _ (hsl _ (grow_ok hh hb ho hl hF))⟩
theorem pastX_ok (hh : HR P G h0 σ H h) {e b o n k : Nat} {l : List CV} {y : CV} {v : Value} {H' : CH} {vl : List Value} (hx : pastX P H e b o n k l = some (y, H')) (hl : VRs σ l vl) (hsl : ∀ F : List Value → Prop, F vl → srcK h (P.cellsOf e) k v F)
  (hln : ∀ F : Nat → Prop, F k → lnK v F) {p : Pl} {c : Nat} (hp : σ b = some p) (hc : o + c * p.sz = p.m) (hsz : 0 < p.sz) (hnc : n ≤ c) {F : Sl → Hp → Prop}
  (hF : ∀ σ' s h', Le σ σ' → VR σ' y s.v → HR P G h0 σ' H' h' → F s h') : apK P e ⟨some (p.at o), n, c⟩ v h F := by
 unfold pastX at hx
 split at hx
 ·rename_i opn mk e' cs hg
  obtain ⟨hps, hcl⟩ := row_sz hh hg hp
  cases hbe : Nat.beq e e' with
  | false => rw [hbe] at hx; cases hx
  | true =>
   rw [hbe] at hx
   have := Nat.eq_of_beq_eq_true hbe; subst this
   simp only [cond_true] at hx
   unfold apK
   refine hln _ ?_
   cases hb : Nat.ble (o + (n + k) * P.cellsOf e) cs.length with
   | true =>
    rw [hb] at hx
    simp only [cond_true] at hx
    have hb := Nat.le_of_ble_eq_true hb
    have hin : n + k ≤ c := by
     rw [hps] at hc
     have : (n + k) * P.cellsOf e ≤ c * P.cellsOf e := by omega
     exact Nat.le_of_mul_le_mul_right this (by omega)
    obtain ⟨hll, hx⟩ : Nat.beq l.length (k * P.cellsOf e) = true ∧ (match wrX H b (o + n * P.cellsOf e) l with | some H' => some (CV.slc b o (n + k) none, H') | none => none) = some (y, H') := by
     cases hq : Nat.beq l.length (k * P.cellsOf e) with
     | false => rw [hq] at hx; cases hx
     | true => rw [hq] at hx; exact ⟨rfl, hx⟩
    split at hx
    ·rename_i H1 hw
     cases hx
     refine ⟨fun _ => hsl _ ?_, fun h => absurd h (by simp; omega)⟩
     simp only []
     rw [at_add]
     refine wrX_ok hh hw hp hl fun h' hh' => ?_
     refine hF σ _ h' (Le.refl σ) ?_ hh'
     unfold VR Sl.v
     exact ⟨p, c, hp, rfl, hc, hsz, hin⟩
    ·cases hx
   | false =>
    rw [hb] at hx
    simp only [cond_false] at hx
    obtain ⟨hb2, hxx⟩ := condN hx
    cases hxx
    simp only [Bool.and_eq_true] at hb2
    obtain ⟨hb1, hgr, hpl⟩ := hb2
    have hb1 := Nat.le_of_ble_eq_true hb1
    obtain ⟨g1, g2, g3, g4, g5⟩ := growOk_ok hgr
    obtain ⟨q, x, k1, k2, k3⟩ := hh.obj b _ hg
    rw [hp] at k1; cases k1
    unfold OR at k3
    obtain ⟨vs, lo, hi, rfl, r1, r2, r3, r4, r5, r6, r7, r8⟩ := k3
    have hrd : rdC H b o (n * P.cellsOf e) = some ((cs.drop o).take (n * P.cellsOf e)) := by
     unfold rdC; rw [hg]; simp only [csOf]
     have : Nat.ble (o + n * P.cellsOf e) cs.length = true := Nat.ble_eq_true_of_le hb1
     rw [this]; rfl
    obtain ⟨vo, o1, o2, o3⟩ := rdC_rdN hh hrd hp
    refine ⟨fun hin => ?_, fun hout => ?_⟩
    ·-- within the room
     refine hsl _ ?_
     simp only [] at hin ⊢
     rw [at_add]
     have hvl := hl.len
     have hroom : (n + k) * P.cellsOf e ≤ c * P.cellsOf e := Nat.mul_le_mul_right _ hin
     rw [hps] at hc
     have hexp : (n + k) * P.cellsOf e = n * P.cellsOf e + k * P.cellsOf e := Nat.add_mul ..
     refine wrL_row (r := p.r) (off := p.d + (o + n * P.cellsOf e)) vl 0 h vs k2 (by omega) (plXs_ok hpl hl) (r5.imp id Nat.le_of_eq) ?_
     rw [Nat.add_zero]
     obtain ⟨hle', hn⟩ := hh.move (o' := .row true true mk e ((cs.drop o).take (n * P.cellsOf e) ++ l)) (p' := ⟨p.r, p.d + o, p.m - o, p.sz⟩) (x := .cells ⟨vs.take (p.d + (o + n * P.cellsOf e)) ++ (vl ++ vs.drop (p.d + (o + n * P.cellsOf e) + vl.length))⟩ e (lo, hi)) hg hp rfl (r7 rfl) (by
      unfold OR
      have hlen : (vs.take (p.d + (o + n * P.cellsOf e)) ++ (vl ++ vs.drop (p.d + (o + n * P.cellsOf e) + vl.length))).length = vs.length := by simp; omega
      refine ⟨_, lo, hi, rfl, by rw [hlen]; show _ = p.d + o + (p.m - o); omega, ?_, (fun e => by cases e), (fun i x hi => ?_), ?_, r6, (fun _ => r7 rfl), r8⟩
      ·show _ ≤ p.m - o
       rw [List.length_append, g3, g4]; omega
      ·show ∃ v, (vs.take (p.d + (o + n * P.cellsOf e)) ++ (vl ++ vs.drop (p.d + (o + n * P.cellsOf e) + vl.length)))[p.d + o + i]? = some v ∧ _
       have hvt : (vs.take (p.d + (o + n * P.cellsOf e))).length = p.d + (o + n * P.cellsOf e) := by simp; omega
       by_cases gi : i < n * P.cellsOf e
       ·rw [List.getElem?_append_left (by omega)] at hi
        rw [List.getElem?_append_left (by omega), List.getElem?_take, if_pos (by omega)]
        rw [List.getElem?_take, if_pos gi, List.getElem?_drop] at hi
        obtain ⟨w, hw, hr⟩ := r4 _ _ hi
        exact ⟨w, by rw [← hw]; congr 1; omega, hr.mono (plus_le (hh.fresh _ (Nat.le_refl _))) _ _⟩
       ·rw [List.getElem?_append_right (by omega)] at hi
        have hil := (List.getElem?_eq_some_iff.1 hi).1
        rw [List.getElem?_append_right (by omega), List.getElem?_append_left (by omega)]
        obtain ⟨w, hw, hr⟩ := (hl.mono' (plus_le (p := ⟨p.r, p.d + o, p.m - o, p.sz⟩) (hh.fresh _ (Nat.le_refl _)))).get hi
        exact ⟨w, by rw [← hw]; congr 1; omega, hr⟩
      ·rw [hlen]; exact r5)
     refine hF _ _ _ hle' ?_ hn
     unfold VR Sl.v
     refine ⟨⟨p.r, p.d + o, p.m - o, p.sz⟩, c, by simp [plus], by simp [Pl.at], ?_, hsz, hin⟩
     show 0 + c * p.sz = p.m - o
     rw [hps]; omega
    ·-- beyond it
     refine ⟨cap48 hout g2, ?_⟩
     have hold : ∀ F : List Value → Prop, F vo → srcK h (P.cellsOf e) n (.slice (some (p.at o)) n c) F := fun F hF => by unfold srcK; simp only []; rw [o3]; exact hF
     exact hold _ (hsl _ (grow_ok (hh.del b) hgr o1 hl hF))
 ·cases hx
theorem apX_ok (hh : HR P G h0 σ H h) {e : TypeId} {s y z : CV} {H' : CH} {p : Option Addr} {n c : Nat} {vy : Value} (hx : apX P H e s y = some (z, H')) (hs : VR σ s (.slice p n c)) (hy : VR σ y vy) {F : Sl → Hp → Prop}
  (hF : ∀ σ' s h', Le σ σ' → VR σ' z s.v → HR P G h0 σ' H' h' → F s h') : apK P e ⟨p, n, c⟩ vy h F := by
 unfold apX at hx
 split at hx
 ·rename_i k hk
  split at hx
  ·rename_i l hl
   obtain ⟨vl, l1, l2⟩ := srX_ok hh hl hy
   split at hx
   ·-- nil
    unfold VR at hs; cases hs
    unfold apK
    refine lnX_ok hk hy ?_
    cases hb : Nat.beq k 0 with
    | true =>
     rw [hb] at hx; cases hx
     have := Nat.eq_of_beq_eq_true hb; subst this
     refine ⟨fun _ => l2 _ ?_, fun h => absurd h (by simp)⟩
     exact hF σ _ h (Le.refl σ) (by unfold VR; rfl) hh
    | false =>
     rw [hb] at hx
     have hk0 := Nat.ne_of_beq_eq_false hb
     refine ⟨fun h => absurd h (by simp; omega), fun hc => ?_⟩
     exact growX_ok (sp := none) hh hx (vo := []) (by unfold VRs; rfl) l1 (fun F hF => hF) l2 hc hF
   ·rename_i b o n' c'
    unfold VR at hs; obtain ⟨p', hp, hs⟩ := hs; cases hs
    unfold apK
    refine lnX_ok hk hy ?_
    cases hb : Nat.ble (n + k) c with
    | true =>
     rw [hb] at hx
     have hb := Nat.le_of_ble_eq_true hb
     simp only [cond_true] at hx
     refine ⟨fun _ => l2 _ ?_, fun h => absurd h (by simp; omega)⟩
     simp only []
     cases hz : Nat.beq k 0 && Nat.beq l.length 0 with
     | true =>
      rw [hz] at hx; cases hx
      simp only [Bool.and_eq_true] at hz
      have := Nat.eq_of_beq_eq_true hz.1; subst this
      have h0 := l1.len
      rw [Nat.eq_of_beq_eq_true hz.2] at h0
      have := List.length_eq_zero_iff.1 h0; subst this
      unfold wrL
      exact hF σ _ h (Le.refl σ) (by unfold VR Sl.v; exact ⟨p', hp, rfl⟩) hh
     | false =>
      rw [hz] at hx
      simp only [cond_false] at hx
      split at hx
      ·rename_i H1 hw
       cases hx
       rw [at_add]
       refine wrX_ok hh hw hp l1 fun h' hh' => ?_
       exact hF σ _ h' (Le.refl σ) (by unfold VR Sl.v; exact ⟨p', hp, rfl⟩) hh'
      ·cases hx
    | false =>
     rw [hb] at hx
     simp only [cond_false] at hx
     have hnc : ¬ n + k ≤ c := by
      intro hle
      have := Nat.ble_eq_true_of_le hle
      rw [this] at hb; cases hb
     split at hx
     ·rename_i old ho
      obtain ⟨vo, o1, o2, o3⟩ := rdC_rdN hh ho hp
      refine ⟨fun h => absurd h (by simp; omega), fun hc => ?_⟩
      exact growX_ok hh hx o1 l1 (fun F hF => by unfold srcK; simp only []; rw [o3]; exact hF) l2 hc hF
     ·cases hx
   ·rename_i b o n'
    unfold VR at hs; obtain ⟨p', c', hp, hs, h1, h2, h3⟩ := hs; cases hs
    cases hb : Nat.beq k 0 with
    | true =>
     rw [hb] at hx
     simp only [cond_true] at hx
     have := Nat.eq_of_beq_eq_true hb; subst this
     obtain ⟨hz, hxx⟩ := condN hx
     cases hxx
     unfold apK
     refine lnX_ok hk hy ?_
     refine ⟨fun _ => l2 _ ?_, fun h => absurd h (by simp; omega)⟩
     have h0 := l1.len
     rw [Nat.eq_of_beq_eq_true hz] at h0
     have := List.length_eq_zero_iff.1 h0; subst this
     simp only []
     unfold wrL
     exact hF σ _ h (Le.refl σ) (by unfold VR Sl.v; exact ⟨p', c, hp, rfl, h1, h2, h3⟩) hh
    | false =>
     rw [hb] at hx
     exact pastX_ok hh hx l1 l2 (fun F hF => lnX_ok hk hy hF) hp h1 h2 h3 hF
   ·cases hx
  ·cases hx
 ·cases hx
end
end Go.Ix

/-
 copy, maps that are written, a string that is walked; all effects in one.
-/
set_option linter.unusedSimpArgs false
set_option linter.unusedVariables false
namespace Go.Ix
open Go Go.Hw
section
variable {P : Program} {E : Nat → Bool} {G : Nat} {h0 : Hp} {σ σ' : Sig} {H : CH} {h : Hp} {env : CE} {ρ : Env}
def cpX (P : Program) (H : CH) (e : TypeId) (s y : CV) : Option (CV × CH) :=
 match lnX y with
 | some m => match s with
  | .snil => match srX H (P.cellsOf e) (Nat.min m 0) y with
   | some _ => some (.int .i64 0, H)
   | none => none
  | .slc b o n _ => match srX H (P.cellsOf e) (Nat.min m n) y with
   | some l => match wrX H b o l with
    | some H' => some (.int .i64 (Nat.min m n : Nat), H')
    | none => none
   | none => none
  | _ => none
 | none => none
theorem cpX_ok (hh : HR P G h0 σ H h) {e : TypeId} {s y z : CV} {H' : CH} {p : Option Addr} {n c : Nat} {vy : Value} (hx : cpX P H e s y = some (z, H')) (hs : VR σ s (.slice p n c)) (hy : VR σ y vy) {F : Nat → Hp → Prop}
  (hF : ∀ r h', VR σ z (.int .i64 (r : Nat)) → HR P G h0 σ H' h' → F r h') : cpK P e ⟨p, n, c⟩ vy h F := by
 unfold cpX at hx
 split at hx
 ·rename_i m hm
  unfold cpK
  refine lnX_ok hm hy ?_
  split at hx
  ·split at hx
   ·rename_i l hl
    cases hx
    unfold VR at hs; cases hs
    obtain ⟨vl, l1, l2⟩ := srX_ok hh hl hy
    refine l2 _ ?_
    refine hF _ h ?_ hh
    unfold VR
    have : Nat.min m 0 = 0 := Nat.min_eq_right (Nat.zero_le _)
    simp only [this]; rfl
   ·cases hx
  ·rename_i b o n' c'
   split at hx
   ·rename_i l hl
    split at hx
    ·rename_i H1 hw
     cases hx
     obtain ⟨p', c'', hp, hs⟩ := slc_ok hs
     cases hs
     obtain ⟨vl, l1, l2⟩ := srX_ok hh hl hy
     refine l2 _ ?_
     simp only []
     exact wrX_ok hh hw hp l1 fun h' hh' => hF _ h' (by unfold VR; rfl) hh'
    ·cases hx
   ·cases hx
  ·cases hx
 ·cases hx
def setE (k x : CV) : List (CV × CV × Nat) → Nat → List (CV × CV × Nat)
 | [], _ => []
 | (_, _, b) :: l, 0 => (k, x, b) :: l
 | e :: l, i + 1 => e :: setE k x l i
def muX (P : Program) (H : CH) (t : TypeId) (m k x : CV) : Option CH :=
 match P.underlying t with
 | some (.map kt et) => match P.underlying kt with
  | some kd => bif plainKey kd then (match m with
   | .map b => match H.t.get b with
    | some (.mp es c) => match findX kd k es 0 with
     | some none => some ⟨H.t.set b (some (.mp (es ++ [(k, x, c)]) (c + 1))), H.nx⟩
     | some (some (i, _)) => some ⟨H.t.set b (some (.mp (setE k x es i) c)), H.nx⟩
     | none => none
    | _ => none
   | _ => none) else none
  | none => none
 | _ => none
theorem entR_app {k x : CV} {c : Nat} {vk vx : Value} (hk : VR σ k vk) (hx : VR σ x vx) : ∀ {es : List (CV × CV × Nat)} {l : List MapEntry}, entR σ es l → entR σ (es ++ [(k, x, c)]) (l ++ [{ key := vk, val := vx, born := c }]) := by
 intro es
 induction es with
 | nil => intro l h; unfold entR at h; subst h; exact ⟨_, [], rfl, hk, hx, rfl, by unfold entR; rfl⟩
 | cons e es ih =>
  intro l h
  obtain ⟨a, b, d⟩ := e
  unfold entR at h; obtain ⟨e, r, rfl, h1, h2, h3, h4⟩ := h
  exact ⟨e, _, rfl, h1, h2, h3, ih h4⟩
theorem entR_set {k x : CV} {vk vx : Value} (hk : VR σ k vk) (hx : VR σ x vx) : ∀ {es : List (CV × CV × Nat)} {l : List MapEntry} {i : Nat}, entR σ es l → entR σ (setE k x es i) (l.modify i fun e => { e with key := vk, val := vx }) := by
 intro es
 induction es with
 | nil => intro l i h; unfold entR at h; subst h; cases i <;> (unfold setE entR; simp)
 | cons e es ih =>
  intro l i h
  obtain ⟨a, b, d⟩ := e
  unfold entR at h; obtain ⟨e, r, rfl, h1, h2, h3, h4⟩ := h
  cases i with
  | zero => simp only [setE, List.modify_zero_cons]; exact ⟨_, r, rfl, hk, hx, h3, h4⟩
  | succ i => simp only [setE, List.modify_succ_cons]; exact ⟨e, _, rfl, h1, h2, h3, ih h4⟩
theorem muX_ok (hh : HR P G h0 σ H h) {t : TypeId} {m k x : CV} {H' : CH} {vm vk vx : Value} (hu : muX P H t m k x = some H') (hm : VR σ m vm) (hk : VR σ k vk) (hx : VR σ x vx) {F : Hp → Prop} (hF : ∀ h', HR P G h0 σ H' h' → F h') :
  muK P t vm vk vx h F := by
 unfold muX at hu
 unfold muK
 split at hu
 ·rename_i kt et ht
  rw [ht]; simp only []
  split at hu
  ·rename_i kd hkd
   rw [hkd]; simp only []
   cases hp : plainKey kd with
   | false => rw [hp] at hu; cases hu
   | true =>
    rw [hp] at hu
    simp only [cond_true] at hu ⊢
    split at hu
    ·rename_i b
     split at hu
     ·rename_i es c hg
      unfold VR at hm; obtain ⟨p, hpb, rfl⟩ := hm
      obtain ⟨q, y, k1, k2, k3⟩ := hh.obj b _ hg
      rw [hpb] at k1; cases k1
      unfold OR at k3
      obtain ⟨l, rfl, he, h0r⟩ := k3
      unfold xMapO; simp only []; rw [k2]; simp only []
      split at hu
      ·rename_i hf
       cases hu
       obtain ⟨r, g1, g2⟩ := findX_ok hk hf he
       unfold keyAt
       simp only []
       rw [g1]
       cases r with
       | some r => obtain ⟨j, u⟩ := r; exact g2.elim
       | none =>
        refine hF _ (hh.chg hg hpb h0r ?_)
        unfold mset OR
        exact ⟨_, by simp only []; rw [List.push_toArray], entR_app hk hx he, h0r⟩
      ·rename_i i w hf
       cases hu
       obtain ⟨r, g1, g2⟩ := findX_ok hk hf he
       unfold keyAt
       simp only []
       rw [g1]
       cases r with
       | none => exact g2.elim
       | some r =>
        obtain ⟨j, u⟩ := r
        obtain ⟨rfl, _⟩ := g2
        refine hF _ (hh.chg hg hpb h0r ?_)
        unfold mset OR
        refine ⟨(l.modify i fun e => { e with key := vk, val := vx }), ?_, entR_set hk hx he, h0r⟩
        simp only [Obj.map.injEq, and_true]
        apply Array.ext'; simp
      ·cases hu
     ·cases hu
    ·cases hu
  ·cases hu
 ·cases hu
def delE : List (CV × CV × Nat) → Nat → List (CV × CV × Nat)
 | [], _ => []
 | _ :: l, 0 => l
 | e :: l, i + 1 => e :: delE l i
theorem entR_del : ∀ {es : List (CV × CV × Nat)} {l : List MapEntry} {i : Nat}, entR σ es l → entR σ (delE es i) (l.eraseIdx i) := by
 intro es
 induction es with
 | nil => intro l i h; unfold entR at h; subst h; cases i <;> (unfold delE entR; simp)
 | cons e es ih =>
  intro l i h
  obtain ⟨a, b, d⟩ := e
  unfold entR at h; obtain ⟨e, r, rfl, h1, h2, h3, h4⟩ := h
  cases i with
  | zero => simp only [delE, List.eraseIdx_cons_zero]; exact h4
  | succ i => simp only [delE, List.eraseIdx_cons_succ]; exact ⟨e, _, rfl, h1, h2, h3, ih h4⟩
def mdX (P : Program) (H : CH) (t : TypeId) (m k : CV) : Option CH :=
 match P.underlying t with
 | some (.map kt et) => match P.underlying kt with
  | some kd => bif plainKey kd then (match m with
   | .mnil => some H
   | .map b => match H.t.get b with
    | some (.mp es c) => match findX kd k es 0 with
     | some none => some ⟨H.t.set b (some (.mp es c)), H.nx⟩
     | some (some (i, _)) => some ⟨H.t.set b (some (.mp (delE es i) c)), H.nx⟩
     | none => none
    | _ => none
   | _ => none) else none
  | none => none
 | _ => none
theorem mdX_ok (hh : HR P G h0 σ H h) {t : TypeId} {m k : CV} {H' : CH} {vm vk : Value} (hu : mdX P H t m k = some H') (hm : VR σ m vm) (hk : VR σ k vk) {F : Hp → Prop} (hF : ∀ h', HR P G h0 σ H' h' → F h') :
  mdK P t vm vk h F := by
 unfold mdX at hu
 unfold mdK
 split at hu
 ·rename_i kt et ht
  rw [ht]; simp only []
  split at hu
  ·rename_i kd hkd
   rw [hkd]; simp only []
   cases hp : plainKey kd with
   | false => rw [hp] at hu; cases hu
   | true =>
    rw [hp] at hu
    simp only [cond_true] at hu ⊢
    split at hu
    ·cases hu; unfold VR at hm; subst hm; exact hF _ hh
    ·rename_i b
     split at hu
     ·rename_i es c hg
      unfold VR at hm; obtain ⟨p, hpb, rfl⟩ := hm
      obtain ⟨q, y, k1, k2, k3⟩ := hh.obj b _ hg
      rw [hpb] at k1; cases k1
      unfold OR at k3
      obtain ⟨l, rfl, he, h0r⟩ := k3
      simp only []
      unfold xMapO; simp only []; rw [k2]; simp only []
      split at hu
      ·rename_i hf
       cases hu
       obtain ⟨r, g1, g2⟩ := findX_ok hk hf he
       unfold keyAt
       simp only []
       rw [g1]
       cases r with
       | some r => obtain ⟨j, u⟩ := r; exact g2.elim
       | none =>
        refine hF _ (hh.chg hg hpb h0r ?_)
        unfold mdel OR
        exact ⟨_, rfl, he, h0r⟩
      ·rename_i i w hf
       cases hu
       obtain ⟨r, g1, g2⟩ := findX_ok hk hf he
       unfold keyAt
       simp only []
       rw [g1]
       cases r with
       | none => exact g2.elim
       | some r =>
        obtain ⟨j, u⟩ := r
        obtain ⟨rfl, _⟩ := g2
        refine hF _ (hh.chg hg hpb h0r ?_)
        unfold mdel OR
        refine ⟨l.eraseIdx i, ?_, entR_del he, h0r⟩
        simp only [Obj.map.injEq, and_true]
        apply Array.ext'
        simp only [Array.eraseIdxIfInBounds]
        split
        ·simp
        ·rename_i hn; simp at hn; simp [List.eraseIdx_of_length_le hn]
      ·cases hu
     ·cases hu
    ·cases hu
  ·cases hu
 ·cases hu
def mmpX (H : CH) : CV × CH := (.map H.nx, addB H (.mp [] 0))
theorem newObj_swp {o : Obj} {K : Nat → Hp → Prop} : swp P (newObj o) h K = ∀ b, h b = none → K b (upd h b o) := rfl
theorem mmpX_ok (hh : HR P G h0 σ H h) {t : TypeId} {K : Value → Hp → Prop} (hK : ∀ σ' v h', Le σ σ' → VR σ' (mmpX H).1 v → HR P G h0 σ' (mmpX H).2 h' → K v h') : swp P (Instr.makeMap t none) h K := by
 unfold Instr.makeMap
 simp only [swp_bind']
 rw [newObj_swp]
 intro b hb
 obtain ⟨hl, hn⟩ := hh.add (o := .mp [] 0) (x := .map #[] 0) (p := ⟨b, 0, 0, 0⟩) hb rfl fun h0b => by unfold OR; exact ⟨[], rfl, by unfold entR; rfl, h0b⟩
 exact hK _ _ _ hl (by unfold mmpX VR; exact ⟨_, by simp [plus]; rfl, rfl⟩) hn
def rgX (P : Program) (H : CH) (t : TypeId) (x : CV) : Option (CV × CH) :=
 match P.underlying t, x with
 | some .string, .str l => some (.ptr H.nx 0, addB H (.sit l 0))
 | some (.map _ _), .map m => match H.t.get m with
  | some (.mp es c) => some (.ptr H.nx 0, addB H (.mit (some m) c [] c))
  | _ => none
 | _, _ => none
theorem rgX_ok (hh : HR P G h0 σ H h) {t : TypeId} {x y : CV} {v : Value} {H' : CH} (hx : rgX P H t x = some (y, H')) (hv : VR σ x v) {K : Value → Hp → Prop} (hK : ∀ σ' v h', Le σ σ' → VR σ' y v → HR P G h0 σ' H' h' → K v h') :
  rgK P t v h fun p h' => K (.pointer p) h' := by
 unfold rgX at hx
 split at hx
 ·rename_i l hu
  cases hx
  unfold VR at hv; obtain ⟨s, rfl, rfl⟩ := hv
  unfold rgK
  rw [hu]
  simp only []
  intro b hb
  obtain ⟨hl, hn⟩ := hh.add (o := .sit (bl s) 0) (x := .stringIter s 0) (p := ⟨b, 0, 0, 0⟩) hb rfl fun h0b => by unfold OR; exact ⟨s, rfl, rfl, h0b, rfl⟩
  exact hK _ _ _ hl (by unfold VR; exact ⟨_, by simp [plus]; rfl, rfl⟩) hn
 ·rename_i m hu
  split at hx
  ·rename_i es c hg
   cases hx
   unfold VR at hv; obtain ⟨p, hp, rfl⟩ := hv
   obtain ⟨l, g1, g2⟩ := mp_at hh hg hp
   unfold rgK
   rw [hu]
   simp only []
   unfold rgM
   simp only [g1]
   intro b hb
   obtain ⟨hl, hn⟩ := hh.add (o := .mit (some m) c [] c) (x := .mapIter (some p.r) c #[] c) (p := ⟨b, 0, 0, 0⟩) hb rfl fun h0b => by
    unfold OR; exact ⟨_, rfl, ⟨p, plus_le (hh.fresh _ (Nat.le_refl _)) _ _ hp, rfl⟩, h0b, rfl⟩
   exact hK _ _ _ hl (by unfold VR; exact ⟨_, by simp [plus]; rfl, rfl⟩) hn
  ·cases hx
 ·cases hx
def nxX (H : CH) (x : CV) : Option (CV × CH) :=
 match x with
 | .ptr b 0 => match H.t.get b with
  | some (.sit l n) => match l[n]? with
   | some c => bif Nat.blt c 128 then some (.tup [.bool true, .int .i64 (n : Nat), .int .i32 (c : Nat)], ⟨H.t.set b (some (.sit l (n + 1))), H.nx⟩) else none
   | none => some (.tup [.bool false], H)
  | _ => none
 | _ => none
theorem nxX_ok (hh : HR P G h0 σ H h) {x y : CV} {v : Value} {H' : CH} (hx : nxX H x = some (y, H')) (hv : VR σ x v) {K : Value → Hp → Prop} (hK : ∀ v h', VR σ y v → HR P G h0 σ H' h' → K v h') : ∃ p, v = .pointer p ∧ nxS h p (fun i c h' => K (.tuple ⟨[.bool true, goInt i, .int .i32 c]⟩) h') fun h' => K (.tuple ⟨[.bool false]⟩) h' := by
 unfold nxX at hx
 split at hx
 ·rename_i b
  split at hx
  ·rename_i l n hg
   unfold VR at hv; obtain ⟨p, hp, rfl⟩ := hv
   obtain ⟨q, z, k1, k2, k3⟩ := hh.obj b _ hg
   rw [hp] at k1; cases k1
   unfold OR at k3
   obtain ⟨s, rfl, rfl, h0r, hd⟩ := k3
   have hat : p.at 0 = ⟨p.r, 0, none⟩ := by simp [Pl.at, hd]
   rw [hat]
   refine ⟨_, rfl, ?_⟩
   unfold nxS
   simp only [k2]
   split at hx
   ·rename_i c hc
    obtain ⟨hb, hxx⟩ := condN hx
    cases hxx
    have hb : c < 128 := by simpa [Nat.blt_eq] using hb
    obtain ⟨hlt, hgc⟩ := bl_get hc
    rw [decide_eq_true hlt, cond_true]
    have hdec : Utf8.decode s n = (c, 1) := by
     unfold Utf8.decode
     have : (s.get! (n + 0)).toNat = c := by
      rw [Nat.add_zero, ← hgc]
      rfl
     simp only [this]
     rw [if_pos hb]
    rw [hdec]
    dsimp only
    refine hK _ _ ?_ (hh.chg hg hp h0r (by unfold OR; exact ⟨s, rfl, rfl, h0r, hd⟩))
    unfold VR
    refine ⟨_, rfl, ?_⟩
    unfold VRs; refine ⟨_, _, rfl, by unfold VR; rfl, ?_⟩
    unfold VRs; refine ⟨_, _, rfl, by unfold VR; rfl, ?_⟩
    unfold VRs; refine ⟨_, _, rfl, by unfold VR; rfl, ?_⟩
    unfold VRs; rfl
   ·rename_i hc
    cases hx
    have hge : ¬ n < s.size := by
     intro hlt
     rw [List.getElem?_eq_none_iff, bl_len] at hc; omega
    rw [decide_eq_false hge, cond_false]
    refine hK _ _ ?_ hh
    unfold VR
    refine ⟨_, rfl, ?_⟩
    unfold VRs; refine ⟨_, _, rfl, by unfold VR; rfl, ?_⟩
    unfold VRs; rfl
  ·cases hx
 ·cases hx
end
end Go.Ix

/-
 All effects in one.
-/
set_option linter.unusedSimpArgs false
set_option linter.unusedVariables false
namespace Go.Ix
open Go Go.Hw
section
variable {P : Program} {E : Nat → Bool} {G : Nat} {h0 : Hp} {σ σ' : Sig} {H : CH} {h : Hp} {env : CE} {ρ : Env}
def bltX (P : Program) (H : CH) (b : Builtin) (ts : List TypeId) (l : List CV) : Option (CV × CH) :=
 match b, ts, l with
 | .append, t :: u :: _, [s, y] => match P.underlying t with
  | some (.slice e) => bif bytes0 P e && notIntT P u then apX P H e s y else none
  | _ => none
 | .copy, t :: _, [s, y] => match P.underlying t with
  | some (.slice e) => bif (P.info? e).isSome then cpX P H e s y else none
  | _ => none
 | .delete, t :: _, [m, k] => match mdX P H t m k with
  | some H' => some (.tup [], H')
  | none => none
 | .clear, t :: _, [m] => match P.underlying t with
  | some (.map _ _) => match m with
   | .mnil => some (.tup [], H)
   | .map b => match H.t.get b with
    | some (.mp _ c) => some (.tup [], ⟨H.t.set b (some (.mp [] c)), H.nx⟩)
    | _ => none
   | _ => none
  | _ => none
 | _, _, _ => none
theorem isSl {s : CV} {v : Value} {P : Program} {H : CH} {e : TypeId} {y z : CV} {H' : CH} (hx : apX P H e s y = some (z, H') ∨ cpX P H e s y = some (z, H')) (hs : VR σ s v) : ∃ p n c, v = .slice p n c := by
 cases s
 case snil => unfold VR at hs; exact ⟨_, _, _, hs⟩
 case slc => obtain ⟨p, c, _, rfl⟩ := slc_ok hs; exact ⟨_, _, _, rfl⟩
 all_goals
  exfalso
  rcases hx with hx | hx
  ·unfold apX at hx
   split at hx
   ·split at hx <;> cases hx
   ·cases hx
  ·unfold cpX at hx
   split at hx <;> cases hx
theorem bltX_known {b : Builtin} {ts : List TypeId} {l : List CV} {y : CV} {H' : CH} (hx : bltX P H b ts l = some (y, H')) : knownB b = true := by
 unfold bltX at hx
 split at hx <;> first | rfl | cases hx
theorem bltX_ok (hh : HR P G h0 σ H h) {b : Builtin} {ts : List TypeId} {l : List CV} {vs : List Value} {y : CV} {H' : CH} (hx : bltX P H b ts l = some (y, H')) (hv : VRs σ l vs) {K : Value → Hp → Prop}
  (hK : ∀ σ' v h', Le σ σ' → VR σ' y v → HR P G h0 σ' H' h' → K v h') : bltK P b ts vs h K := by
 unfold bltX at hx
 split at hx
 ·split at hx
  ·rename_i e hu
   cases hb : bytes0 P e && notIntT P _ with
   | false => rw [hb] at hx; cases hx
   | true =>
    rw [hb] at hx
    unfold VRs at hv; obtain ⟨v, r, rfl, h1, h2⟩ := hv
    unfold VRs at h2; obtain ⟨w, r, rfl, h2, h3⟩ := h2
    unfold VRs at h3; subst h3
    unfold bltK; simp only []
    unfold elT; rw [hu]; simp only []; rw [hb]
    obtain ⟨p, n, c, rfl⟩ := isSl (.inl hx) h1
    exact apX_ok hh hx h1 h2 fun σ' s h' hl hr hh' => hK σ' _ h' hl hr hh'
  ·cases hx
 ·split at hx
  ·rename_i e hu
   cases hb : (P.info? e).isSome with
   | false => rw [hb] at hx; cases hx
   | true =>
    rw [hb] at hx
    unfold VRs at hv; obtain ⟨v, r, rfl, h1, h2⟩ := hv
    unfold VRs at h2; obtain ⟨w, r, rfl, h2, h3⟩ := h2
    unfold VRs at h3; subst h3
    unfold bltK; simp only []
    unfold elT; rw [hu]; simp only []; rw [hb]
    obtain ⟨p, n, c, rfl⟩ := isSl (.inr hx) h1
    exact cpX_ok hh hx h1 h2 fun r h' hr hh' => hK σ _ h' (Le.refl σ) hr hh'
  ·cases hx
 ·split at hx
  ·rename_i H1 hm
   cases hx
   unfold VRs at hv; obtain ⟨v, r, rfl, h1, h2⟩ := hv
   unfold VRs at h2; obtain ⟨w, r, rfl, h2, h3⟩ := h2
   unfold VRs at h3; subst h3
   unfold bltK; simp only []
   exact mdX_ok hh hm h1 h2 fun h' hh' => hK σ _ h' (Le.refl σ) VR_undef hh'
  ·cases hx
 ·split at hx
  ·rename_i hu
   unfold VRs at hv; obtain ⟨v, r, rfl, h1, h2⟩ := hv
   unfold VRs at h2; subst h2
   unfold bltK; simp only []; rw [hu]; simp only []
   split at hx
   ·cases hx; unfold VR at h1; subst h1; exact hK σ _ h (Le.refl σ) VR_undef hh
   ·rename_i b
    split at hx
    ·rename_i es c hg
     cases hx
     unfold VR at h1; obtain ⟨p, hp, rfl⟩ := h1
     obtain ⟨q, z, k1, k2, k3⟩ := hh.obj b _ hg
     rw [hp] at k1; cases k1
     unfold OR at k3
     obtain ⟨l, rfl, he, h0r⟩ := k3
     simp only []; unfold clM; simp only [k2]
     exact hK σ _ _ (Le.refl σ) VR_undef (hh.chg hg hp h0r (by unfold OR; exact ⟨[], rfl, by unfold entR; rfl, h0r⟩))
    ·cases hx
   ·cases hx
  ·cases hx
 ·cases hx
def eX (P : Program) (G : Nat) (H : CH) (env : CE) (o : Oper) : Option (CV × CH) :=
 match o.op with
 | .store t a x => match evC G env a, evC G env x with
  | some a, some x => match stX P H t a x with
   | some H' => some (.tup [], H')
   | none => none
  | _, _ => none
 | .alloc e => allocX P H e
 | .box e x => match evC G env x with
  | some x => some (boxX H e x)
  | none => none
 | .buildSlice t n ps => match evPs G env ps.toList with
  | some ps => bsX P H t n ps
  | none => none
 | .makeSlice t l c => match evC G env l, evC G env c with
  | some l, some c => mkX P H t l c
  | _, _ => none
 | .convert s d x => match evC G env x with
  | some x => s2bX P H s d x
  | none => none
 | .mapUpdate t m k x => match evC G env m, evC G env k, evC G env x with
  | some m, some k, some x => match muX P H t m k x with
   | some H' => some (.tup [], H')
   | none => none
  | _, _, _ => none
 | .insert t m k x => match evC G env m, evC G env k, evC G env x with
  | some m, some k, some x => match muX P H t m k x with
   | some H' => some (.tup [], H')
   | none => none
  | _, _, _ => none
 | .makeMap t none => some (mmpX H)
 | .range t x => match evC G env x with
  | some x => rgX P H t x
  | none => none
 | .next x true => match evC G env x with
  | some x => nxX H x
  | none => none
 | .call ⟨.builtin b, args, ts⟩ => match evCs G env args.toList with
  | some l => bltX P H b ts.toList l
  | none => none
 | _ => none
theorem some_unit {o : Oper} {K : Value → Hp → Prop} {s : Sem Unit} {l : List Operand} (hl : o.op.operands.toList = l) (hs : isSel o.op = false) (ho : okAll ρ l = true)
  (he : execOp (evD ρ) o = do s; pure Next.skip) (hk : swp P s h fun _ h' => K undef h') : someAny ρ P o h K := by
 unfold someAny
 rw [hl, ho, hs]
 show opS P o (evD ρ) h K
 unfold opS
 rw [he]
 exact uswp hk
theorem eX_ok (he : ER σ env ρ) (hh : HR P G h0 σ H h) {o : Oper} {y : CV} {H' : CH} (hx : eX P G H env o = some (y, H')) {K : Value → Hp → Prop} (hK : ∀ σ' v h', Le σ σ' → VR σ' y v → HR P G h0 σ' H' h' → K v h') : opK P E o ρ h K := by
 obtain ⟨dst, op, type, pos, after, guard⟩ := o
 unfold eX at hx
 cases op <;> simp only [] at hx <;> first | (cases hx; done) | skip
 case store t a x =>
  split at hx
  ·rename_i ca cx ha hxx
   split at hx
   ·rename_i H1 hs
    cases hx
    obtain ⟨va, a1, a2⟩ := evC_ok ha he hh
    obtain ⟨vx, x1, x2⟩ := evC_ok hxx he hh
    unfold opK
    refine mv_ok a1 (mv_ok x1 ?_)
    exact stX_ok (F := fun h' => K undef h') hh hs a2 x2 fun h' hh' => hK σ _ h' (Le.refl σ) VR_undef hh'
   ·cases hx
  ·cases hx
 case alloc e =>
  unfold opK
  exact some_any (l := []) rfl rfl rfl rfl (alloc_ok hh hx hK)
 case box e x =>
  split at hx
  ·rename_i c hc
   cases hx
   obtain ⟨v, h1, h2⟩ := evC_ok hc he hh
   unfold opK
   exact some_any rfl rfl (ok1 h1) rfl (by rw [(some1 h1).2]; exact box_ok hh h2 hK)
  ·cases hx
 case buildSlice t n ps =>
  split at hx
  ·rename_i c hc
   obtain ⟨h1, h2⟩ := evPs_ok he hh hc
   unfold opK
   have e0 : execOp (evD ρ) ⟨dst, .buildSlice t n ps, type, pos, after, guard⟩ = (Instr.buildSlice t n (ps.map fun (p : Nat × Operand) => (p.1, evD ρ p.2)) >>= fun x => pure (Next.value x)) :=
    congrArg (fun q => Instr.buildSlice t n q >>= fun x => pure (Next.value x)) rfl
   refine some_any (l := ps.toList.map (·.2)) (s := Instr.buildSlice t n (ps.map fun (p : Nat × Operand) => (p.1, evD ρ p.2))) (by simp [Op.operands]) rfl h2 e0 ?_
   have e : (ps.map fun (p : Nat × Operand) => (p.1, evD ρ p.2)) = ⟨ps.toList.map fun (p : Nat × Operand) => (p.1, evD ρ p.2)⟩ := by apply Array.ext'; simp
   show swp P (Instr.buildSlice t n (ps.map fun (p : Nat × Operand) => (p.1, evD ρ p.2))) h K
   rw [e]; exact bsX_ok hh hx h1 hK
  ·cases hx
 case makeSlice t l c =>
  split at hx
  ·rename_i cl cc hl hc
   obtain ⟨vl, l1, l2⟩ := evC_ok hl he hh
   obtain ⟨vc, c1, c2⟩ := evC_ok hc he hh
   unfold opK
   exact mv_ok l1 (mv_ok c1 (mkX_ok hh hx l2 c2 hK))
  ·cases hx
 case convert s d x =>
  split at hx
  ·rename_i c hc
   obtain ⟨v, h1, h2⟩ := evC_ok hc he hh
   unfold opK
   exact mv_ok h1 (s2bX_ok hh hx h2 hK)
  ·cases hx
 case mapUpdate t m k x =>
  split at hx
  ·rename_i cm ck cx hm hk hxx
   split at hx
   ·rename_i H1 hu
    cases hx
    obtain ⟨vm, m1, m2⟩ := evC_ok hm he hh
    obtain ⟨vk, k1, k2⟩ := evC_ok hk he hh
    obtain ⟨vx, x1, x2⟩ := evC_ok hxx he hh
    unfold opK
    refine mv_ok m1 (mv_ok k1 (mv_ok x1 ?_))
    exact muX_ok (F := fun h' => K undef h') hh hu m2 k2 x2 fun h' hh' => hK σ _ h' (Le.refl σ) VR_undef hh'
   ·cases hx
  ·cases hx
 case insert t m k x =>
  split at hx
  ·rename_i cm ck cx hm hk hxx
   split at hx
   ·rename_i H1 hu
    cases hx
    obtain ⟨vm, m1, m2⟩ := evC_ok hm he hh
    obtain ⟨vk, k1, k2⟩ := evC_ok hk he hh
    obtain ⟨vx, x1, x2⟩ := evC_ok hxx he hh
    unfold opK
    refine some_unit (l := [m, k, x]) (s := Instr.mapUpdate t (evD ρ m) (evD ρ k) (evD ρ x)) rfl rfl (by simp [okAll, (some1 m1).1, (some1 k1).1, (some1 x1).1]) rfl ?_
    rw [(some1 m1).2, (some1 k1).2, (some1 x1).2]
    exact muK_swp (K := fun _ h' => K undef h') (muX_ok (F := fun h' => K undef h') hh hu m2 k2 x2 fun h' hh' => hK σ _ h' (Le.refl σ) VR_undef hh')
   ·cases hx
  ·cases hx
 case makeMap t r =>
  cases r with
  | some r => cases hx
  | none =>
   cases hx
   unfold opK
   exact some_any (l := []) rfl rfl rfl rfl (mmpX_ok hh hK)
 case range t x =>
  split at hx
  ·rename_i c hc
   obtain ⟨v, h1, h2⟩ := evC_ok hc he hh
   unfold opK
   exact mv_ok h1 (rgX_ok hh hx h2 hK)
  ·cases hx
 case next x b =>
  cases b with
  | false => cases hx
  | true =>
   simp only [] at hx
   split at hx
   ·rename_i c hc
    obtain ⟨v, h1, h2⟩ := evC_ok hc he hh
    unfold opK
    obtain ⟨p, rfl, hn⟩ := nxX_ok (K := K) hh hx h2 fun v h' hv hh' => hK σ v h' (Le.refl σ) hv hh'
    exact mv_ok h1 hn
   ·cases hx
 case call c =>
  obtain ⟨callee, args, ts⟩ := c
  cases callee with
  | value f => cases hx
  | invoke r m => cases hx
  | builtin b =>
   simp only [] at hx
   split at hx
   ·rename_i l hl
    obtain ⟨vs, a1, a2, a3, a4⟩ := evCs_ok he hh hl
    unfold opK
    show bif knownB b then (mvs ρ args.toList [] fun vs => bltK P b ts.toList vs h K) else _
    rw [show knownB b = true from bltX_known hx]
    show mvs ρ args.toList [] fun vs => bltK P b ts.toList vs h K
    exact a4 [] _ (bltX_ok hh hx a1 hK)
   ·cases hx
end
end Go.Ix

/-
  Functions of the library without a body that the machine knows by name.
-/
set_option linter.unusedSimpArgs false
set_option linter.unusedVariables false
namespace Go.Ix
open Go Go.Hw
inductive ExK where
  | ib | ns
def exOf (P : Program) (g : Nat) : Option ExK := match P.funcs[g]? with
  | some fn => match fn.body with
    | some _ => none
    | none => bif fn.origin == "" && !(fn.name == "runtime.NumGoroutine") then
        (bif fn.name == "internal/bytealg.IndexByte" then some .ib else bif fn.name == "internal/bytealg.IndexByteString" then some .ib else bif fn.name == "internal/abi.NoEscape" then some .ns else none) else none
  | none => none
def byX (H : CH) : CV → Option (List Nat)
  | .str l => some l
  | .snil => some []
  | .slz _ _ _ => some []
  | .slc b o n _ => match rdC H b o n with
    | some l => bytesX l
    | none => none
  | _ => none
def idxX (c : Nat) : List Nat → Nat → Option Nat
  | [], _ => none
  | x :: l, i => bif Nat.beq x c then some i else idxX c l (i + 1)
def extX (k : ExK) (H : CH) (args : List CV) : Option CV :=
  match k with
  | .ib => match args with
    | [b, .int .u8 c] => match byX H b with
      | some l => match idxX (c.toNat % 256) l 0 with
        | some i => some (.int .i64 (Int.ofNat i))
        | none => some (.int .i64 (-1))
      | none => none
    | _ => none
  | .ns => match args with
    | [x] => some x
    | _ => none
section
variable {P : Program} {G : Nat} {h0 : Hp} {σ : Sig} {H : CH} {h : Hp}
theorem loadBytes_swp : ∀ {n : Nat} {l : List CV} {r : List Nat} {vs : List Value} {a : Addr} {acc : ByteArray} {K : ByteArray → Hp → Prop}, bytesX l = some r → VRs σ l vs → vs.length = n →
    (∀ (j : Nat) (v : Value), vs[j]? = some v → cell h (a.add j) = some v) → (∀ s, bl s = bl acc ++ r → K s h) → swp P (Extern.Bytes.loadBytes a n acc) h K := by
  intro n
  induction n with
  | zero =>
    intro l r vs a acc K hb hv hn hc hK
    have := List.length_eq_zero_iff.1 hn; subst this
    have hl : l = [] := by have := hv.len; simp at this; exact List.length_eq_zero_iff.1 this.symm
    subst hl
    cases hb
    exact hK acc (by simp)
  | succ n ih =>
    intro l r vs a acc K hb hv hn hc hK
    cases l with
    | nil => unfold VRs at hv; subst hv; simp at hn
    | cons x l =>
      unfold VRs at hv; obtain ⟨v, vs, rfl, hx, hv⟩ := hv
      cases x <;> first | (simp [bytesX] at hb; done) | skip
      rename_i k m
      cases k <;> first | (simp [bytesX] at hb; done) | skip
      simp only [bytesX] at hb
      split at hb
      · rename_i r' hr
        cases hb
        unfold VR at hx; subst hx
        unfold Extern.Bytes.loadBytes
        rw [swp_bind']
        refine ⟨_, by simpa [Addr.add] using hc 0 _ rfl, ?_⟩
        refine ih hr hv (by simpa using hn) ?_ ?_
        · intro j v hj
          have := hc (j + 1) v (by simpa using hj)
          rw [← this]
          congr 1
          unfold Addr.add
          by_cases e : j = 0
          · subst e; simp
          · simp [e]; omega
        · intro s hs
          refine hK s ?_
          rw [hs]
          simp [bl]
      · cases hb
theorem bytesOf_ok (hh : HR P G h0 σ H h) {x : CV} {l : List Nat} {v : Value} (hx : byX H x = some l) (hv : VR σ x v) {K : ByteArray → Hp → Prop} (hK : ∀ s, bl s = l → K s h) : swp P (Extern.Bytes.bytesOf v) h K := by
  cases x <;> simp [byX] at hx
  · subst hx; unfold VR at hv; obtain ⟨s, rfl, rfl⟩ := hv; exact hK s rfl
  · subst hx; unfold VR at hv; subst hv; exact hK _ rfl
  · split at hx
    · rename_i m hm
      obtain ⟨p, c, hp, rfl⟩ := slc_ok hv
      obtain ⟨vs, h1, h2, h3⟩ := rdC_ok hh hm hp
      unfold Extern.Bytes.bytesOf
      refine loadBytes_swp hx h1 h2 ?_ ?_
      · intro j v hj; rw [at_add]; exact h3 j v hj
      · intro s hs; exact hK s (by rw [hs]; rfl)
    · cases hx
  · subst hx; unfold VR at hv; obtain ⟨p, c, hp, rfl, hc, hsz, hl⟩ := hv
    unfold Extern.Bytes.bytesOf
    exact hK _ rfl
theorem idxX_ok (c : UInt8) (f : Nat → UInt8) : ∀ (u : List UInt8) (k : Nat), (∀ (j : Nat) (x : UInt8), u[j]? = some x → f (k + j) = x) → (List.range' k u.length).find? (fun i => f i == c) = idxX c.toNat (u.map UInt8.toNat) k := by
  intro u
  induction u with
  | nil => intro k _; rfl
  | cons x u ih =>
    intro k hf
    simp only [List.length_cons, List.range'_succ, List.map_cons, idxX]
    have h0 : f k = x := by simpa using hf 0 x rfl
    rw [List.find?_cons, h0]
    have e : (x == c) = Nat.beq x.toNat c.toNat := by
      cases hb : Nat.beq x.toNat c.toNat with
      | true => have := UInt8.toNat_inj.1 (Nat.eq_of_beq_eq_true hb); simp [this]
      | false => have : x ≠ c := by (rintro rfl; exact Nat.ne_of_beq_eq_false hb rfl)
                 simp [this]
    rw [e]
    cases Nat.beq x.toNat c.toNat with
    | true => rfl
    | false =>
      simp only [cond_false]
      exact ih (k + 1) fun j y hy => by
        have := hf (j + 1) y (by simpa using hy)
        rw [← this]; congr 1; omega
theorem ib_ok (hh : HR P G h0 σ H h) {args : List CV} {vs : List Value} {y : CV} (hx : extX .ib H args = some y) (hv : VRs σ args vs) : ∃ v, VR σ y v ∧ ∀ K : Value → Hp → Prop, K v h → swp P (Extern.BytealgIndexByte.indexByte ⟨vs⟩) h K := by
  unfold extX at hx
  simp only [] at hx
  split at hx
  · rename_i b c
    split at hx
    · rename_i l hl
      unfold VRs at hv; obtain ⟨v1, r, rfl, h1, hv⟩ := hv
      unfold VRs at hv; obtain ⟨v2, r, rfl, h2, hv⟩ := hv
      unfold VRs at hv; subst hv
      unfold VR at h2; subst h2
      have key : ∀ s : ByteArray, bl s = l → (List.range s.size).find? (fun i => s[i]! == c.toNat.toUInt8) = idxX (c.toNat % 256) l 0 := by
        intro s hs
        subst hs
        have := idxX_ok c.toNat.toUInt8 (fun i => s[i]!) s.data.toList 0 (by
          intro j x hj
          rw [Nat.zero_add]
          have hlt := (List.getElem?_eq_some_iff.1 hj).1
          rw [List.getElem?_eq_getElem hlt] at hj
          simp only [Option.some.injEq] at hj
          rw [← hj]
          have : j < s.size := by simpa using hlt
          rw [getElem!_pos s j this]
          simp [ByteArray.getElem_eq_getElem_data])
        rw [List.range_eq_range', ← (show c.toNat.toUInt8.toNat = c.toNat % 256 from by simp [Nat.toUInt8])]
        simpa [bl] using this
      split at hx
      · rename_i i hi
        cases hx
        refine ⟨.int .i64 (Int.ofNat i), by unfold VR; rfl, fun K hK => ?_⟩
        refine Eq.mpr (swp_bind' (Extern.Bytes.bytesOf v1) (fun b => do let c ← Extern.Bytes.asByte (.int .u8 c); match (List.range b.size).find? fun i => b[i]! == c with | some i => pure (goInt i) | none => pure (goInt (-1))) h K) ?_
        refine bytesOf_ok hh hl h1 fun s hs => ?_
        change swp P (match (List.range s.size).find? fun i => s[i]! == c.toNat.toUInt8 with | some i => pure (goInt i) | none => pure (goInt (-1))) h K
        rw [key s hs, hi]
        exact hK
      · rename_i hi
        cases hx
        refine ⟨.int .i64 (-1), by unfold VR; rfl, fun K hK => ?_⟩
        refine Eq.mpr (swp_bind' (Extern.Bytes.bytesOf v1) (fun b => do let c ← Extern.Bytes.asByte (.int .u8 c); match (List.range b.size).find? fun i => b[i]! == c with | some i => pure (goInt i) | none => pure (goInt (-1))) h K) ?_
        refine bytesOf_ok hh hl h1 fun s hs => ?_
        change swp P (match (List.range s.size).find? fun i => s[i]! == c.toNat.toUInt8 with | some i => pure (goInt i) | none => pure (goInt (-1))) h K
        rw [key s hs, hi]
        exact hK
    · cases hx
  · cases hx
theorem und (fn : Func) (n : String) (hn : fn.name = n) (e : Array Value → Sem Value) (h1 : Extern.allNextRows.lookup n = none) (h2 : Extern.allGenericRows.lookup n = none) (h3 : Extern.allTypedRows.lookup n = none)
    (h4 : Extern.allRows.lookup n = some e) (ho : fn.origin = "") (h5 : Extern.allNextRows.lookup "" = none) : Extern.findNext fn = none ∧ Extern.find fn = some e := by
  unfold Extern.findNext Extern.find
  simp only [hn, ho, h1, h2, h3, h4, h5]
  exact ⟨rfl, rfl⟩
theorem ext_fn {g : Nat} {k : ExK} (hk : exOf P g = some k) : ∃ fn, P.funcs[g]? = some fn ∧ fn.body = none ∧ (fn.name == "runtime.NumGoroutine") = false ∧ Extern.findNext fn = none ∧
    Extern.find fn = some (match k with | .ib => Extern.BytealgIndexByte.indexByte | .ns => Extern.AbiNoEscape.same) := by
  unfold exOf at hk
  split at hk
  · rename_i fn hfn
    split at hk
    · cases hk
    · rename_i hb
      cases hc : fn.origin == "" && !(fn.name == "runtime.NumGoroutine") with
      | false => rw [hc] at hk; cases hk
      | true =>
        rw [hc] at hk
        simp only [cond_true] at hk
        simp only [Bool.and_eq_true, Bool.not_eq_true', beq_iff_eq] at hc
        have ho := hc.1
        refine ⟨fn, hfn, hb, by simpa using hc.2, ?_⟩
        cases h1 : fn.name == "internal/bytealg.IndexByte" with
        | true =>
          rw [h1] at hk; cases hk
          exact und fn _ (by simpa using h1) _ (by kernel_rfl) (by kernel_rfl) (by kernel_rfl) (by kernel_rfl) ho (by kernel_rfl)
        | false =>
          rw [h1] at hk
          cases h2 : fn.name == "internal/bytealg.IndexByteString" with
          | true =>
            rw [h2] at hk; cases hk
            exact und fn _ (by simpa using h2) _ (by kernel_rfl) (by kernel_rfl) (by kernel_rfl) (by kernel_rfl) ho (by kernel_rfl)
          | false =>
            rw [h2] at hk
            cases h3 : fn.name == "internal/abi.NoEscape" with
            | true =>
              rw [h3] at hk; cases hk
              exact und fn _ (by simpa using h3) _ (by kernel_rfl) (by kernel_rfl) (by kernel_rfl) (by kernel_rfl) ho (by kernel_rfl)
            | false => rw [h3] at hk; cases hk
  · cases hk
theorem ext_ok (hh : HR P G h0 σ H h) {g : Nat} {k : ExK} (hk : exOf P g = some k) {args : List CV} {vs : List Value} {y : CV} (hx : extX k H args = some y) (hv : VRs σ args vs) :
    ∃ v, VR σ y v ∧ ∀ K : Value → Hp → Prop, K v h → swp P (callFunc g ⟨vs⟩) h (nextK P K) := by
  obtain ⟨fn, h1, h2, h3, h4, h5⟩ := ext_fn hk
  have key : ∀ (e : Array Value → Sem Value), Extern.find fn = some e → ∀ K : Value → Hp → Prop, swp P (e ⟨vs⟩) h K → swp P (callFunc g ⟨vs⟩) h (nextK P K) := by
    intro e he K hK
    unfold callFunc
    simp only [swp_bind']
    change swp P (match P.funcs[g]? with | none => _ | some fn => _) h _
    rw [h1]
    simp only [h3, h2, h4, he, Bool.false_eq_true, if_false, Option.isNone_none, if_true]
    exact vswp hK
  cases k with
  | ib =>
    obtain ⟨v, g1, g2⟩ := ib_ok hh hx hv
    exact ⟨v, g1, fun K hK => key _ h5 K (g2 K hK)⟩
  | ns =>
    unfold extX at hx
    simp only [] at hx
    split at hx
    · cases hx
      unfold VRs at hv; obtain ⟨v, r, rfl, g1, hv⟩ := hv
      unfold VRs at hv; subst hv
      exact ⟨v, g1, fun K hK => key _ h5 K hK⟩
    · cases hx
end
end Go.Ix

/-
  Maps that are walked: every order is looked at.
-/
set_option linter.unusedSimpArgs false
set_option linter.unusedVariables false
namespace Go.Ix
open Go Go.Hw
def memN (n : Nat) : List Nat → Bool
  | [] => false
  | x :: l => Nat.beq n x || memN n l
def leftX (seen : List Nat) : List (CV × CV × Nat) → List (CV × CV × Nat)
  | [] => []
  | (k, v, b) :: l => bif memN b seen then leftX seen l else (k, v, b) :: leftX seen l
def allLt (n : Nat) : List (CV × CV × Nat) → Bool
  | [] => true
  | (_, _, b) :: l => Nat.blt b n && allLt n l
def anyLt (n : Nat) : List (CV × CV × Nat) → Bool
  | [] => false
  | (_, _, b) :: l => Nat.blt b n || anyLt n l
def nilB {α : Type} : List α → Bool
  | [] => true
  | _ => false
def outsX (H : CH) (b : Nat) (m since : Nat) (seen : List Nat) (c : Nat) : List (CV × CV × Nat) → List (CV × CH)
  | [] => []
  | (k, v, n) :: l => (.tup [.bool true, k, v], ⟨H.t.set b (some (.mit (some m) since (seen ++ [n]) c)), H.nx⟩) :: outsX H b m since seen c l
def mnX (H : CH) (x : CV) : Option (List (CV × CH)) :=
  match x with
  | .ptr b 0 => match H.t.get b with
    | some (.mit none _ _ _) => some [(.tup [.bool false], H)]
    | some (.mit (some m) since seen last) => match H.t.get m with
      | some (.mp es c) =>
        bif (nilB seen || nilB es || anyLt last es) && allLt since (leftX seen es) then
          (match leftX seen es with
          | [] => some [(.tup [.bool false], H)]
          | e :: l => some (outsX H b m since seen c (e :: l)))
        else none
      | _ => none
    | _ => none
  | _ => none
section
variable {P : Program} {G : Nat} {h0 : Hp} {σ : Sig} {H : CH} {h : Hp}
theorem memN_ok {n : Nat} : ∀ {l : List Nat}, memN n l = l.contains n := by
  intro l
  induction l with
  | nil => rfl
  | cons x l ih =>
    simp only [memN, List.contains_cons, ih]
    cases hb : Nat.beq n x with
    | true => rw [Nat.eq_of_beq_eq_true hb]; simp
    | false => have : (n == x) = false := by simpa using Nat.ne_of_beq_eq_false hb
               rw [this]
theorem entR_left {seen : List Nat} : ∀ {es : List (CV × CV × Nat)} {l : List MapEntry}, entR σ es l → entR σ (leftX seen es) (l.filter fun e => !seen.contains e.born) := by
  intro es
  induction es with
  | nil => intro l h; unfold entR at h; subst h; unfold leftX entR; rfl
  | cons e es ih =>
    intro l h
    obtain ⟨k, v, b⟩ := e
    unfold entR at h; obtain ⟨e, r, rfl, h1, h2, h3, h4⟩ := h
    unfold leftX
    rw [memN_ok, ← h3]
    cases hc : seen.contains e.born with
    | true => simp only [cond_true]; rw [List.filter_cons_of_neg (by show ¬ (!seen.contains e.born) = true; rw [hc]; decide)]; exact ih h4
    | false =>
      simp only [cond_false]
      rw [List.filter_cons_of_pos (by show (!seen.contains e.born) = true; rw [hc]; rfl)]
      exact ⟨e, _, rfl, h1, h2, rfl, ih h4⟩
theorem allLt_ok {n : Nat} : ∀ {es : List (CV × CV × Nat)} {l : List MapEntry}, entR σ es l → allLt n es = true → ∀ e ∈ l, e.born < n := by
  intro es
  induction es with
  | nil => intro l h _ e he; unfold entR at h; subst h; cases he
  | cons e es ih =>
    intro l h hl x hx
    obtain ⟨k, v, b⟩ := e
    unfold entR at h; obtain ⟨e, r, rfl, h1, h2, h3, h4⟩ := h
    simp only [allLt, Bool.and_eq_true] at hl
    cases hx with
    | head => rw [h3]; simpa [Nat.blt_eq] using hl.1
    | tail _ hm => exact ih h4 hl.2 x hm
theorem anyLt_ok {n : Nat} : ∀ {es : List (CV × CV × Nat)} {l : List MapEntry}, entR σ es l → anyLt n es = true → ∃ e ∈ l, e.born < n := by
  intro es
  induction es with
  | nil => intro l h hl; cases hl
  | cons e es ih =>
    intro l h hl
    obtain ⟨k, v, b⟩ := e
    unfold entR at h; obtain ⟨e, r, rfl, h1, h2, h3, h4⟩ := h
    simp only [anyLt, Bool.or_eq_true] at hl
    rcases hl with hl | hl
    · exact ⟨e, List.mem_cons_self .., by rw [h3]; simpa [Nat.blt_eq] using hl⟩
    · obtain ⟨x, hx, hlt⟩ := ih h4 hl
      exact ⟨x, List.mem_cons_of_mem _ hx, hlt⟩
theorem entR_get : ∀ {es : List (CV × CV × Nat)} {l : List MapEntry}, entR σ es l → ∀ {j : Nat} {e : MapEntry}, l[j]? = some e → ∃ k v, es[j]? = some (k, v, e.born) ∧ VR σ k e.key ∧ VR σ v e.val := by
  intro es
  induction es with
  | nil => intro l h j e he; unfold entR at h; subst h; simp at he
  | cons x es ih =>
    intro l h j e he
    obtain ⟨k, v, b⟩ := x
    unfold entR at h; obtain ⟨y, r, rfl, h1, h2, h3, h4⟩ := h
    cases j with
    | zero => simp at he; subst he; exact ⟨k, v, by simp [h3], h1, h2⟩
    | succ j => simp at he; obtain ⟨k', v', g1, g2⟩ := ih h4 he; exact ⟨k', v', by simpa using g1, g2⟩
theorem outsX_mem {b m since : Nat} {seen : List Nat} {c : Nat} : ∀ {es : List (CV × CV × Nat)} {j : Nat} {k v : CV} {n : Nat}, es[j]? = some (k, v, n) →
    (.tup [.bool true, k, v], ⟨H.t.set b (some (.mit (some m) since (seen ++ [n]) c)), H.nx⟩) ∈ outsX H b m since seen c es := by
  intro es
  induction es with
  | nil => intro j k v n h; simp at h
  | cons x es ih =>
    intro j k v n h
    obtain ⟨k', v', b'⟩ := x
    unfold outsX
    cases j with
    | zero => simp at h; obtain ⟨rfl, rfl, rfl⟩ := h; exact List.mem_cons_self ..
    | succ j => simp at h; exact List.mem_cons_of_mem _ (ih h)
theorem tup1_ok (b : Bool) : VR σ (.tup [.bool b]) (.tuple ⟨[.bool b]⟩) := by
  unfold VR; refine ⟨_, rfl, ?_⟩
  unfold VRs; refine ⟨_, _, rfl, by unfold VR; rfl, ?_⟩
  unfold VRs; rfl
theorem mnX_ok (hh : HR P G h0 σ H h) {x : CV} {v : Value} {l : List (CV × CH)} (hx : mnX H x = some l) (hv : VR σ x v) {K : Value → Hp → Prop}
    (hK : ∀ y H', (y, H') ∈ l → ∀ v h', VR σ y v → HR P G h0 σ H' h' → K v h') : ∃ p, v = .pointer p ∧ nxM h p fun b r h' => K (.tuple ⟨.bool b :: r⟩) h' := by
  unfold mnX at hx
  split at hx
  · rename_i b
    unfold VR at hv; obtain ⟨p, hp, rfl⟩ := hv
    refine ⟨_, rfl, ?_⟩
    split at hx
    · rename_i si se la hg
      cases hx
      obtain ⟨q, z, k1, k2, k3⟩ := hh.obj b _ hg
      rw [hp] at k1; cases k1
      unfold OR at k3
      obtain ⟨r, rfl, hr, h0r, hd⟩ := k3
      have hat : p.at 0 = ⟨p.r, 0, none⟩ := by simp [Pl.at, hd]
      rw [hat]
      cases r with
      | some r => exact hr.elim
      | none =>
        unfold nxM
        simp only [k2]
        exact hK _ _ (List.mem_singleton.2 rfl) _ h (tup1_ok false) hh
    · rename_i m since seen last hg
      split at hx
      · rename_i es c hm
        obtain ⟨q, z, k1, k2, k3⟩ := hh.obj b _ hg
        rw [hp] at k1; cases k1
        unfold OR at k3
        obtain ⟨r, rfl, hr, h0r, hd⟩ := k3
        have hat : p.at 0 = ⟨p.r, 0, none⟩ := by simp [Pl.at, hd]
        rw [hat]
        cases r with
        | none => exact hr.elim
        | some r =>
          obtain ⟨q, hq, rfl⟩ := hr
          obtain ⟨es', g1, g2⟩ := mp_at hh hm hq
          cases hc : (nilB seen || nilB es || anyLt last es) && allLt since (leftX seen es) with
          | false => rw [hc] at hx; cases hx
          | true =>
            rw [hc] at hx
            simp only [cond_true] at hx
            simp only [Bool.and_eq_true] at hc
            have hleft := entR_left (seen := seen) g2
            have hall := allLt_ok hleft hc.2
            have e1 : leftM ⟨seen⟩ ⟨es'⟩ = ⟨es'.filter fun e => !seen.contains e.born⟩ := by simp [leftM]
            have hno : (!(⟨seen⟩ : Array Nat).isEmpty && !(⟨es'⟩ : Array MapEntry).isEmpty && (⟨es'⟩ : Array MapEntry).all (·.born ≥ last)) = false := by
              cases h1 : nilB seen with
              | true => cases seen with
                | nil => rfl
                | cons => cases h1
              | false => cases h2 : nilB es with
                | true => cases es with
                  | nil => unfold entR at g2; subst g2; simp
                  | cons => cases h2
                | false =>
                  rw [h1, h2] at hc
                  obtain ⟨e, he, hlt⟩ := anyLt_ok g2 (by simpa using hc.1)
                  have : (⟨es'⟩ : Array MapEntry).all (·.born ≥ last) = false := by
                    rw [Bool.eq_false_iff]
                    intro ha
                    simp at ha
                    have := ha e he; omega
                  rw [this]; simp
            unfold nxM
            simp only [k2, g1]
            rw [e1]
            refine ⟨hno, fun e he => hall e (by simpa using he), ?_, ?_⟩
            · intro hnil
              have hl0 : (es'.filter fun e => !seen.contains e.born) = [] := by simpa using congrArg Array.toList hnil
              rw [hl0] at hleft
              have hln := entR_len hleft
              have hcons : leftX seen es = [] := List.length_eq_zero_iff.1 (by rw [List.length_nil] at hln; omega)
              rw [hcons] at hx
              cases hx
              exact hK _ _ (List.mem_singleton.2 rfl) _ h (tup1_ok false) hh
            · intro e he
              have he : e ∈ es'.filter fun e => !seen.contains e.born := by simpa using he
              obtain ⟨j, hj, rfl⟩ := List.getElem_of_mem he
              obtain ⟨k, w, f1, f2, f3⟩ := entR_get hleft (List.getElem?_eq_getElem hj)
              split at hx
              · rename_i hnil
                rw [hnil] at f1; simp at f1
              · rename_i e0 l0 hcons
                cases hx
                rw [hcons] at f1
                generalize es'.filter (fun e => !seen.contains e.born) = L at hj f2 f3 f1
                refine hK _ _ (outsX_mem f1) (.tuple ⟨[.bool true, L[j].key, L[j].val]⟩) _ ?_ (hh.chg hg hp h0r ?_)
                · unfold VR; refine ⟨_, rfl, ?_⟩
                  unfold VRs; refine ⟨_, _, rfl, by unfold VR; rfl, ?_⟩
                  unfold VRs; refine ⟨_, _, rfl, f2, ?_⟩
                  unfold VRs; refine ⟨_, _, rfl, f3, ?_⟩
                  unfold VRs; rfl
                · unfold OR
                  exact ⟨some q.r, by simp, ⟨q, hq, rfl⟩, h0r, hd⟩
      · cases hx
    · cases hx
  · cases hx
def lastN : List Nat → Option Nat
  | [] => none
  | [x] => some x
  | _ :: y :: l => lastN (y :: l)
def bornX (n : Nat) : List (CV × CV × Nat) → Option (CV × CV)
  | [] => none
  | (k, v, b) :: l => bif Nat.beq b n then some (k, v) else bornX n l
def entX (H : CH) (x : CV) : Option CV :=
  match x with
  | .ptr b 0 => match H.t.get b with
    | some (.mit (some m) _ seen last) => match lastN seen, H.t.get m with
      | some n, some (.mp es c) => bif Nat.beq c last then (match bornX n es with
        | some (k, v) => some (.tup [k, v])
        | none => none) else none
      | _, _ => none
    | _ => none
  | _ => none
theorem lastN_ok : ∀ {l : List Nat} {n : Nat}, lastN l = some n → (⟨l⟩ : Array Nat).back? = some n := by
  intro l n h
  have : l.getLast? = some n := by
    induction l with
    | nil => cases h
    | cons x l ih =>
      cases l with
      | nil => simpa [lastN] using h
      | cons y l => rw [List.getLast?_cons_cons]; exact ih h
  simpa using this
theorem bornX_ok {n : Nat} : ∀ {es : List (CV × CV × Nat)} {l : List MapEntry}, entR σ es l → ∀ {k v : CV}, bornX n es = some (k, v) → ∃ e, l.find? (·.born == n) = some e ∧ VR σ k e.key ∧ VR σ v e.val := by
  intro es
  induction es with
  | nil => intro l h k v hb; cases hb
  | cons x es ih =>
    intro l h k v hb
    obtain ⟨k', v', b⟩ := x
    unfold entR at h; obtain ⟨e, r, rfl, h1, h2, h3, h4⟩ := h
    simp only [bornX] at hb
    cases hq : Nat.beq b n with
    | true =>
      rw [hq] at hb; cases hb
      exact ⟨e, by rw [List.find?_cons_of_pos (by rw [h3]; simpa using Nat.eq_of_beq_eq_true hq)], h1, h2⟩
    | false =>
      rw [hq] at hb
      obtain ⟨e', g1, g2⟩ := ih h4 hb
      exact ⟨e', by rw [List.find?_cons_of_neg (by rw [h3]; simpa using Nat.ne_of_beq_eq_false hq)]; exact g1, g2⟩
theorem entX_ok (hh : HR P G h0 σ H h) {x y : CV} {v : Value} (hx : entX H x = some y) (hv : VR σ x v) : ∃ w p, v = .pointer p ∧ VR σ y w ∧ ∀ K : Value → Hp → Prop, K w h → enM h p fun a b => K (.tuple ⟨[a, b]⟩) h := by
  unfold entX at hx
  split at hx
  · rename_i b
    unfold VR at hv; obtain ⟨p, hp, rfl⟩ := hv
    split at hx
    · rename_i m since seen last hg
      split at hx
      · rename_i n es c hn hm
        cases hcl : Nat.beq c last with
        | false => rw [hcl] at hx; cases hx
        | true =>
          rw [hcl] at hx
          simp only [cond_true] at hx
          have hcl := Nat.eq_of_beq_eq_true hcl
          subst hcl
          split at hx
          · rename_i k u hb
            cases hx
            obtain ⟨q, z, k1, k2, k3⟩ := hh.obj b _ hg
            rw [hp] at k1; cases k1
            unfold OR at k3
            obtain ⟨r, rfl, hr, h0r, hd⟩ := k3
            have hat : p.at 0 = ⟨p.r, 0, none⟩ := by simp [Pl.at, hd]
            rw [hat]
            cases r with
            | none => exact hr.elim
            | some r =>
              obtain ⟨q, hq, rfl⟩ := hr
              obtain ⟨es', g1, g2⟩ := mp_at hh hm hq
              obtain ⟨e, f1, f2, f3⟩ := bornX_ok g2 hb
              refine ⟨.tuple ⟨[e.key, e.val]⟩, _, rfl, ?_, fun K hK => ?_⟩
              · unfold VR; refine ⟨_, rfl, ?_⟩
                unfold VRs; refine ⟨_, _, rfl, f2, ?_⟩
                unfold VRs; refine ⟨_, _, rfl, f3, ?_⟩
                unfold VRs; rfl
              · unfold enM
                have hf : (⟨es'⟩ : Array MapEntry).find? (·.born == n) = some e := by simpa using f1
                simp only [k2, lastN_ok hn, g1, hf]
                exact ⟨trivial, hK⟩
          · cases hx
      · cases hx
    · cases hx
  · cases hx
end
end Go.Ix

/-
 Two states of the small machine that are one but for the numbers of their blocks.
-/
set_option linter.unusedSimpArgs false
set_option linter.unusedVariables false
namespace Go.Ix
open Go Go.Hw
def pi : List (Nat × Nat × Nat) → Nat → Nat
 | [], b => b
 | (s, n, s') :: l, b => bif Nat.ble s b && Nat.blt b (s + n) then s' + (b - s) else pi l b
mutual
def CV.eqr (π : Nat → Nat) : CV → CV → Bool
 | .int k n, .int k' n' => kindEq k k' && decide (n = n')
 | .bool b, .bool b' => b == b'
 | .str l, .str l' => leq l l'
 | .pnil, .pnil => true
 | .ptr b o, .ptr b' o' => Nat.beq (π b) b' && Nat.beq o o'
 | .snil, .snil => true
 | .slc b o n c, .slc b' o' n' c' => Nat.beq (π b) b' && Nat.beq o o' && Nat.beq n n' && oeq c c'
 | .slz b o l, .slz b' o' l' => Nat.beq (π b) b' && Nat.beq o o' && Nat.beq l l'
 | .mnil, .mnil => true
 | .map b, .map b' => Nat.beq (π b) b'
 | .agg l, .agg l' => CV.eqrs π l l'
 | .tup l, .tup l' => CV.eqrs π l l'
 | .nili, .nili => true
 | .ifc t v, .ifc t' v' => Nat.beq t t' && CV.eqr π v v'
 | .fn f a b, .fn f' a' b' => Nat.beq f f' && CV.eqrs π a a' && CV.eqrs π b b'
 | .nilf, .nilf => true
 | _, _ => false
def CV.eqrs (π : Nat → Nat) : List CV → List CV → Bool
 | [], [] => true
 | x :: l, y :: m => CV.eqr π x y && CV.eqrs π l m
 | _, _ => false
end
section
variable {σ τ : Sig} {π : Nat → Nat}
mutual
theorem CV.eqr_VR (hp : ∀ b p, σ b = some p → τ (π b) = some p) : ∀ (x y : CV) (v : Value), CV.eqr π x y = true → VR σ x v → VR τ y v := by
 intro x y v h hv
 cases x <;> cases y <;> first | (simp [CV.eqr] at h; done) | skip
 case int.int k n k' n' => simp only [CV.eqr, Bool.and_eq_true, decide_eq_true_eq] at h; rw [← kindEq_eq h.1, ← h.2]; exact hv
 case bool.bool => simp [CV.eqr] at h; rw [← h]; exact hv
 case str.str => simp only [CV.eqr] at h; rw [← leq_eq h]; exact hv
 case pnil.pnil => exact hv
 case ptr.ptr =>
  simp only [CV.eqr, Bool.and_eq_true] at h
  rw [← Nat.eq_of_beq_eq_true h.1, ← Nat.eq_of_beq_eq_true h.2]
  unfold VR at hv ⊢; obtain ⟨p, h1, h2⟩ := hv; exact ⟨p, hp _ _ h1, h2⟩
 case snil.snil => exact hv
 case slc.slc b o n c b' o' n' c' =>
  simp only [CV.eqr, Bool.and_eq_true] at h
  rw [← Nat.eq_of_beq_eq_true h.1.1.1, ← Nat.eq_of_beq_eq_true h.1.1.2, ← Nat.eq_of_beq_eq_true h.1.2, ← oeq_eq h.2]
  cases c with
  | some c => unfold VR at hv ⊢; obtain ⟨p, h1, h2⟩ := hv; exact ⟨p, hp _ _ h1, h2⟩
  | none => unfold VR at hv ⊢; obtain ⟨p, c, h1, h2⟩ := hv; exact ⟨p, c, hp _ _ h1, h2⟩
 case slz.slz =>
  simp only [CV.eqr, Bool.and_eq_true] at h
  rw [← Nat.eq_of_beq_eq_true h.1.1, ← Nat.eq_of_beq_eq_true h.1.2, ← Nat.eq_of_beq_eq_true h.2]
  unfold VR at hv ⊢; obtain ⟨p, c, h1, h2⟩ := hv; exact ⟨p, c, hp _ _ h1, h2⟩
 case mnil.mnil => exact hv
 case map.map =>
  simp only [CV.eqr] at h
  rw [← Nat.eq_of_beq_eq_true h]
  unfold VR at hv ⊢; obtain ⟨p, h1, h2⟩ := hv; exact ⟨p, hp _ _ h1, h2⟩
 case agg.agg l m => simp only [CV.eqr] at h; unfold VR at hv ⊢; obtain ⟨vs, h1, h2⟩ := hv; exact ⟨vs, h1, CV.eqrs_VR hp l m vs h h2⟩
 case tup.tup l m => simp only [CV.eqr] at h; unfold VR at hv ⊢; obtain ⟨vs, h1, h2⟩ := hv; exact ⟨vs, h1, CV.eqrs_VR hp l m vs h h2⟩
 case nili.nili => exact hv
 case ifc.ifc t x t' x' =>
  simp only [CV.eqr, Bool.and_eq_true] at h
  rw [← Nat.eq_of_beq_eq_true h.1]
  unfold VR at hv ⊢; obtain ⟨w, h1, h2⟩ := hv; exact ⟨w, h1, CV.eqr_VR hp x x' w h.2 h2⟩
 case fn.fn f a b f' a' b' =>
  simp only [CV.eqr, Bool.and_eq_true] at h
  rw [← Nat.eq_of_beq_eq_true h.1.1]
  unfold VR at hv ⊢; obtain ⟨xs, ys, h1, h2, h3⟩ := hv
  exact ⟨xs, ys, h1, CV.eqrs_VR hp a a' xs h.1.2 h2, CV.eqrs_VR hp b b' ys h.2 h3⟩
 case nilf.nilf => exact hv
theorem CV.eqrs_VR (hp : ∀ b p, σ b = some p → τ (π b) = some p) : ∀ (l m : List CV) (vs : List Value), CV.eqrs π l m = true → VRs σ l vs → VRs τ m vs := by
 intro l m vs h hv
 cases l <;> cases m <;> first | (simp [CV.eqrs] at h; done) | skip
 case nil.nil => exact hv
 case cons.cons x l y m =>
  simp only [CV.eqrs, Bool.and_eq_true] at h
  unfold VRs at hv ⊢; obtain ⟨v, r, h1, h2, h3⟩ := hv
  exact ⟨v, r, h1, CV.eqr_VR hp x y v h.1 h2, CV.eqrs_VR hp l m r h.2 h3⟩
end
theorem CV.eqrs_get : ∀ {l m : List CV}, CV.eqrs π l m = true → l.length = m.length ∧ ∀ {i : Nat} {y : CV}, m[i]? = some y → ∃ x, l[i]? = some x ∧ CV.eqr π x y = true := by
 intro l
 induction l with
 | nil => intro m h; cases m with
  | nil => exact ⟨rfl, fun h => by simp at h⟩
  | cons => cases h
 | cons x l ih =>
  intro m h
  cases m with
  | nil => cases h
  | cons y m =>
   simp only [CV.eqrs, Bool.and_eq_true] at h
   obtain ⟨h1, h2⟩ := ih h.2
   refine ⟨by simp [h1], ?_⟩
   intro i z hz
   cases i with
   | zero => simp at hz; subst hz; exact ⟨x, rfl, h.1⟩
   | succ i => simp at hz; obtain ⟨u, g1, g2⟩ := h2 hz; exact ⟨u, by simpa using g1, g2⟩
def entEq (π : Nat → Nat) : List (CV × CV × Nat) → List (CV × CV × Nat) → Bool
 | [], [] => true
 | (k, v, b) :: l, (k', v', b') :: m => CV.eqr π k k' && CV.eqr π v v' && Nat.beq b b' && entEq π l m
 | _, _ => false
def COeq (π : Nat → Nat) : CO → CO → Bool
 | .row o p m e cs, .row o' p' m' e' cs' => (o == o') && (p == p') && (m == m') && Nat.beq e e' && CV.eqrs π cs cs'
 | .tab cs, .tab cs' => CV.eqrs π cs cs'
 | .mp es c, .mp es' c' => entEq π es es' && Nat.beq c c'
 | .sit l n, .sit l' n' => leq l l' && Nat.beq n n'
 | .mit m s e l, .mit m' s' e' l' => (match m, m' with | none, none => true | some b, some b' => Nat.beq (π b) b' | _, _ => false) && Nat.beq s s' && leq e e' && Nat.beq l l'
 | _, _ => false
theorem entEq_ok (hp : ∀ b p, σ b = some p → τ (π b) = some p) : ∀ {es fs : List (CV × CV × Nat)} {l : List MapEntry}, entEq π es fs = true → entR σ es l → entR τ fs l := by
 intro es
 induction es with
 | nil => intro fs l h he; cases fs with
  | nil => exact he
  | cons x fs => obtain ⟨a, b, c⟩ := x; cases h
 | cons x es ih =>
  intro fs l h he
  obtain ⟨k, v, b⟩ := x
  cases fs with
  | nil => cases h
  | cons y fs =>
   obtain ⟨k', v', b'⟩ := y
   simp only [entEq, Bool.and_eq_true] at h
   unfold entR at he ⊢
   obtain ⟨e, r, h1, h2, h3, h4, h5⟩ := he
   exact ⟨e, r, h1, CV.eqr_VR hp _ _ _ h.1.1.1 h2, CV.eqr_VR hp _ _ _ h.1.1.2 h3, by rw [h4]; exact Nat.eq_of_beq_eq_true h.1.2, ih h.2 h5⟩
theorem COeq_ok {P : Program} {h0 : Hp} (hp : ∀ b p, σ b = some p → τ (π b) = some p) {p : Pl} {o o' : CO} {x : Obj} (h : COeq π o o' = true) (ho : OR P h0 σ p o x) : OR P h0 τ p o' x := by
 cases o <;> cases o' <;> first | (simp [COeq] at h; done) | skip
 case row.row ow op mk e cs ow' op' mk' e' cs' =>
  simp only [COeq, Bool.and_eq_true, beq_iff_eq] at h
  obtain ⟨⟨⟨⟨rfl, rfl⟩, rfl⟩, he⟩, hcs⟩ := h
  have := Nat.eq_of_beq_eq_true he; subst this
  obtain ⟨hl, hg⟩ := CV.eqrs_get hcs
  unfold OR at ho ⊢
  obtain ⟨vs, lo, hi, h1, h2, h3, h4, h5, h6⟩ := ho
  refine ⟨vs, lo, hi, h1, h2, by omega, fun e => by rw [← hl]; exact h4 e, fun i c hc => ?_, h6⟩
  obtain ⟨u, g1, g2⟩ := hg hc
  obtain ⟨v, k1, k2⟩ := h5 i u g1
  exact ⟨v, k1, CV.eqr_VR hp _ _ _ g2 k2⟩
 case tab.tab cs cs' =>
  simp only [COeq] at h
  obtain ⟨hl, hg⟩ := CV.eqrs_get h
  unfold OR at ho ⊢
  obtain ⟨vs, e, fr, h1, h5⟩ := ho
  refine ⟨vs, e, fr, h1, fun i c hc => ?_⟩
  obtain ⟨u, g1, g2⟩ := hg hc
  obtain ⟨v, k1, k2⟩ := h5 i u g1
  exact ⟨v, k1, CV.eqr_VR hp _ _ _ g2 k2⟩
 case mp.mp es c es' c' =>
  simp only [COeq, Bool.and_eq_true] at h
  have := Nat.eq_of_beq_eq_true h.2; subst this
  unfold OR at ho ⊢
  obtain ⟨l, h1, h2, h3⟩ := ho
  exact ⟨l, h1, entEq_ok hp h.1 h2, h3⟩
 case sit.sit l n l' n' =>
  simp only [COeq, Bool.and_eq_true] at h
  rw [← leq_eq h.1, ← Nat.eq_of_beq_eq_true h.2]; exact ho
 case mit.mit m s e l m' s' e' l' =>
  simp only [COeq, Bool.and_eq_true] at h
  obtain ⟨⟨⟨hm, hs⟩, he⟩, hl⟩ := h
  rw [← Nat.eq_of_beq_eq_true hs, ← leq_eq he, ← Nat.eq_of_beq_eq_true hl]
  unfold OR at ho ⊢
  obtain ⟨r, h1, h2, h3⟩ := ho
  refine ⟨r, h1, ?_, h3⟩
  cases m <;> cases m' <;> cases r <;> first | (simp at hm; done) | exact h2 | skip
  obtain ⟨q, g1, g2⟩ := h2
  exact ⟨q, by rw [← Nat.eq_of_beq_eq_true hm]; exact hp _ _ g1, g2⟩
end
/-! trees -/
def allT {α : Type} (q : Nat → α → Bool) : T α → Nat → Nat → Bool
 | .leaf, _, _ => true
 | .node l v r, a, b => (match v with | some x => q b x | none => true) && (allT q l (2 * a) (a + b) && allT q r (2 * a) (2 * a + b))
theorem allT_get {α : Type} {q : Nat → α → Bool} : ∀ {t : T α} {a b k : Nat} {x : α}, allT q t a b = true → t.get k = some x → q (a * k + b) x = true := by
 intro t
 induction t with
 | leaf => intro a b k x _ h; cases h
 | node l v r ihl ihr =>
  intro a b k x h hg
  simp only [allT, Bool.and_eq_true] at h
  simp only [T.get] at hg
  cases h0 : Nat.beq k 0 with
  | true =>
   rw [h0] at hg
   have := Nat.eq_of_beq_eq_true h0; subst this
   simp only [cond_true] at hg
   rw [hg] at h
   simpa using h.1
  | false =>
   rw [h0] at hg
   have hk := Nat.ne_of_beq_eq_false h0
   simp only [cond_false] at hg
   cases h1 : Nat.beq (k % 2) 1 with
   | true =>
    rw [h1] at hg
    have := ihl h.2.1 hg
    have hk2 := Nat.eq_of_beq_eq_true h1
    have e : 2 * a * (k / 2) + (a + b) = a * k + b := by
     obtain ⟨m, rfl⟩ : ∃ m, k = 2 * m + 1 := ⟨k / 2, by omega⟩
     rw [show (2 * m + 1) / 2 = m by omega, Nat.mul_add, Nat.mul_one, Nat.mul_right_comm, Nat.mul_comm (2 * m) a, ← Nat.mul_assoc, Nat.mul_comm a 2]; omega
    rw [e] at this; exact this
   | false =>
    rw [h1] at hg
    have := ihr h.2.2 hg
    have hk2 := Nat.ne_of_beq_eq_false h1
    have e : 2 * a * (k / 2 - 1) + (2 * a + b) = a * k + b := by
     obtain ⟨m, rfl⟩ : ∃ m, k = 2 * m + 2 := ⟨k / 2 - 1, by omega⟩
     rw [show (2 * m + 2) / 2 - 1 = m by omega, Nat.mul_add, ← Nat.mul_assoc, Nat.mul_comm a 2]; omega
    rw [e] at this; exact this
def ranB (q : Nat → Bool) : Nat → Bool
 | 0 => true
 | n + 1 => q n && ranB q n
theorem ranB_get {q : Nat → Bool} : ∀ {n : Nat}, ranB q n = true → ∀ i, i < n → q i = true := by
 intro n
 induction n with
 | zero => intro _ i h; omega
 | succ n ih =>
  intro h i hi
  simp only [ranB, Bool.and_eq_true] at h
  by_cases e : i = n
  ·subst e; exact h.1
  ·exact ih h.2 i (by omega)
abbrev Lg := List (Nat × Nat × Nat)
def mapLg (lb : Lg) : Lg → List (Nat × Nat × Nat)
 | [] => []
 | (i, s', e') :: l => (match lb.find? fun x => Nat.beq x.1 i with
  | some (_, s, e) => bif Nat.beq (e - s) (e' - s') && Nat.blt s e then (s, e - s, s') :: mapLg lb l else mapLg lb l
  | none => mapLg lb l)
def swapL : List (Nat × Nat × Nat) → List (Nat × Nat × Nat)
 | [] => []
 | (s, n, s') :: l => (s', n, s) :: swapL l
def oneX (G nx0 : Nat) (lb la : Lg) (eb ea : CE) (HB HA : CH) : Bool :=
 let m := mapLg lb la
 let m' := swapL m
 Nat.beq HA.nx HB.nx && Nat.ble G nx0 && Nat.ble nx0 HA.nx && ranB (fun b => Nat.beq (pi m' (pi m b)) b && Nat.blt (pi m b) HA.nx && Nat.beq (pi m (pi m' b)) b && Nat.blt (pi m' b) HA.nx) HA.nx &&
 ranB (fun b => Nat.beq (pi m' b) b) nx0 &&
 allT (fun a o => Nat.blt a HA.nx && (match HB.t.get (pi m' a) with | some o' => COeq (pi m) o' o | none => false)) HA.t 1 0 &&
 allT (fun t x => match eb.get t with | some y => CV.eqr (pi m) y x | none => false) ea 1 0
theorem oneX_ok {P : Program} {G nx0 : Nat} {h0 : Hp} {lb la : Lg} {eb ea : CE} {HB HA : CH} (hs : oneX G nx0 lb la eb ea HB HA = true) {σ0 σ : Sig} {ρ : Env} {h : Hp} (hfr : ∀ b, nx0 ≤ b → σ0 b = none) (hle : Le σ0 σ)
  (he : ER σ eb ρ) (hh : HR P G h0 σ HB h) : ∃ τ, Le σ0 τ ∧ ER τ ea ρ ∧ HR P G h0 τ HA h := by
 unfold oneX at hs
 simp only [Bool.and_eq_true] at hs
 obtain ⟨⟨⟨⟨⟨⟨s1, s2⟩, s3⟩, s4⟩, s5⟩, s6⟩, s7⟩ := hs
 have hnx := Nat.eq_of_beq_eq_true s1
 have hG := Nat.le_of_ble_eq_true s2
 have hn0 := Nat.le_of_ble_eq_true s3
 have inv : ∀ b, b < HA.nx → pi (swapL (mapLg lb la)) (pi (mapLg lb la) b) = b ∧ pi (mapLg lb la) b < HA.nx ∧ pi (mapLg lb la) (pi (swapL (mapLg lb la)) b) = b ∧ pi (swapL (mapLg lb la)) b < HA.nx := by
  intro b hb
  have := ranB_get s4 b hb
  simp only [Bool.and_eq_true] at this
  exact ⟨Nat.eq_of_beq_eq_true this.1.1.1, by simpa [Nat.blt_eq] using this.1.1.2, Nat.eq_of_beq_eq_true this.1.2, by simpa [Nat.blt_eq] using this.2⟩
 have fix : ∀ b, b < nx0 → pi (swapL (mapLg lb la)) b = b := fun b hb => Nat.eq_of_beq_eq_true (ranB_get s5 b hb)
 generalize mapLg lb la = m at *
 generalize hm' : swapL m = m' at *
 let τ : Sig := fun a => if a < HA.nx then σ (pi m' a) else none
 have hp : ∀ b p, σ b = some p → τ (pi m b) = some p := by
  intro b p hb
  have hlt : b < HA.nx := by
   rcases Nat.lt_or_ge b HA.nx with h1 | h1
   ·exact h1
   ·rw [hh.fresh b (by omega)] at hb; cases hb
  obtain ⟨i1, i2, _, _⟩ := inv b hlt
  show (if pi m b < HA.nx then σ (pi m' (pi m b)) else none) = some p
  rw [if_pos i2, i1]; exact hb
 refine ⟨τ, ?_, ?_, ?_, ?_, ?_, hh.keep, ?_⟩
 ·intro b p hb
  have hlt : b < nx0 := by
   rcases Nat.lt_or_ge b nx0 with h1 | h1
   ·exact h1
   ·rw [hfr b h1] at hb; cases hb
  show (if b < HA.nx then σ (pi m' b) else none) = some p
  rw [if_pos (by omega), fix b hlt]; exact hle _ _ hb
 ·intro t x hx
  have := allT_get s7 hx
  simp only [Nat.one_mul, Nat.add_zero] at this
  split at this
  ·rename_i y hy
   obtain ⟨v, g1, g2⟩ := he t y hy
   exact ⟨v, g1, CV.eqr_VR hp _ _ _ this g2⟩
  ·cases this
 ·intro a o ho
  have := allT_get s6 ho
  simp only [Nat.one_mul, Nat.add_zero, Bool.and_eq_true] at this
  obtain ⟨q1, q2⟩ := this
  have hlt : a < HA.nx := by simpa [Nat.blt_eq] using q1
  split at q2
  ·rename_i o' ho'
   obtain ⟨p, x, g1, g2, g3⟩ := hh.obj _ _ ho'
   refine ⟨p, x, ?_, g2, COeq_ok hp q2 g3⟩
   show (if a < HA.nx then σ (pi m' a) else none) = some p
   rw [if_pos hlt]; exact g1
  ·cases q2
 ·intro a a' o o' p p' ga ga' hne hpa hpa'
  have q1 := allT_get s6 ga
  have q2 := allT_get s6 ga'
  simp only [Nat.one_mul, Nat.add_zero, Bool.and_eq_true] at q1 q2
  have l1 : a < HA.nx := by simpa [Nat.blt_eq] using q1.1
  have l2 : a' < HA.nx := by simpa [Nat.blt_eq] using q2.1
  have r1 := q1.2
  have r2 := q2.2
  split at r1
  ·rename_i b hb
   split at r2
   ·rename_i b' hb'
    have e1 : σ (pi m' a) = some p := by
     have : (if a < HA.nx then σ (pi m' a) else none) = some p := hpa
     rwa [if_pos l1] at this
    have e2 : σ (pi m' a') = some p' := by
     have : (if a' < HA.nx then σ (pi m' a') else none) = some p' := hpa'
     rwa [if_pos l2] at this
    refine hh.inj _ _ _ _ p p' hb hb' ?_ e1 e2
    intro e
    have i1 := (inv a l1).2.2.1
    have i2 := (inv a' l2).2.2.1
    rw [e] at i1
    exact hne (i1.symm.trans i2)
   ·cases r2
  ·cases r1
 ·intro b hb
  show (if b < HA.nx then σ (pi m' b) else none) = none
  rw [if_neg (by omega)]
 ·intro g hg
  obtain ⟨p, g1, g2⟩ := hh.glob g hg
  refine ⟨p, ?_, g2⟩
  show (if g < HA.nx then σ (pi m' g) else none) = some p
  rw [if_pos (by omega), fix g (by omega)]; exact g1
end Go.Ix

/-
 A function that defers one closure, which asks for a panic: what a call of it gives where nothing panics.
-/
set_option linter.unusedSimpArgs false
set_option linter.unusedVariables false
namespace Go.Hw
open Go
structure DefShape where
 r0 : Code
 td : Nat
 g : Nat
 caps : List Operand
 rest : Code
def mkOf (mk df : Oper) : Option (Nat × Nat × List Operand) :=
 match mk.dst, mk.op, mk.guard with
 | some td, .makeFunc (.func g) ⟨[]⟩ ⟨caps⟩, none => (match df.dst, df.op, df.guard with
  | none, .defer ⟨.value (.tmp t), ⟨[]⟩, _⟩, none => bif Nat.beq t td then some (td, g, caps) else none
  | _, _, _ => none)
 | _, _, _ => none
def defOf : Code → Option DefShape
 | .seq r0 (.seq (.region _ ⟨[mk, df]⟩ false) rest) => (match mkOf mk df with
  | some (td, g, caps) => some ⟨r0, td, g, caps, rest⟩
  | none => none)
 | _ => none
def rcOf (rc : Oper) : Option Nat :=
 match rc.dst, rc.op, rc.guard with
 | some tr, .call ⟨.builtin .recover, ⟨[]⟩, _⟩, none => some tr
 | _, _, _ => none
def recOf : Code → Option (Nat × Code)
 | .seq (.region _ ⟨[rc]⟩ false) rest => (match rcOf rc with
  | some tr => some (tr, rest)
  | none => none)
 | _ => none
theorem mkOf_some {mk df : Oper} {td g : Nat} {caps : List Operand} (h : mkOf mk df = some (td, g, caps)) :
  mk.dst = some td ∧ mk.op = .makeFunc (.func g) #[] ⟨caps⟩ ∧ mk.guard = none ∧ df.dst = none ∧ (∃ ts, df.op = .defer ⟨.value (.tmp td), #[], ts⟩) ∧ df.guard = none := by
 unfold mkOf at h
 split at h
 ·rename_i h1 h2 h3
  split at h
  ·rename_i t ts h4 h5 h6
   cases hb : Nat.beq t _ with
   | false => rw [hb] at h; cases h
   | true =>
    rw [hb] at h
    have := Nat.eq_of_beq_eq_true hb
    subst this
    cases h
    exact ⟨h1, h2, h3, h4, ⟨_, h5⟩, h6⟩
  ·cases h
 ·cases h
theorem rcOf_some {rc : Oper} {tr : Nat} (h : rcOf rc = some tr) : rc.dst = some tr ∧ (∃ ts, rc.op = .call ⟨.builtin .recover, #[], ts⟩) ∧ rc.guard = none := by
 unfold rcOf at h
 split at h
 ·rename_i h1 h2 h3
  cases h
  exact ⟨h1, ⟨_, h2⟩, h3⟩
 ·cases h
theorem defOf_some {c : Code} {S : DefShape} (h : defOf c = some S) : ∃ id mk df, c = .seq S.r0 (.seq (.region id #[mk, df] false) S.rest) ∧ mkOf mk df = some (S.td, S.g, S.caps) := by
 unfold defOf at h
 split at h
 ·split at h
  ·rename_i hm
   cases h
   exact ⟨_, _, _, rfl, hm⟩
  ·cases h
 ·cases h
theorem recOf_some {c : Code} {tr : Nat} {r : Code} (h : recOf c = some (tr, r)) : ∃ id rc, c = .seq (.region id #[rc] false) r ∧ rcOf rc = some tr := by
 unfold recOf at h
 split at h
 ·split at h
  ·rename_i hm
   cases h
   exact ⟨_, _, rfl, hm⟩
  ·cases h
 ·cases h
theorem ag0 {args : Array Value} {n : Nat} (hn : args.size ≤ n) : Ag n (env0 args) { tmps := args ++ Array.replicate (n - args.size) undef, defers := [] } := by
 refine ⟨?_, trivial, ?_⟩
 ·simp; omega
 ·intro t v ht
  obtain ⟨_, h2⟩ := argsE_get args.toList 0 t v ht
  have h3 : args[t]? = some v := by simpa using h2
  have hlt : t < args.size := (Array.getElem?_eq_some_iff.1 h3).1
  rw [Array.getElem?_append_left hlt]; exact h3
theorem callFunc_run {P : Program} {E : Nat → Bool} (hE : EnterOk P E) {g : Nat} (hg : E g = true) (args : Array Value) (w : World) : (callFunc g args).run P w = .ok (.enter g args) w := by
 obtain ⟨fn, h1, h2, h3⟩ := hE g hg
 unfold callFunc
 refine (Sem.run_bind' P _ _ w).trans ?_
 have hb : fn.body ≠ none := by intro q; rw [q] at h2; cases h2
 have hnm : fn.name ≠ "runtime.NumGoroutine" := by simpa using h3
 simp [program, Sem.run, h1, hb, hnm]
theorem calls_of_defer {P : Program} {E : Nat → Bool} (hE : EnterOk P E) {f : FuncId} {fn gn : Func} {c gc : Code} {S : DefShape} {tr : Nat} {grest : Code} {args : Array Value} {h : Hp} {K : Value → Hp → Prop}
  (hgE : E S.g = true) (hf : P.funcs[f]? = some fn) (hb : fn.body = some c) (hd : defOf c = some S) (hg : P.funcs[S.g]? = some gn) (hgb : gn.body = some gc) (hr : recOf gc = some (tr, grest)) (hgr : gn.results = #[])
  (hn : args.size ≤ fn.ntmps) (htd : S.td < fn.ntmps) (hgn : S.caps.length ≤ gn.ntmps) (htr : tr < gn.ntmps)
  (hD : D P fn.ntmps S.r0 (env0 args) h (fun e ρ h1 => e = .normal ∧ okAll ρ S.caps = true ∧
   D P fn.ntmps S.rest (putd ρ (some S.td) (.func (.func S.g) #[] ⟨S.caps.map (evD ρ)⟩)) h1 (fun e2 ρ2 h2 => (e2 = .normal ∨ e2 = .ret) ∧
    D P gn.ntmps grest (putd (env0 ⟨S.caps.map (evD ρ)⟩) (some tr) .nilIface) h2 (fun e3 _ h3 => (e3 = .normal ∨ e3 = .ret) ∧ resM P h3 fn.results.toList ρ2 [] fun l => K (resV l) h3)))) :
  HCalls P f args h K := by
 intro w hw
 refine calls_of_wp_defers hf hb ?_
 obtain ⟨id, mk, df, rfl, hmk⟩ := defOf_some hd
 obtain ⟨m1, m2, m3, d1, ⟨ts, d2⟩, d3⟩ := mkOf_some hmk
 obtain ⟨jd, rc, rfl, hrc⟩ := recOf_some hr
 obtain ⟨r1, ⟨ts2, r2⟩, r3⟩ := rcOf_some hrc
 refine wp_seq (wp_mono (hD _ w (ag0 hn) hw) ?_)
 rintro e a1 w1 ⟨ρ1, g1, g2, rfl, hok, hrest⟩
 have hmap : S.caps.map a1.eval = S.caps.map (evD ρ1) := List.map_congr_left fun x hx => g1.evD (okAll_mem hok x hx)
 generalize hv : (Value.func (.func S.g) #[] ⟨S.caps.map (evD ρ1)⟩) = v at hrest
 have g3 := g1.put (d := some S.td) (by simpa [okDst] using htd) v
 show (Code.seq (.region id #[mk, df] false) S.rest).wp P _ a1 w1
 refine wp_seq (wp_region ?_)
 have e1 : (execOp a1.eval mk).run P w1 = .ok (.value v) w1 := by
  unfold execOp
  rw [m2]
  subst hv
  simp only [Instr.makeFunc]
  have : (⟨S.caps⟩ : Array Operand).map a1.eval = ⟨S.caps.map (evD ρ1)⟩ := by rw [← hmap]; simp
  rw [this]
  have : (#[] : Array Operand).map a1.eval = #[] := by simp
  rw [this]
  rfl
 have wmk : ∀ y, Region.wanted mk y = true := fun y => by simp [Region.wanted, m3]
 have wdf : ∀ y, Region.wanted df y = true := fun y => by simp [Region.wanted, d3]
 show wpOps P #[mk, df] _ [0, 1] a1 w1
 simp only [wpOps, List.getElem?_toArray, List.getElem?_cons_zero, List.getElem?_cons_succ, wmk, wdf, if_true]
 left
 unfold Oper.wp
 rw [e1, Oper.upon_value, m1]
 left
 have ev2 : (a1.put (some S.td) v).eval (.tmp S.td) = v := g3.ev (x := .tmp S.td) (by show putd ρ1 (some S.td) v S.td = some v; simp [putd])
 have e2 : (execOp (a1.put (some S.td) v).eval df).run P w1 = .ok (.defer ⟨.fn (.func S.g) ⟨S.caps.map (evD ρ1)⟩, #[]⟩) w1 := by
  unfold execOp
  rw [d2]
  simp only [resolve]
  rw [ev2]
  subst hv
  have me : ∀ F : Operand → Value, (#[] : Array Operand).map F = #[] := fun F => by simp
  rw [me]
  have ap : (#[] : Array Value) ++ #[] = #[] := by simp
  show Result.ok (Next.defer ⟨.fn (.func S.g) ⟨S.caps.map (evD ρ1)⟩, #[] ++ #[]⟩) w1 = _
  rw [ap]
 rw [e2, Oper.upon_defer, d1]
 show S.rest.wp P _ { (a1.put (some S.td) v) with defers := ⟨.fn (.func S.g) ⟨S.caps.map (evD ρ1)⟩, #[]⟩ :: (a1.put (some S.td) v).defers } w1
 have hdef : (a1.put (some S.td) v).defers = [] := g2.2.1
 rw [hdef]
 refine wp_mono (hrest _ w1 ⟨g3.1, trivial, g3.2.2⟩ rfl) ?_
 rintro e3 a3 w3 ⟨ρ3, k1, k2, he3, hgD⟩
 have hds : a3.defers = [⟨.fn (.func S.g) ⟨S.caps.map (evD ρ1)⟩, #[]⟩] := k2.2.1
 have key : Leaves P fn a3.tmps (fun e w' => ∃ v, e = .returned v ∧ K v (hpOf w') ∧ Kp w w') a3.defers .returning w3 := by
  rw [hds]
  refine leaves_cons (by intro q; cases q) (f := S.g) (args := ⟨S.caps.map (evD ρ1)⟩) ?_ ?_
  ·show (callFunc S.g (#[] ++ ⟨S.caps.map (evD ρ1)⟩)).run P w3 = _
   rw [callFunc_run hE hgE]
   simp
  ·refine callsD_of_wpS hg hgb ?_
   intro c₀ cs hc₀
   refine wpS_seq (wpS_region ?_)
   have wrc : ∀ y, Region.wanted rc y = true := fun y => by simp [Region.wanted, r3]
   show wpOpsS P #[rc] _ [0] _ _ w3
   have e4 : ∀ ρ, (execOp ρ rc).run P w3 = .ok .recover w3 := by
    intro ρ
    unfold execOp
    rw [r2]
    rfl
   have hrec : recoverD (c₀ :: cs) = none := by simp [recoverD, hc₀]
   simp only [wpOpsS, List.getElem?_toArray, List.getElem?_cons_zero, wrc, if_true, e4, hrec]
   show grest.wpS P _ _ _ w3
   refine wpS_of_wp ?_
   have ga := ag0 (args := ⟨S.caps.map (evD ρ1)⟩) (n := gn.ntmps) (by simpa using hgn)
   have gb := ga.put (d := some tr) (by simpa [okDst] using htr) .nilIface
   rw [r1]
   refine wp_mono (hgD _ w3 gb rfl) ?_
   rintro e5 a5 w5 ⟨ρ5, q1, q2, he5, hres⟩
   have q3 : a5.defers = [] := q2.2.1
   obtain ⟨l, hl, hrun⟩ := results_M P fn ρ3 a3 _ k1 w5 _ hres
   have ends : a5.defers = [] ∧ ∃ u', (c₀ :: cs) = { c₀ with mode := u' } :: cs ∧ ∃ v, (results gn a5.tmps).run P w5 = .ok v w5 ∧ Leaves P fn a3.tmps (fun e w' => ∃ v, e = .returned v ∧ K v (hpOf w') ∧ Kp w w') [] (settle u') w5 := by
    refine ⟨q3, .returning, by rw [← hc₀], ?_⟩
    obtain ⟨l2, _, hrun2⟩ := results_M P gn ρ5 a5 _ q1 w5 (fun _ => True) (by rw [hgr]; exact trivial)
    refine ⟨_, hrun2, ?_⟩
    exact ⟨_, hrun, _, rfl, hl, g2.2.2.trans (k2.2.2.trans q2.2.2)⟩
   rcases he5 with rfl | rfl <;> exact ends
 rcases he3 with rfl | rfl <;> exact key
end Go.Hw

/-
 Code of the small machine: regions, loops, calls; what it reckons to 'true' holds of the machine's own walk.
-/
set_option linter.unusedSimpArgs false
set_option linter.unusedVariables false
namespace Go.Ix
open Go Go.Hw
class Both (R : Type) where
 an : R → R → R
instance : Both Bool := ⟨fun a b => a && b⟩
instance : Both Nat := ⟨fun a b => bif Nat.beq a 0 then b else a⟩
instance {α : Type} : Both (Option α) := ⟨fun a _ => a⟩
section
variable {R : Type} [Both R]
def entB (P : Program) (g : Nat) : Bool := match P.funcs[g]? with
 | some fn => (match fn.body with | some _ => true | none => false) && !(fn.name == "runtime.NumGoroutine")
 | none => false
theorem entB_ok (P : Program) : EnterOk P (entB P) := by
 intro f hf
 unfold entB at hf
 split at hf
 ·rename_i fn hfn
  simp only [Bool.and_eq_true, Bool.not_eq_true'] at hf
  refine ⟨fn, hfn, ?_, hf.2⟩
  cases hb : fn.body with
  | none => rw [hb] at hf; simp at hf
  | some c => rfl
 ·cases hf
abbrev Call (R : Type) := Nat → List CV → CH → (CV → CH → R) → R
def vksOk (P : Program) : List TypeId → List CV → Bool
 | [], [] => true
 | t :: l, x :: m => vkOk P t x && vksOk P l m
 | _, _ => false
def rsOk (P : Program) (t : TypeId) (x : CV) : Bool :=
 match P.underlying t with
 | some (.tuple ⟨[]⟩) => true
 | some (.tuple ⟨ts⟩) => match x with
  | .tup l => vksOk P ts l
  | _ => false
 | _ => vkOk P t x
def invX (P : Program) (name : String) (t : TypeId) : Option Nat := match P.info? t with
 | some i => match i.methods.find? (·.name == name) with
  | some m => match m.path.toList, m.func with
   | [], some (f, pr) => match P.underlying t with
    | some (.pointer _) => bif pr then some f else none
    | some _ => bif pr then none else some f
    | none => none
   | _, _ => none
  | none => none
 | none => none
def allK (fl : Nat → R) (k : CV → CH → R) : List (CV × CH) → R
 | [] => fl 21
 | [(y, H')] => k y H'
 | (y, H') :: z :: l => Both.an (k y H') (allK fl k (z :: l))
def tagO : Op → Nat
 | .move _ => 1 | .assign _ => 2 | .pick .. => 3 | .alloc _ => 4 | .box .. => 5 | .build .. => 6 | .buildSlice .. => 7 | .insert .. => 8 | .load .. => 9 | .store .. => 10
 | .nilCheck _ => 11 | .binOp .. => 12 | .unOp .. => 13 | .convert .. => 14 | .makeInterface .. => 15 | .makeFunc .. => 16 | .makeMap .. => 17 | .makeSlice .. => 18 | .slice .. => 19 | .fieldAddr .. => 20
 | .field .. => 21 | .indexAddr .. => 22 | .index .. => 23 | .lookup .. => 24 | .mapUpdate .. => 25 | .mapEntry .. => 26 | .entryStore .. => 27 | .range .. => 28 | .next .. => 29 | .entry _ => 30
 | .typeAssert .. => 31 | .extract .. => 32 | .call ⟨.builtin .append, _, _⟩ => 41 | .call ⟨.builtin .copy, _, _⟩ => 42 | .call ⟨.builtin .len, _, _⟩ => 43 | .call ⟨.builtin _, _, _⟩ => 44 | .call ⟨.invoke .., _, _⟩ => 45 | .call _ => 46
 | .panic _ => 47 | .sliceToArrayPointer .. => 48 | .ready _ => 49 | .waits _ => 50
 | _ => 51
def opX (fl : Nat → R) (P : Program) (G : Nat) (call : Call R) (o : Oper) (env : CE) (H : CH) (k : CV → CH → R) : R :=
 match vX P G H env o with
 | some y => k y H
 | none => match eX P G H env o with
  | some (y, H') => k y H'
  | none => match o.op with
   | .call ⟨.value f, args, _⟩ => match evC G env f with
    | some (.fn g fs cs) => match evCs G env args.toList with
     | some vs => bif entB P g then call g (fs ++ (vs ++ cs)) H fun y H' => bif rsOk P o.type y then k y H' else fl 1
       else (match exOf P g with
       | some e => match extX e H (fs ++ (vs ++ cs)) with
        | some y => bif rsOk P o.type y then k y H else fl 1
        | none => fl 20
       | none => fl (1000 + g))
     | none => fl 2
    | _ => fl 3
   | .call ⟨.invoke r name, args, _⟩ => match evC G env r with
    | some (.ifc t x) => match evCs G env args.toList with
     | some vs => match invX P name t with
      | some g => bif entB P g then call g (x :: vs) H k else fl (1000 + g)
      | none => fl 24
     | none => fl 2
    | _ => fl 25
   | .entry x => match evC G env x with
    | some x => match entX H x with
     | some y => k y H
     | none => fl 23
    | none => fl 2
   | .next x false => match evC G env x with
    | some x => match mnX H x with
     | some l => allK fl k l
     | none => fl 22
    | none => fl 2
   | _ => fl (2000 + tagO o.op)
def gdX (l : List Oper) (j : Nat) (env : CE) : Option (Option Bool) := match gdstL l j with
 | some d => match env.get d with
  | some (.bool c) => some (some c)
  | some (.tup _) => some none
  | _ => none
 | none => none
def stepX (fl : Nat → R) (P : Program) (G : Nat) (call : Call R) (n : Nat) (all : List Oper) (o : Oper) (env : CE) (H : CH) (k : CE → CH → R) : R :=
 bif okDst n o.dst then
  match o.guard with
  | none => opX fl P G call o env H fun y H' => k (putE env o.dst y) H'
  | some (j, want) => match gdX all j env with
   | some c => bif gEq c want then opX fl P G call o env H fun y H' => k (putE env o.dst y) H' else k (putE env o.dst (.tup [])) H
   | none => fl 5
 else fl 6
def opsX (fl : Nat → R) (P : Program) (G : Nat) (call : Call R) (n : Nat) (all : List Oper) : List Oper → CE → CH → (CE → CH → R) → R
 | [], env, H, k => k env H
 | o :: l, env, H, k => stepX fl P G call n all o env H fun env' H' => opsX fl P G call n all l env' H' k
abbrev WX := List (Nat × Oper × CE × CV)
def chkW (P : Program) (G : Nat) (m : Nat) (H : CH) : WX → Bool
 | [] => true
 | (i, o, env, y) :: W => (bit m i || (match vX P G H env o with
  | some z => CV.eq y z
  | none => false)) && chkW P G m H W
def dDX (fl : Nat → R) (P : Program) (G : Nat) (call : Call R) (n : Nat) (all : List Oper) (M : List Nat) : WX → List Nat → CE → CH → (CE → CH → R) → R
 | _, [], env, H, k => k env H
 | W, i :: l, env, H, k =>
  match all[i]? with
  | none => fl 7
  | some o => match clsO P o with
   | .pure => stepX fl P G call n all o env H fun env' H' => dDX fl P G call n all M W l env' H' k
   | .eff => stepX fl P G call n all o env H fun env' H' => bif chkW P G (M.getD i 0) H' W then dDX fl P G call n all M W l env' H' k else fl 8
   | .read => bif okDst n o.dst then
     match o.guard with
     | none => match vX P G H env o with
      | some y => dDX fl P G call n all M ((i, o, env, y) :: W) l (putE env o.dst y) H k
      | none => fl 9
     | some (j, want) => match gdX all j env with
      | some c => bif gEq c want then (match vX P G H env o with
        | some y => dDX fl P G call n all M ((i, o, env, y) :: W) l (putE env o.dst y) H k
        | none => fl 9) else dDX fl P G call n all M W l (putE env o.dst (.tup [])) H k
      | none => fl 5
    else fl 6
def pickO (P : Program) (done : Nat) (M : List Nat) (any : Bool) : List Oper → Nat → Option Nat
 | [], _ => none
 | o :: l, i => bif !bit done i && (Nat.beq (Nat.land (M.getD i 0) done) (M.getD i 0) && (any || (match clsO P o with | .eff => false | _ => true))) then some i else pickO P done M any l (i + 1)
def ordX (P : Program) (ops : List Oper) (M : List Nat) : Nat → Nat → List Nat
 | 0, _ => []
 | f + 1, done => match pickO P done M false ops 0 with
  | some i => i :: ordX P ops M f (Nat.lor done (Nat.shiftLeft 1 i))
  | none => match pickO P done M true ops 0 with
   | some i => i :: ordX P ops M f (Nat.lor done (Nat.shiftLeft 1 i))
   | none => []
def valG (P : Program) (G n : Nat) (all : List Oper) (o : Oper) (env : CE) (H : CH) : Option CV :=
 bif okDst n o.dst then
  match o.guard with
  | none => vX P G H env o
  | some (j, want) => match gdX all j env with
   | some c => bif gEq c want then vX P G H env o else some (.tup [])
   | none => none
 else none
def chkT (P : Program) (G n : Nat) (all : List Oper) (m : Nat) (H : CH) : WX → Bool
 | [] => true
 | (i, o, env, y) :: W => (bit m i || (match valG P G n all o env H with
  | some z => CV.eq y z
  | none => false)) && chkT P G n all m H W
def rdB (done : Nat) (o : Oper) (i : Nat) : Bool := !bit done i && (o.after.toList.all fun e => !Region.binds .any e || bit done e.on)
def pickT (P : Program) (done : Nat) : List Oper → Nat → Option Nat
 | [], _ => none
 | o :: l, i => bif rdB done o i && (match clsO P o with | .eff => false | _ => true) then some i else pickT P done l (i + 1)
def effsT (done : Nat) : List Oper → Nat → List Nat
 | [], _ => []
 | o :: l, i => bif rdB done o i then i :: effsT done l (i + 1) else effsT done l (i + 1)
def allI (run : Nat → R) : Nat → List Nat → R
 | i, [] => run i
 | i, j :: r => Both.an (run i) (allI run j r)
def treeX (fl : Nat → R) (P : Program) (G : Nat) (call : Call R) (n : Nat) (all : List Oper) (M : List Nat) (one : Bool) : Nat → Nat → WX → Lg → CE → CH → (Lg → CE → CH → R) → R
 | 0, done, _, lg, env, H, k => (match pickT P done all 0, effsT done all 0 with
  | none, [] => k lg env H
  | _, _ => fl 31)
 | f + 1, done, W, lg, env, H, k => (match pickT P done all 0 with
  | some i => (match all[i]? with
   | none => fl 7
   | some o => (match valG P G n all o env H with
    | some y => (match clsO P o with
     | .pure => treeX fl P G call n all M one f (Nat.lor done (Nat.shiftLeft 1 i)) W lg (putE env o.dst y) H k
     | .read => treeX fl P G call n all M one f (Nat.lor done (Nat.shiftLeft 1 i)) ((i, o, env, y) :: W) lg (putE env o.dst y) H k
     | .eff => fl 7)
    | none => fl 9))
  | none => (match effsT done all 0 with
   | [] => k lg env H
   | i :: r =>
    let run : Nat → R := fun i => (match all[i]? with
     | none => fl 7
     | some o => (match clsO P o with
      | .eff => stepX fl P G call n all o env H fun env' H' => bif chkT P G n all (M.getD i 0) H' W then treeX fl P G call n all M one f (Nat.lor done (Nat.shiftLeft 1 i)) W ((i, H.nx, H'.nx) :: lg) env' H' k else fl 8
      | _ => fl 7))
    bif one then run i else allI run i r))
abbrev Tre (R : Type) := Call R → Nat → List Oper → CE → CH → (CE → CH → R) → R
def tree1 (fl : Nat → R) (P : Program) (G : Nat) : Tre R := fun call n ops env H k => treeX fl P G call n ops (masks ops []) true ops.length 0 [] [] env H fun _ e h => k e h
def regX (fl : Nat → R) (P : Program) (G : Nat) (tr : Tre R) (call : Call R) (n : Nat) (ops : List Oper) (draw : Bool) (env : CE) (H : CH) (k : CE → CH → R) : R :=
 bif draw then
  (bif orderGood P ops (ordX P ops (masks ops []) ops.length 0) then dDX fl P G call n ops (masks ops []) [] (ordX P ops (masks ops []) ops.length 0) env H k else tr call n ops env H k)
 else opsX fl P G call n ops ops env H k
def loopX (fl : Nat → R) (body : CE → CH → (Exit → CE → CH → R) → R) : Nat → CE → CH → (Exit → CE → CH → R) → R
 | 0, _, _, _ => fl 11
 | m + 1, env, H, k => body env H fun e env' H' => match e with
  | .normal => loopX fl body m env' H' k
  | .exit i => k (.exit i) env' H'
  | .goto l => k (.goto l) env' H'
  | .ret => k .ret env' H'
  | _ => fl 12
def cX (fl : Nat → R) (P : Program) (G : Nat) (tr : Tre R) (call : Call R) (lf : Nat) (n : Nat) : Code → CE → CH → (Exit → CE → CH → R) → R
 | .skip, env, H, k => k .normal env H
 | .region _ ops draw, env, H, k => regX fl P G tr call n ops.toList draw env H fun env' H' => k .normal env' H'
 | .seq x y, env, H, k => cX fl P G tr call lf n x env H fun e env' H' => match e with
  | .normal => cX fl P G tr call lf n y env' H' k
  | .exit i => k (.exit i) env' H'
  | .goto l => k (.goto l) env' H'
  | .ret => k .ret env' H'
  | _ => fl 12
 | .cond c x y, env, H, k => match evC G env c with
  | some (.bool b) => bif b then cX fl P G tr call lf n x env H k else cX fl P G tr call lf n y env H k
  | _ => fl 13
 | .block id c, env, H, k => cX fl P G tr call lf n c env H fun e env' H' => match e with
  | .normal => k .normal env' H'
  | .exit i => bif Nat.beq i id then k .normal env' H' else k (.exit i) env' H'
  | .goto l => k (.goto l) env' H'
  | .ret => k .ret env' H'
  | _ => fl 12
 | .scope c, env, H, k => cX fl P G tr call lf n c env H fun e env' H' => match e with
  | .normal => k .normal env' H'
  | .exit i => k (.exit i) env' H'
  | .ret => k .ret env' H'
  | _ => fl 12
 | .loop c, env, H, k => loopX fl (cX fl P G tr call lf n c) lf env H k
 | .exit id, env, H, k => k (.exit id) env H
 | .label _, env, H, k => k .normal env H
 | .ret, env, H, k => k .ret env H
 | _, _, _, _ => fl 14
def argsX : Nat → List CV → CE
 | _, [] => .leaf
 | i, x :: l => (argsX (i + 1) l).set i (some x)
def resX (P : Program) (H : CH) (env : CE) : List ResultVar → Option (List CV)
 | [] => some []
 | .tmp t :: r => match env.get t, resX P H env r with
  | some x, some l => some (x :: l)
  | _, _ => none
 | .cell a t :: r => match env.get a with
  | some (.ptr b o) => bif (P.underlying t).isSome then (match ldX P H t b o, resX P H env r with
   | some x, some l => some (x :: l)
   | _, _ => none) else none
  | _ => none
def resC : List CV → CV
 | [x] => x
 | l => .tup l
def endE : Exit → Bool
 | .normal => true
 | .ret => true
 | _ => false
def dfX (fl : Nat → R) (P : Program) (G : Nat) (run : Nat → Code → CE → CH → (Exit → CE → CH → R) → R) (fn : Func) (S : DefShape) (args : List CV) (H : CH) (k : CV → CH → R) : R :=
 match P.funcs[S.g]? with
 | some gn => (match gn.body with
  | some gc => (match recOf gc with
   | some (tr, grest) =>
    bif Nat.beq gn.results.toList.length 0 && (Nat.blt S.td fn.ntmps && (Nat.ble S.caps.length gn.ntmps && (Nat.blt tr gn.ntmps && entB P S.g))) then
     run fn.ntmps S.r0 (argsX 0 args) H fun e env1 H1 => (match e with
     | .normal => (match evCs G env1 S.caps with
      | some cs => run fn.ntmps S.rest (putE env1 (some S.td) (.fn S.g [] cs)) H1 fun e2 env2 H2 => bif endE e2 then
        (run gn.ntmps grest (putE (argsX 0 cs) (some tr) .nili) H2 fun e3 _ H3 => bif endE e3 then
         (match resX P H3 env2 fn.results.toList with
         | some l => k (resC l) H3
         | none => fl 16) else fl 12) else fl 12
      | none => fl 2)
     | _ => fl 12)
    else fl 32
   | none => fl 33)
  | none => fl 18)
 | none => fl 19
def callX (fl : Nat → R) (P : Program) (G : Nat) (tr : Tre R) (lf : Nat) : Nat → Call R
 | 0, _, _, _, _ => fl 15
 | m + 1, g, args, H, k => match P.funcs[g]? with
  | some fn => match fn.body with
   | some c => bif Nat.ble args.length fn.ntmps then (match defOf c with
    | some S => dfX (fun i => fl (i + 10000 * g)) P G (fun n c => cX (fun i => fl (i + 10000 * g)) P G tr (callX fl P G tr lf m) lf n c) fn S args H k
    | none => cX (fun i => fl (i + 10000 * g)) P G tr (callX fl P G tr lf m) lf fn.ntmps c (argsX 0 args) H fun e env' H' =>
     (match e with
     | .normal => (match resX P H' env' fn.results.toList with
      | some l => k (resC l) H'
      | none => fl 16)
     | .ret => (match resX P H' env' fn.results.toList with
      | some l => k (resC l) H'
      | none => fl 16)
     | _ => fl 12)) else fl 17
   | none => fl 18
  | none => fl 19
end
section
variable {P : Program} {G : Nat} {h0 : Hp}
abbrev no : Nat → Bool := fun _ => false
def CallOk (P : Program) (G : Nat) (h0 : Hp) (call : Call Bool) : Prop := ∀ g args H k, call g args H k = true → ∀ σ h vs, VRs σ args vs → HR P G h0 σ H h →
 ∀ K : Value → Hp → Prop, (∀ σ' y v H' h', Le σ σ' → VR σ' y v → HR P G h0 σ' H' h' → k y H' = true → K v h') → HCalls P g ⟨vs⟩ h K
theorem vkOk_VT {t : TypeId} {σ : Sig} {x : CV} {v : Value} (hk : vkOk P t x = true) (hr : VR σ x v) {F : (vtOf P t).T → Prop} (hf : ∀ y, (vtOf P t).mk y = v → F y) : (vtOf P t).on (some v) F := by
 unfold vkOk at hk
 generalize vtOf P t = vt at hk F hf ⊢
 split at hk
 ·exact kOk_on (F := F) hk hr hf
 ·split at hk
  ·unfold VR at hr; obtain ⟨vs, rfl, hvs⟩ := hr
   exact ksOk_on hk hvs fun y hy => hf y (by show Value.agg ⟨TL.mk _ y⟩ = _; rw [hy])
  ·cases hk
theorem vksOk_on {σ : Sig} : ∀ {ts : List TypeId} {l : List CV} {vs : List Value} {F : TVs (mapT (vtOf P) ts) → Prop}, vksOk P ts l = true → VRs σ l vs → (∀ y, TVs.mk (mapT (vtOf P) ts) y = vs → F y) → TVs.on (mapT (vtOf P) ts) vs F
 | [], l, vs, F, hk, hv, hf => by
  cases l with
  | nil => unfold VRs at hv; subst hv; exact hf () rfl
  | cons => cases hk
 | [t], l, vs, F, hk, hv, hf => by
  rcases l with _ | ⟨x, _ | ⟨y, l⟩⟩
  ·cases hk
  ·unfold VRs at hv; obtain ⟨v, r, rfl, h1, h2⟩ := hv
   unfold VRs at h2; subst h2
   simp only [vksOk, Bool.and_true] at hk
   exact vkOk_VT hk h1 fun y hy => hf y (by simp [TVs.mk, mapT, hy])
  ·simp [vksOk] at hk
 | t :: u :: ts, l, vs, F, hk, hv, hf => by
  cases l with
  | nil => cases hk
  | cons x l =>
   unfold VRs at hv; obtain ⟨v, r, rfl, h1, h2⟩ := hv
   simp only [vksOk, Bool.and_eq_true] at hk
   refine vkOk_VT hk.1 h1 fun y hy => ?_
   have hk2 : vksOk P (u :: ts) l = true := by
    cases l with
    | nil => simp [vksOk] at hk
    | cons => simpa [vksOk] using hk.2
   exact vksOk_on (ts := u :: ts) hk2 h2 fun z hz => hf (y, z) (by
    show (vtOf P t).mk y :: TVs.mk (mapT (vtOf P) (u :: ts)) z = _
    rw [hy, hz])
theorem rsOk_ok {t : TypeId} {σ : Sig} {x : CV} {v : Value} (hk : rsOk P t x = true) (hr : VR σ x v) {F : Value → Prop} (hf : F v) : resOn P t v F := by
 unfold rsOk at hk
 unfold resOn
 split at hk
 ·rename_i hu; rw [hu]; exact hf
 ·rename_i ts hn hu
  rw [hu]; simp only []
  split at hk
  ·unfold VR at hr; obtain ⟨vs, rfl, hvs⟩ := hr
   unfold tupOn; simp only []
   exact vksOk_on hk hvs fun y hy => by rw [hy]; exact hf
  ·cases hk
 ·rename_i h1 h2
  split
  ·rename_i hu; exact absurd hu h1
  ·rename_i ts hts hu; exact absurd hu (h2 ts)
  ·exact vkOk_VT hk hr fun y hy => by rw [hy]; exact hf
theorem allK_ok {k : CV → CH → Bool} : ∀ {l : List (CV × CH)}, allK no k l = true → ∀ y H', (y, H') ∈ l → k y H' = true
 | [], h, y, H', hm => by cases hm
 | [(a, A)], h, y, H', hm => by
  rw [List.mem_singleton] at hm; cases hm; exact h
 | (a, A) :: z :: l, h, y, H', hm => by
  have h2 : (k a A && allK no k (z :: l)) = true := h
  rw [Bool.and_eq_true] at h2
  cases hm with
  | head => exact h2.1
  | tail _ hm => exact allK_ok h2.2 y H' hm
theorem invX_ok {name : String} {t : TypeId} {g : Nat} (hi : invX P name t = some g) {v : Value} {h : Hp} {n : Nat} {K : FuncId × Value → Hp → Prop} (hK : K (g, v) h) : swp P (method (n + 1) t v name) h K := by
 unfold invX at hi
 split at hi
 ·rename_i i hinf
  split at hi
  ·rename_i m hm
   split at hi
   ·rename_i f pr hp hf
    unfold method
    rw [swp_bind']
    refine typeInfo_swp hinf ?_
    rw [hm]
    simp only [hp, swp_bind']
    unfold follow
    rw [swp_pure]
    simp only [hf, swp_bind']
    split at hi
    ·rename_i e hu
     cases pr with
     | false => cases hi
     | true =>
      cases hi
      unfold receiverAt
      rw [swp_bind']
      refine underlying_swp hu ?_
      exact hK
    ·rename_i d hn hu
     cases pr with
     | true => cases hi
     | false =>
      cases hi
      unfold receiverAt
      rw [swp_bind']
      refine underlying_swp hu ?_
      cases d <;> first | exact hK | exact absurd rfl (hn _)
    ·cases hi
   ·cases hi
  ·cases hi
 ·cases hi
theorem opX_ok {call : Call Bool} (hc : CallOk P G h0 call) {o : Oper} {env : CE} {H : CH} {k : CV → CH → Bool} (hx : opX no P G call o env H k = true) {σ : Sig} {ρ : Env} {h : Hp} (he : ER σ env ρ) (hh : HR P G h0 σ H h)
  {K : Value → Hp → Prop} (hK : ∀ σ' y v H' h', Le σ σ' → VR σ' y v → HR P G h0 σ' H' h' → k y H' = true → K v h') : opK P (entB P) o ρ h K := by
 unfold opX at hx
 split at hx
 ·rename_i y hy
  obtain ⟨v, h1, h2⟩ := vX_ok (E := entB P) he hh hy
  exact h2 K (hK σ y v H h (Le.refl σ) h1 hh hx)
 ·split at hx
  ·rename_i y H' hy
   exact eX_ok he hh hy fun σ' v h' hl hv hh' => hK σ' y v H' h' hl hv hh' hx
  ·split at hx
   ·rename_i f args ts ho
    split at hx
    ·rename_i g fs cs hf
     split at hx
     ·rename_i vs hvs
      obtain ⟨vf, f1, f2⟩ := evC_ok hf he hh
      obtain ⟨ws, w1, w2, w3, w4⟩ := evCs_ok he hh hvs
      unfold VR at f2; obtain ⟨xs, ys, rfl, x1, y1⟩ := f2
      unfold opK
      rw [ho]
      refine mv_ok f1 (w4 [] _ ?_)
      simp only [List.reverse_nil, List.nil_append]
      unfold callK HCallV
      simp only []
      cases hb : entB P g with
      | false =>
       rw [hb] at hx
       simp only [cond_false] at hx ⊢
       split at hx
       ·rename_i e he'
        split at hx
        ·rename_i y hy
         cases hrs : rsOk P o.type y with
         | false => rw [hrs] at hx; cases hx
         | true =>
          rw [hrs] at hx
          obtain ⟨v, v1, v2⟩ := ext_ok hh he' hy (x1.app (w1.app y1))
          exact v2 _ (rsOk_ok (F := fun v' => K v' h) hrs v1 (hK σ y v H h (Le.refl σ) v1 hh hx))
        ·cases hx
       ·cases hx
      | true =>
       rw [hb] at hx
       simp only [cond_true] at hx ⊢
       refine hc _ _ _ _ hx σ h _ (x1.app (w1.app y1)) hh _ ?_
       intro σ' y v H' h' hl hv hh' hky
       cases hrs : rsOk P o.type y with
       | false => rw [hrs] at hky; cases hky
       | true =>
        rw [hrs] at hky
        exact rsOk_ok (F := fun v' => K v' h') hrs hv (hK σ' y v H' h' hl hv hh' hky)
     ·cases hx
    ·cases hx
   ·rename_i r name args ts ho
    split at hx
    ·rename_i t x hrx
     split at hx
     ·rename_i vs hvs
      split at hx
      ·rename_i g hg
       cases hb : entB P g with
       | false => rw [hb] at hx; cases hx
       | true =>
        rw [hb] at hx
        simp only [cond_true] at hx
        obtain ⟨vr, f1, f2⟩ := evC_ok hrx he hh
        obtain ⟨ws, w1, w2, w3, _⟩ := evCs_ok he hh hvs
        unfold VR at f2; obtain ⟨xv, rfl, f3⟩ := f2
        unfold opK
        rw [ho]
        show someAny ρ P o h K
        unfold someAny
        have hokk : (okAll ρ o.op.operands.toList && !isSel o.op) = true := by
         rw [ho]
         simp only [Op.operands, Call.operands, isSel, Bool.not_false, Bool.and_true]
         have : okAll ρ (r :: args.toList) = true := by simp [okAll, (some1 f1).1, w2]
         simpa using this
        rw [hokk]
        show opS P o (evD ρ) h K
        unfold opS execOp
        rw [ho]
        simp only []
        have hres : resolve (evD ρ) ⟨.invoke r name, args, ts⟩ o.type = (pure { target := .fn (.method name) #[], args := #[.iface t xv] ++ args.map (evD ρ) } : Sem Deferred) := by
         unfold resolve; simp only [(some1 f1).2]
        rw [hres]
        show swp P (invoke (.fn (.method name) #[]) (#[.iface t xv] ++ args.map (evD ρ))) h (nextK P K)
        have hargs : (#[.iface t xv] ++ args.map (evD ρ) : Array Value) = ⟨.iface t xv :: ws⟩ := by apply Array.ext'; simp [w3]
        rw [hargs]
        have hinv : invoke (.fn (.method name) #[]) ⟨.iface t xv :: ws⟩ = callMethod (.iface t xv) name ⟨ws⟩ := by
         unfold invoke
         have e0 : (⟨.iface t xv :: ws⟩ : Array Value)[0]? = some (.iface t xv) := rfl
         simp only [e0]
         congr 1
         apply Array.ext'; simp
        rw [hinv]
        unfold callMethod
        simp only []
        rw [swp_bind', program_swp, swp_bind']
        have hd : P.types.size + Made.depth = (P.types.size + Made.depth - 1) + 1 := by
         have : 0 < Made.depth := by decide
         omega
        rw [hd]
        refine invX_ok hg ?_
        have ha : (#[xv] ++ ⟨ws⟩ : Array Value) = ⟨xv :: ws⟩ := by apply Array.ext'; simp
        simp only [ha]
        refine callFunc_swp (entB_ok P) hb ?_
        exact hc _ _ _ _ hx σ h _ (by unfold VRs; exact ⟨xv, ws, rfl, f3, w1⟩) hh _ hK
      ·cases hx
     ·cases hx
    ·cases hx
   ·rename_i x ho
    split at hx
    ·rename_i c hcx
     split at hx
     ·rename_i y hy
      obtain ⟨v, h1, h2⟩ := evC_ok hcx he hh
      obtain ⟨w, p, rfl, g1, g2⟩ := entX_ok (h := h) hh hy h2
      unfold opK
      rw [ho]
      exact mv_ok h1 (g2 K (hK σ y w H h (Le.refl σ) g1 hh hx))
     ·cases hx
    ·cases hx
   ·rename_i x ho
    split at hx
    ·rename_i c hcx
     split at hx
     ·rename_i l hl
      obtain ⟨v, h1, h2⟩ := evC_ok hcx he hh
      obtain ⟨p, rfl, hn⟩ := mnX_ok (K := K) hh hl h2 fun y H' hm v h' hv hh' => hK σ y v H' h' (Le.refl σ) hv hh' (allK_ok hx y H' hm)
      unfold opK
      rw [ho]
      exact mv_ok h1 hn
     ·cases hx
    ·cases hx
   ·cases hx
theorem gdX_ok {l : List Oper} {j : Nat} {env : CE} {σ : Sig} {ρ : Env} (he : ER σ env ρ) {c : Option Bool} (hg : gdX l j env = some c) {F : Option Bool → Env → Prop} (hF : F c ρ) : gK ρ (gdstL l j) F := by
 unfold gdX at hg
 unfold gK
 split at hg
 ·rename_i d hd
  rw [hd]; simp only []
  split at hg
  ·rename_i b hb
   cases hg
   obtain ⟨v, h1, h2⟩ := he d _ hb
   unfold VR at h2; subst h2
   rw [h1]; simp only []
   cases b
   ·simp only [cond_false]; rw [putd_same h1]; exact hF
   ·simp only [cond_true]; rw [putd_same h1]; exact hF
  ·rename_i b hb
   cases hg
   obtain ⟨v, h1, h2⟩ := he d _ hb
   unfold VR at h2; obtain ⟨vs, rfl, _⟩ := h2
   rw [h1]; exact hF
  ·cases hg
 ·cases hg
theorem stepX_ok {call : Call Bool} (hc : CallOk P G h0 call) {n : Nat} {all : List Oper} {o : Oper} {env : CE} {H : CH} {k : CE → CH → Bool} (hx : stepX no P G call n all o env H k = true) {σ : Sig} {ρ : Env} {h : Hp}
  (he : ER σ env ρ) (hh : HR P G h0 σ H h) {X : Env → Hp → Prop} (hX : ∀ σ' env' ρ' H' h', Le σ σ' → ER σ' env' ρ' → HR P G h0 σ' H' h' → k env' H' = true → X ρ' h') : denOp P (entB P) n all o ρ h X := by
 unfold stepX at hx
 cases hd : okDst n o.dst with
 | false => rw [hd] at hx; cases hx
 | true =>
  rw [hd] at hx
  simp only [cond_true] at hx
  unfold denOp
  cases hg : o.guard with
  | none =>
   rw [hg] at hx
   simp only [] at hx ⊢
   rw [hd]
   exact opX_ok hc hx he hh fun σ' y v H' h' hl hv hh' hk => hX σ' _ _ H' h' hl ((he.mono hl).put o.dst hv) hh' hk
  | some g =>
   obtain ⟨j, want⟩ := g
   rw [hg] at hx
   simp only [] at hx ⊢
   split at hx
   ·rename_i c hcg
    refine gdX_ok he hcg ?_
    rw [hd]
    simp only [cond_true]
    cases hq : gEq c want with
    | true =>
     rw [hq] at hx
     exact opX_ok hc hx he hh fun σ' y v H' h' hl hv hh' hk => hX σ' _ _ H' h' hl ((he.mono hl).put o.dst hv) hh' hk
    | false =>
     rw [hq] at hx
     exact hX σ _ _ H h (Le.refl σ) (he.put o.dst VR_undef) hh hx
   ·cases hx
theorem opsX_ok {call : Call Bool} (hc : CallOk P G h0 call) {n : Nat} {all : List Oper} : ∀ {l : List Oper} {env : CE} {H : CH} {k : CE → CH → Bool} (hx : opsX no P G call n all l env H k = true) {σ : Sig} {ρ : Env} {h : Hp}
  (he : ER σ env ρ) (hh : HR P G h0 σ H h) {X : Env → Hp → Prop} (hX : ∀ σ' env' ρ' H' h', Le σ σ' → ER σ' env' ρ' → HR P G h0 σ' H' h' → k env' H' = true → X ρ' h'), denOps P (entB P) n all l ρ h X := by
 intro l
 induction l with
 | nil => intro env H k hx σ ρ h he hh X hX; exact hX σ env ρ H h (Le.refl σ) he hh hx
 | cons o l ih =>
  intro env H k hx σ ρ h he hh X hX
  unfold denOps
  refine stepX_ok hc (show stepX no P G call n all o env H (fun env' H' => opsX no P G call n all l env' H' k) = true from hx) he hh ?_
  intro σ' env' ρ' H' h' hl he' hh' hk
  exact ih hk he' hh' fun σ'' env'' ρ'' H'' h'' hl' => hX σ'' env'' ρ'' H'' h'' (hl.trans hl')
def WR (P : Program) (σ : Sig) : WX → Watch → Prop
 | [], W => W = []
 | (i, o, env, y) :: r, W => ∃ ρ v W', W = (i, rechk P (entB P) o ρ v) :: W' ∧ ER σ env ρ ∧ VR σ y v ∧ WR P σ r W'
theorem WR.mono {σ σ' : Sig} (hs : Le σ σ') : ∀ {w : WX} {W : Watch}, WR P σ w W → WR P σ' w W := by
 intro w
 induction w with
 | nil => intro W h; exact h
 | cons a w ih =>
  intro W h
  obtain ⟨i, o, env, y⟩ := a
  unfold WR at h ⊢; obtain ⟨ρ, v, W', h1, h2, h3, h4⟩ := h
  exact ⟨ρ, v, W', h1, h2.mono hs, h3.mono hs _ _, ih h4⟩
theorem chkW_ok {m : Nat} {H : CH} {σ : Sig} {h : Hp} (hh : HR P G h0 σ H h) {X : Prop} (hX : X) : ∀ {w : WX} {W : Watch}, chkW P G m H w = true → WR P σ w W → andW m W h X := by
 intro w
 induction w with
 | nil => intro W _ hW; unfold WR at hW; subst hW; exact hX
 | cons a w ih =>
  intro W hc hW
  obtain ⟨i, o, env, y⟩ := a
  unfold WR at hW; obtain ⟨ρ, v, W', rfl, h2, h3, h4⟩ := hW
  simp only [chkW, Bool.and_eq_true, Bool.or_eq_true] at hc
  unfold andW
  cases hb : bit m i with
  | true => exact ih hc.2 h4
  | false =>
   rw [hb] at hc
   refine ⟨?_, ih hc.2 h4⟩
   have h5 := hc.1.resolve_left (by simp)
   split at h5
   ·rename_i z hz
    have := CV.eq_eq _ _ h5; subst this
    obtain ⟨v', g1, g2⟩ := vX_ok (E := entB P) h2 hh hz
    have := VR.one _ _ _ h3 g1; subst this
    exact g2 _ ⟨rfl, rfl⟩
   ·cases h5
theorem dDX_ok {call : Call Bool} (hc : CallOk P G h0 call) {n : Nat} {all : List Oper} {M : List Nat} : ∀ {l : List Nat} {w : WX} {env : CE} {H : CH} {k : CE → CH → Bool} (hx : dDX no P G call n all M w l env H k = true) {σ : Sig} {ρ : Env} {h : Hp} {W : Watch}
  (he : ER σ env ρ) (hh : HR P G h0 σ H h) (hw : WR P σ w W) {X : Env → Hp → Prop} (hX : ∀ σ' env' ρ' H' h', Le σ σ' → ER σ' env' ρ' → HR P G h0 σ' H' h' → k env' H' = true → X ρ' h'), dD P (entB P) n all M X W l ρ h := by
 intro l
 induction l with
 | nil => intro w env H k hx σ ρ h W he hh hw X hX; exact hX σ env ρ H h (Le.refl σ) he hh hx
 | cons i l ih =>
  intro w env H k hx σ ρ h W he hh hw X hX
  unfold dDX at hx
  unfold dD
  cases ho : all[i]? with
  | none => rw [ho] at hx; cases hx
  | some o =>
   rw [ho] at hx
   simp only [] at hx ⊢
   cases hcl : clsO P o with
   | pure =>
    rw [hcl] at hx
    simp only [] at hx ⊢
    refine stepX_ok hc hx he hh ?_
    intro σ' env' ρ' H' h' hl he' hh' hk
    exact ih hk he' hh' (hw.mono hl) fun σ'' env'' ρ'' H'' h'' hl' => hX σ'' env'' ρ'' H'' h'' (hl.trans hl')
   | eff =>
    rw [hcl] at hx
    simp only [] at hx ⊢
    refine stepX_ok hc hx he hh ?_
    intro σ' env' ρ' H' h' hl he' hh' hk
    cases hck : chkW P G (M.getD i 0) H' w with
    | false => rw [hck] at hk; cases hk
    | true =>
     rw [hck] at hk
     exact chkW_ok hh' (ih hk he' hh' (hw.mono hl) fun σ'' env'' ρ'' H'' h'' hl' => hX σ'' env'' ρ'' H'' h'' (hl.trans hl')) hck (hw.mono hl)
   | read =>
    rw [hcl] at hx
    simp only [] at hx ⊢
    cases hd : okDst n o.dst with
    | false => rw [hd] at hx; cases hx
    | true =>
     rw [hd] at hx
     simp only [cond_true] at hx
     cases hg : o.guard with
     | none =>
      rw [hg] at hx
      simp only [cond_true] at hx ⊢
      split at hx
      ·rename_i y hy
       obtain ⟨v, g1, g2⟩ := vX_ok (E := entB P) he hh hy
       refine g2 _ ?_
       refine ih hx (he.put o.dst g1) hh ?_ hX
       unfold WR; exact ⟨ρ, v, W, rfl, he, g1, hw⟩
      ·cases hx
     | some g =>
      obtain ⟨j, want⟩ := g
      rw [hg] at hx
      simp only [cond_true] at hx ⊢
      split at hx
      ·rename_i c hcg
       refine gdX_ok he hcg ?_
       cases hq : gEq c want with
       | true =>
        rw [hq] at hx
        simp only [cond_true] at hx ⊢
        split at hx
        ·rename_i y hy
         obtain ⟨v, g1, g2⟩ := vX_ok (E := entB P) he hh hy
         refine g2 _ ?_
         refine ih hx (he.put o.dst g1) hh ?_ hX
         unfold WR; exact ⟨ρ, v, W, rfl, he, g1, hw⟩
        ·cases hx
       | false =>
        rw [hq] at hx
        simp only [cond_false] at hx ⊢
        exact ih hx (he.put o.dst VR_undef) hh hw hX
      ·cases hx
theorem gd_ok {ops : Array Oper} {j : Nat} {env : CE} {σ : Sig} {ρ : Env} (he : ER σ env ρ) {c : Option Bool} (hg : gdX ops.toList j env = some c) : ∃ v, (gdst ops j).bind ρ = some v ∧ blOf v = c := by
 unfold gdX at hg
 rw [gdstL_eq] at hg
 split at hg
 ·rename_i d hd
  rw [hd]
  split at hg
  ·rename_i b hb
   cases hg
   obtain ⟨v, h1, h2⟩ := he d _ hb
   unfold VR at h2; subst h2
   exact ⟨_, h1, rfl⟩
  ·rename_i b hb
   cases hg
   obtain ⟨v, h1, h2⟩ := he d _ hb
   unfold VR at h2; obtain ⟨vs, rfl, _⟩ := h2
   exact ⟨_, h1, rfl⟩
  ·cases hg
 ·cases hg
theorem valG_ok {n : Nat} {ops : Array Oper} {o : Oper} {env : CE} {H : CH} {y : CV} (hv : valG P G n ops.toList o env H = some y) (hcl : clsO P o ≠ .eff) {σ : Sig} {ρ : Env} {h : Hp} (he : ER σ env ρ) (hh : HR P G h0 σ H h) :
  ∃ v, VR σ y v ∧ YdS P n ops o ρ h v ∧ (clsO P o = .pure → ∀ h', YdS P n ops o ρ h' v) := by
 unfold valG at hv
 cases hd : okDst n o.dst with
 | false => rw [hd] at hv; cases hv
 | true =>
  rw [hd] at hv
  simp only [cond_true] at hv
  have one : vX P G H env o = some y → ∃ v, VR σ y v ∧ ((isSel o.op = false ∧ okAll ρ o.op.operands.toList = true) ∧ Yd P o (evD ρ) h v) ∧
    (clsO P o = .pure → ∀ h', (isSel o.op = false ∧ okAll ρ o.op.operands.toList = true) ∧ Yd P o (evD ρ) h' v) := by
   intro hx
   obtain ⟨v, g1, g2⟩ := vX_ok (E := entB P) he hh hx
   have hk := g2 (Only v h) ⟨rfl, rfl⟩
   refine ⟨v, g1, yd_of_opK (entB_ok P) hcl hk, fun hp h' => ?_⟩
   obtain ⟨v', k1, k2, k3⟩ := detK hcl hk
   obtain ⟨rfl, _⟩ := k1
   exact yd_of_opK (entB_ok P) hcl (k3 hp h')
  unfold YdS
  cases hg : o.guard with
  | none =>
   rw [hg] at hv
   obtain ⟨v, g1, g2, g3⟩ := one hv
   exact ⟨v, g1, ⟨hd, g2⟩, fun hp h' => ⟨hd, g3 hp h'⟩⟩
  | some g =>
   obtain ⟨j, want⟩ := g
   rw [hg] at hv
   simp only [] at hv
   split at hv
   ·rename_i c hc
    obtain ⟨cv, b1, b2⟩ := gd_ok he hc
    cases hq : gEq c want with
    | true =>
     rw [hq] at hv
     have hbl : blOf cv = some want := by rw [b2]; exact gEq_eq.1 hq
     obtain ⟨v, g1, g2, g3⟩ := one hv
     exact ⟨v, g1, ⟨hd, cv, b1, by rw [if_pos hbl]; exact g2⟩, fun hp h' => ⟨hd, cv, b1, by rw [if_pos hbl]; exact g3 hp h'⟩⟩
    | false =>
     rw [hq] at hv; cases hv
     have hbl : ¬ blOf cv = some want := by rw [b2]; intro e; rw [gEq_eq.2 e] at hq; cases hq
     exact ⟨undef, VR_undef, ⟨hd, cv, b1, by rw [if_neg hbl]⟩, fun hp h' => ⟨hd, cv, b1, by rw [if_neg hbl]⟩⟩
   ·cases hv
def WT (P : Program) (n : Nat) (ops : Array Oper) (σ : Sig) : WX → Watch → Prop
 | [], W => W = []
 | (i, o, env, y) :: r, W => ∃ ρ v W', W = (i, fun h' => YdS P n ops o ρ h' v) :: W' ∧ ER σ env ρ ∧ VR σ y v ∧ clsO P o ≠ .eff ∧ WT P n ops σ r W'
theorem WT.mono {n : Nat} {ops : Array Oper} {σ σ' : Sig} (hs : Le σ σ') : ∀ {w : WX} {W : Watch}, WT P n ops σ w W → WT P n ops σ' w W := by
 intro w
 induction w with
 | nil => intro W h; exact h
 | cons a w ih =>
  intro W h
  obtain ⟨i, o, env, y⟩ := a
  unfold WT at h ⊢; obtain ⟨ρ, v, W', h1, h2, h3, h4, h5⟩ := h
  exact ⟨ρ, v, W', h1, h2.mono hs, h3.mono hs _ _, h4, ih h5⟩
theorem chkT_ok {n : Nat} {ops : Array Oper} {m : Nat} {H : CH} {σ : Sig} {h : Hp} (hh : HR P G h0 σ H h) : ∀ {w : WX} {W : Watch}, chkT P G n ops.toList m H w = true → WT P n ops σ w W → ∀ r ∈ W, bit m r.1 = false → r.2 h := by
 intro w
 induction w with
 | nil => intro W _ hW r hr; unfold WT at hW; subst hW; cases hr
 | cons a w ih =>
  intro W hc hW r hr hb
  obtain ⟨i, o, env, y⟩ := a
  unfold WT at hW; obtain ⟨ρ, v, W', rfl, h2, h3, h4, h5⟩ := hW
  simp only [chkT, Bool.and_eq_true, Bool.or_eq_true] at hc
  cases hr with
  | tail _ hm => exact ih hc.2 h5 r hm hb
  | head =>
   have h6 := hc.1.resolve_left (by rw [hb]; decide)
   split at h6
   ·rename_i z hz
    have := CV.eq_eq _ _ h6; subst this
    obtain ⟨v', g1, g2, _⟩ := valG_ok hz h4 h2 hh
    have := VR.one _ _ _ h3 g1; subst this
    exact g2
   ·cases h6
def RelL (ops : Array Oper) (done : Nat) (L : Array Bool) : Prop := L.size = ops.size ∧ ∀ j, L.getD j false = bit done j
theorem rdB_ok {ops : Array Oper} {done : Nat} {L : Array Bool} (hr : RelL ops done L) {i : Nat} {o : Oper} (ho : ops.toList[i]? = some o) : rdB done o i = true ↔ i ∈ rdy ops L := by
 have hi : i < ops.size := by have := (List.getElem?_eq_some_iff.1 ho).1; simpa using this
 have ho' : ops[i]? = some o := by rw [← Array.getElem?_toList]; exact ho
 have hd : L.getD i true = bit done i := by
  rw [← hr.2 i, Array.getD_eq_getD_getElem?, Array.getD_eq_getD_getElem?, Array.getElem?_eq_getElem (by rw [hr.1]; exact hi)]; rfl
 unfold rdB
 rw [Go.Hw.mem_ready]
 simp only [Bool.and_eq_true, Bool.not_eq_true', List.all_eq_true, Bool.or_eq_true]
 constructor
 ·rintro ⟨h1, h2⟩
  refine ⟨hi, by rw [hd]; exact h1, o, ho', fun e he hb => ?_⟩
  rw [hr.2]
  rcases h2 e he with h3 | h3
  ·rw [hb] at h3; cases h3
  ·exact h3
 ·rintro ⟨_, h1, o', ho2, h2⟩
  rw [ho'] at ho2; cases ho2
  refine ⟨by rw [← hd]; exact h1, fun e he => ?_⟩
  cases hb : Region.binds .any e with
  | false => exact .inl rfl
  | true => exact .inr (by rw [← hr.2]; exact h2 e he hb)
theorem RelL.set {ops : Array Oper} {done : Nat} {L : Array Bool} (hr : RelL ops done L) {i : Nat} (hi : i < ops.size) : RelL ops (Nat.lor done (Nat.shiftLeft 1 i)) (setD L i) := by
 refine ⟨by simp [hr.1], fun j => ?_⟩
 rw [bit_eq]
 have e1 : (Nat.lor done (Nat.shiftLeft 1 i)).testBit j = (done.testBit j || decide (i = j)) := by
  show (done ||| 1 <<< i).testBit j = _
  rw [Nat.testBit_or, Nat.one_shiftLeft, Nat.testBit_two_pow]
 rw [e1, ← bit_eq, ← hr.2 j, Array.getD_eq_getD_getElem?, Array.getD_eq_getD_getElem?]
 by_cases e : i = j
 ·subst e
  rw [Array.getElem?_setIfInBounds_self, if_pos (by rw [hr.1]; exact hi)]
  simp
 ·rw [Array.getElem?_setIfInBounds_ne e]; simp [e]
theorem pickT_some {done : Nat} : ∀ {l : List Oper} {k i : Nat}, pickT P done l k = some i → ∃ o, k ≤ i ∧ l[i - k]? = some o ∧ rdB done o i = true ∧ clsO P o ≠ .eff := by
 intro l
 induction l with
 | nil => intro k i h; cases h
 | cons o l ih =>
  intro k i h
  unfold pickT at h
  cases hb : rdB done o k && (match clsO P o with | .eff => false | _ => true) with
  | true =>
   rw [hb] at h; cases h
   simp only [Bool.and_eq_true] at hb
   refine ⟨o, Nat.le_refl _, by simp, hb.1, fun e => ?_⟩
   have := hb.2
   rw [e] at this; cases this
  | false =>
   rw [hb] at h
   obtain ⟨o', h1, h2, h3, h4⟩ := ih h
   refine ⟨o', by omega, ?_, h3, h4⟩
   rw [show i - k = (i - (k + 1)) + 1 by omega, List.getElem?_cons_succ]; exact h2
theorem pickT_none {done : Nat} : ∀ {l : List Oper} {k : Nat}, pickT P done l k = none → ∀ {i : Nat} {o : Oper}, l[i]? = some o → rdB done o (k + i) = true → clsO P o = .eff := by
 intro l
 induction l with
 | nil => intro k _ i o h; simp at h
 | cons x l ih =>
  intro k h i o ho hr
  unfold pickT at h
  cases hb : rdB done x k && (match clsO P x with | .eff => false | _ => true) with
  | true => rw [hb] at h; cases h
  | false =>
   rw [hb] at h
   cases i with
   | zero =>
    simp at ho; subst ho
    rw [Nat.add_zero] at hr
    rw [hr] at hb
    cases hc : clsO P x with
    | eff => rfl
    | pure => rw [hc] at hb; cases hb
    | read => rw [hc] at hb; cases hb
   | succ i => simp at ho; exact ih h ho (by rw [show k + 1 + i = k + (i + 1) by omega]; exact hr)
theorem effsT_mem {done : Nat} : ∀ {l : List Oper} {k i : Nat}, i ∈ effsT done l k ↔ ∃ o, k ≤ i ∧ l[i - k]? = some o ∧ rdB done o i = true := by
 intro l
 induction l with
 | nil => intro k i; simp [effsT]
 | cons x l ih =>
  intro k i
  unfold effsT
  have step : (∃ o, k + 1 ≤ i ∧ l[i - (k + 1)]? = some o ∧ rdB done o i = true) ↔ (∃ o, k < i ∧ (x :: l)[i - k]? = some o ∧ rdB done o i = true) := by
   constructor
   ·rintro ⟨o, h1, h2, h3⟩
    exact ⟨o, by omega, by rw [show i - k = (i - (k + 1)) + 1 by omega, List.getElem?_cons_succ]; exact h2, h3⟩
   ·rintro ⟨o, h1, h2, h3⟩
    rw [show i - k = (i - (k + 1)) + 1 by omega, List.getElem?_cons_succ] at h2
    exact ⟨o, by omega, h2, h3⟩
  cases hb : rdB done x k with
  | true =>
   simp only [cond_true, List.mem_cons, ih, step]
   constructor
   ·rintro (rfl | ⟨o, h1, h2, h3⟩)
    ·exact ⟨x, Nat.le_refl _, by simp, hb⟩
    ·exact ⟨o, by omega, h2, h3⟩
   ·rintro ⟨o, h1, h2, h3⟩
    by_cases e : i = k
    ·exact .inl e
    ·exact .inr ⟨o, by omega, h2, h3⟩
  | false =>
   simp only [cond_false, ih, step]
   constructor
   ·rintro ⟨o, h1, h2, h3⟩
    exact ⟨o, by omega, h2, h3⟩
   ·rintro ⟨o, h1, h2, h3⟩
    by_cases e : i = k
    ·subst e; simp at h2; subst h2; rw [hb] at h3; cases h3
    ·exact ⟨o, by omega, h2, h3⟩
theorem allI_ok {run : Nat → Bool} : ∀ {r : List Nat} {i : Nat}, allI run i r = true → ∀ j ∈ i :: r, run j = true := by
 intro r
 induction r with
 | nil => intro i h j hj; rw [List.mem_singleton] at hj; subst hj; exact h
 | cons x r ih =>
  intro i h j hj
  have h2 : (run i && allI run x r) = true := h
  rw [Bool.and_eq_true] at h2
  cases hj with
  | head => exact h2.1
  | tail _ hm => exact ih h2.2 j hm
theorem treeX_ok {call : Call Bool} (hc : CallOk P G h0 call) {n : Nat} {ops : Array Oper} : ∀ (f : Nat) {done : Nat} {w : WX} {lg : Lg} {env : CE} {H : CH} {k : Lg → CE → CH → Bool} (hx : treeX no P G call n ops.toList (masks ops.toList []) false f done w lg env H k = true)
  {σ : Sig} {ρ : Env} {h : Hp} {W : Watch} {L : Array Bool} (he : ER σ env ρ) (hh : HR P G h0 σ H h) (hw : WT P n ops σ w W) (hr : RelL ops done L) {X : Env → Hp → Prop}
  (hX : ∀ σ' lg' env' ρ' H' h', Le σ σ' → ER σ' env' ρ' → HR P G h0 σ' H' h' → k lg' env' H' = true → X ρ' h'), Tr P n ops X f L W ρ h := by
 have noR : ∀ {done : Nat} {L : Array Bool}, RelL ops done L → pickT P done ops.toList 0 = none → effsT done ops.toList 0 = [] → rdy ops L = [] := by
  intro done L hr hp hee
  rw [List.eq_nil_iff_forall_not_mem]
  intro i hi
  obtain ⟨_, _, o, ho, _⟩ := Go.Hw.mem_ready.1 hi
  have ho' : ops.toList[i]? = some o := by rw [Array.getElem?_toList]; exact ho
  have : i ∈ effsT done ops.toList 0 := effsT_mem.2 ⟨o, Nat.zero_le _, by simpa using ho', (rdB_ok hr ho').2 hi⟩
  rw [hee] at this; cases this
 intro f
 induction f with
 | zero =>
  intro done w lg env H k hx σ ρ h W L he hh hw hr X hX
  unfold treeX at hx
  split at hx
  ·rename_i hp hee
   exact ⟨noR hr hp hee, hX σ lg env ρ H h (Le.refl σ) he hh hx⟩
  ·cases hx
 | succ f ih =>
  intro done w lg env H k hx σ ρ h W L he hh hw hr X hX
  unfold treeX at hx
  split at hx
  ·rename_i i hp
   obtain ⟨o, _, ho, hrd, hcl⟩ := pickT_some hp
   rw [Nat.sub_zero] at ho
   have hi : i < ops.size := by have := (List.getElem?_eq_some_iff.1 ho).1; simpa using this
   have hri := (rdB_ok hr ho).1 hrd
   rw [ho] at hx
   simp only [] at hx
   split at hx
   ·rename_i y hy
    obtain ⟨v, g1, g2, g3⟩ := valG_ok hy hcl he hh
    cases hk : clsO P o with
    | pure =>
     rw [hk] at hx
     exact .inr (.inl ⟨i, o, v, hri, ho, hk, g3 hk, ih hx (he.put o.dst g1) hh hw (hr.set hi) hX⟩)
    | read =>
     rw [hk] at hx
     refine .inr (.inr (.inl ⟨i, o, v, hri, ho, hk, g2, ih hx (he.put o.dst g1) hh ?_ (hr.set hi) hX⟩))
     unfold WT
     exact ⟨ρ, v, W, rfl, he, g1, hcl, hw⟩
    | eff => exact absurd hk hcl
   ·cases hx
  ·rename_i hp
   split at hx
   ·rename_i hee
    exact .inl ⟨noR hr hp hee, hX σ lg env ρ H h (Le.refl σ) he hh hx⟩
   ·rename_i i r hee
    simp only [cond_false] at hx
    have hall := allI_ok hx
    refine .inr (.inr (.inr ⟨?_, ?_⟩))
    ·intro hnil
     have him : i ∈ effsT done ops.toList 0 := by rw [hee]; exact List.mem_cons_self ..
     obtain ⟨o, _, ho, hrd⟩ := effsT_mem.1 him
     rw [Nat.sub_zero] at ho
     have := (rdB_ok hr ho).1 hrd
     rw [hnil] at this; cases this
    ·intro j hj
     obtain ⟨_, _, o, ho, _⟩ := Go.Hw.mem_ready.1 hj
     have ho' : ops.toList[j]? = some o := by rw [Array.getElem?_toList]; exact ho
     have hjr := (rdB_ok hr ho').2 hj
     have hjm : j ∈ effsT done ops.toList 0 := effsT_mem.2 ⟨o, Nat.zero_le _, by simpa using ho', hjr⟩
     have hcl := pickT_none hp ho' (by rw [Nat.zero_add]; exact hjr)
     have hrun := hall j (by rw [← hee]; exact hjm)
     rw [ho'] at hrun
     simp only [] at hrun
     rw [hcl] at hrun
     simp only [] at hrun
     refine ⟨o, ho', hcl, denOp_step (entB_ok P) (stepX_ok hc hrun he hh ?_)⟩
     intro σ' env' ρ' H' h' hl he' hh' hk
     cases hck : chkT P G n ops.toList ((masks ops.toList []).getD j 0) H' w with
     | false => rw [hck] at hk; cases hk
     | true =>
      rw [hck] at hk
      have hi : j < ops.size := by have := (List.getElem?_eq_some_iff.1 ho').1; simpa using this
      exact ⟨chkT_ok hh' hck (hw.mono hl), ih hk he' hh' (hw.mono hl) (hr.set hi) fun σ'' lg'' env'' ρ'' H'' h'' hl' => hX σ'' lg'' env'' ρ'' H'' h'' (hl.trans hl')⟩
def TreOk (P : Program) (G : Nat) (h0 : Hp) (tr : Tre Bool) : Prop := ∀ call, CallOk P G h0 call → ∀ n id (ops : Array Oper) env H k, tr call n ops.toList env H k = true → ∀ σ ρ h, ER σ env ρ → HR P G h0 σ H h → ∀ Q : Post,
 (∀ σ' env' ρ' H' h', Le σ σ' → ER σ' env' ρ' → HR P G h0 σ' H' h' → k env' H' = true → Q .normal ρ' h') → D P n (.region id ops true) ρ h Q
def treeB (P : Program) (G : Nat) (callO : Call (Option (Lg × CE × CH))) : Tre Bool := fun call n ops env H k =>
 slotsAll P ops (masks ops []) ops 0 && (match treeX (fun _ => none) P G callO n ops (masks ops []) true ops.length 0 [] [] env H fun lg e h => some (lg, e, h) with
 | some (la, ea, HA) => treeX no P G call n ops (masks ops []) false ops.length 0 [] [] env H (fun lb eb HB => oneX G H.nx lb la eb ea HB HA) && k ea HA
 | none => false)
theorem treeB_ok (hm : P.follows .mixedOrders = true) {callO : Call (Option (Lg × CE × CH))} : TreOk P G h0 (treeB P G callO) := by
 intro call hc n id ops env H k hx σ ρ h he hh Q hQ
 unfold treeB at hx
 rw [Bool.and_eq_true] at hx
 obtain ⟨hsl, hx⟩ := hx
 split at hx
 ·rename_i la ea HA _
  rw [Bool.and_eq_true] at hx
  obtain ⟨hx, hk⟩ := hx
  refine D_draw_tree hm hsl ?_
  rw [Array.length_toList] at hx
  refine treeX_ok hc ops.size hx he hh (by unfold WT; rfl) ?_ ?_
  ·refine ⟨by simp, fun j => ?_⟩
   rw [bit_eq, Nat.zero_testBit, Array.getD_eq_getD_getElem?, Array.getElem?_replicate]
   split <;> rfl
  ·intro σ' lg' env' ρ' H' h' hl he' hh' hone
   obtain ⟨τ, t1, t2, t3⟩ := oneX_ok hone (fun b hb => hh.fresh b hb) hl he' hh'
   exact hQ τ ea ρ' HA h' t1 t2 t3 hk
 ·cases hx
def DLW (P : Program) (n : Nat) (c : Code) (ρ : Env) (h : Hp) (Q : Post) : Prop :=
 ∀ a w, Ag n ρ a → hpOf w = h → LW P c (fun e a' w' => ∃ ρ', Ag n ρ' a' ∧ Sm (.loop c) a w a' w' ∧ Q e ρ' (hpOf w')) a w
theorem DLW_D {n : Nat} {c : Code} {ρ : Env} {h : Hp} {Q : Post} (hd : DLW P n c ρ h Q) : D P n (.loop c) ρ h Q := fun a w ha hw => LW_loop (hd a w ha hw)
theorem LW.mono {c : Code} {Q Q' : Exit → Act → World → Prop} {a : Act} {w : World} (h : LW P c Q a w) (hq : ∀ e a' w', Q e a' w' → Q' e a' w') : LW P c Q' a w :=
 fun b k cs => let ⟨e, a', w', q, r⟩ := h b k cs; ⟨e, a', w', hq _ _ _ q, r⟩
theorem DLW_round {n : Nat} {c : Code} {ρ : Env} {h : Hp} {Q : Post} (hd : D P n c ρ h (thenQ (fun ρ' h' => DLW P n c ρ' h' Q) Q)) : DLW P n c ρ h Q := by
 intro a w ha hw
 refine LW_round (wp_mono (hd a w ha hw) ?_)
 rintro e a' w' ⟨ρ', h1, h2, h3⟩
 cases e with
 | normal =>
  refine LW.mono (h3 a' w' h1 rfl) ?_
  rintro e a2 w2 ⟨ρ2, g1, g2, g3⟩
  exact ⟨ρ2, g1, ⟨fun t ht => (g2.1 t ht).trans (h2.1 t ht), h2.2.trans g2.2⟩, g3⟩
 | exit i => exact ⟨ρ', h1, h2, h3⟩
 | goto l => exact ⟨ρ', h1, h2, h3⟩
 | ret => exact ⟨ρ', h1, h2, h3⟩
 | panic ch => exact h3.elim
 | outgrown => exact h3.elim
def BodyOk (P : Program) (G : Nat) (h0 : Hp) (n : Nat) (c : Code) (body : CE → CH → (Exit → CE → CH → Bool) → Bool) : Prop :=
 ∀ env H k, body env H k = true → ∀ σ ρ h, ER σ env ρ → HR P G h0 σ H h → ∀ Q : Post, (∀ e σ' env' ρ' H' h', Le σ σ' → ER σ' env' ρ' → HR P G h0 σ' H' h' → k e env' H' = true → Q e ρ' h') → D P n c ρ h Q
theorem loopX_ok {n : Nat} {c : Code} {body : CE → CH → (Exit → CE → CH → Bool) → Bool} (hb : BodyOk P G h0 n c body) : ∀ (m : Nat) (env : CE) (H : CH) (k : Exit → CE → CH → Bool), loopX no body m env H k = true →
  ∀ σ ρ h, ER σ env ρ → HR P G h0 σ H h → ∀ Q : Post, (∀ e σ' env' ρ' H' h', Le σ σ' → ER σ' env' ρ' → HR P G h0 σ' H' h' → k e env' H' = true → Q e ρ' h') → DLW P n c ρ h Q := by
 intro m
 induction m with
 | zero => intro env H k hx; cases hx
 | succ m ih =>
  intro env H k hx σ ρ h he hh Q hQ
  unfold loopX at hx
  refine DLW_round (hb env H _ hx σ ρ h he hh _ ?_)
  intro e σ' env' ρ' H' h' hl he' hh' hk
  cases e with
  | normal => exact ih env' H' k hk σ' ρ' h' he' hh' Q fun e σ'' env'' ρ'' H'' h'' hl' => hQ e σ'' env'' ρ'' H'' h'' (hl.trans hl')
  | exit i => exact hQ _ σ' env' ρ' H' h' hl he' hh' hk
  | goto l => exact hQ _ σ' env' ρ' H' h' hl he' hh' hk
  | ret => exact hQ _ σ' env' ρ' H' h' hl he' hh' hk
  | panic ch => cases hk
  | outgrown => cases hk
theorem cX_ok {call : Call Bool} (hc : CallOk P G h0 call) (hm : P.follows .mixedOrders = true) {tr : Tre Bool} (ht : TreOk P G h0 tr) {lf n : Nat} : ∀ (c : Code), BodyOk P G h0 n c (cX no P G tr call lf n c) := by
 intro c
 induction c with
 | skip => intro env H k hx σ ρ h he hh Q hQ; exact D_skip (hQ _ σ env ρ H h (Le.refl σ) he hh hx)
 | region id ops draw =>
  intro env H k hx σ ρ h he hh Q hQ
  unfold cX regX at hx
  cases draw with
  | false =>
   exact D_region (entB_ok P) (opsX_ok hc hx he hh fun σ' env' ρ' H' h' hl he' hh' hk => hQ _ σ' env' ρ' H' h' hl he' hh' hk)
  | true =>
   simp only [cond_true] at hx
   cases ho : orderGood P ops.toList (ordX P ops.toList (masks ops.toList []) ops.toList.length 0) with
   | false =>
    rw [ho] at hx
    exact ht call hc n id ops env H _ hx σ ρ h he hh Q fun σ' env' ρ' H' h' hl he' hh' hk => hQ _ σ' env' ρ' H' h' hl he' hh' hk
   | true =>
    rw [ho] at hx
    refine D_draw (entB_ok P) hm (l := ordX P ops.toList (masks ops.toList []) ops.toList.length 0) ?_
    unfold denDraw
    rw [ho]
    exact dDX_ok hc hx he hh (W := []) (by unfold WR; rfl) fun σ' env' ρ' H' h' hl he' hh' hk => hQ _ σ' env' ρ' H' h' hl he' hh' hk
 | seq x y ihx ihy =>
  intro env H k hx σ ρ h he hh Q hQ
  unfold cX at hx
  refine D_seq (ihx env H _ hx σ ρ h he hh _ ?_)
  intro e σ' env' ρ' H' h' hl he' hh' hk
  cases e with
  | normal => exact ihy env' H' k hk σ' ρ' h' he' hh' Q fun e σ'' env'' ρ'' H'' h'' hl' => hQ e σ'' env'' ρ'' H'' h'' (hl.trans hl')
  | exit i => exact hQ _ σ' env' ρ' H' h' hl he' hh' hk
  | goto l => exact hQ _ σ' env' ρ' H' h' hl he' hh' hk
  | ret => exact hQ _ σ' env' ρ' H' h' hl he' hh' hk
  | panic ch => cases hk
  | outgrown => cases hk
 | cond c x y ihx ihy =>
  intro env H k hx σ ρ h he hh Q hQ
  unfold cX at hx
  split at hx
  ·rename_i b hb
   obtain ⟨v, h1, h2⟩ := evC_ok hb he hh
   unfold VR at h2; subst h2
   refine D_cond h1 ?_
   cases b with
   | true => exact ihx env H k hx σ ρ h he hh Q hQ
   | false => exact ihy env H k hx σ ρ h he hh Q hQ
  ·cases hx
 | block id c ih =>
  intro env H k hx σ ρ h he hh Q hQ
  unfold cX at hx
  refine D_block (ih env H _ hx σ ρ h he hh _ ?_)
  intro e σ' env' ρ' H' h' hl he' hh' hk
  cases e with
  | normal => exact hQ _ σ' env' ρ' H' h' hl he' hh' hk
  | exit i =>
   simp only [blockQ]
   simp only [] at hk
   cases hb : Nat.beq i id with
   | true => rw [hb] at hk; exact hQ _ σ' env' ρ' H' h' hl he' hh' hk
   | false => rw [hb] at hk; exact hQ _ σ' env' ρ' H' h' hl he' hh' hk
  | goto l => exact hQ _ σ' env' ρ' H' h' hl he' hh' hk
  | ret => exact hQ _ σ' env' ρ' H' h' hl he' hh' hk
  | panic ch => cases hk
  | outgrown => cases hk
 | loop c ih =>
  intro env H k hx σ ρ h he hh Q hQ
  unfold cX at hx
  exact DLW_D (loopX_ok ih lf env H k hx σ ρ h he hh Q hQ)
 | rangeFunc f ps x y ihx ihy => intro env H k hx; cases hx
 | exit id => intro env H k hx σ ρ h he hh Q hQ; exact D_exit (hQ _ σ env ρ H h (Le.refl σ) he hh hx)
 | scope c ih =>
  intro env H k hx σ ρ h he hh Q hQ
  unfold cX at hx
  refine D_scope (ih env H _ hx σ ρ h he hh _ ?_)
  intro e σ' env' ρ' H' h' hl he' hh' hk
  cases e with
  | normal => exact hQ _ σ' env' ρ' H' h' hl he' hh' hk
  | exit i => exact hQ _ σ' env' ρ' H' h' hl he' hh' hk
  | goto l => cases hk
  | ret => exact hQ _ σ' env' ρ' H' h' hl he' hh' hk
  | panic ch => cases hk
  | outgrown => cases hk
 | label l => intro env H k hx σ ρ h he hh Q hQ; exact D_label (hQ _ σ env ρ H h (Le.refl σ) he hh hx)
 | goto l => intro env H k hx; cases hx
 | ret => intro env H k hx σ ρ h he hh Q hQ; exact D_ret (hQ _ σ env ρ H h (Le.refl σ) he hh hx)
 | refuse s => intro env H k hx; cases hx
theorem argsX_ok {σ : Sig} : ∀ {l : List CV} {vs : List Value} (i : Nat), VRs σ l vs → ER σ (argsX i l) (argsE i vs) := by
 intro l
 induction l with
 | nil => intro vs i h; unfold VRs at h; subst h; intro t x hx; cases hx
 | cons x l ih =>
  intro vs i h
  unfold VRs at h; obtain ⟨v, r, rfl, h1, h2⟩ := h
  exact (ih (i + 1) h2).put (some i) h1
theorem resX_ok {σ : Sig} {H : CH} {h : Hp} {env : CE} {ρ : Env} (he : ER σ env ρ) (hh : HR P G h0 σ H h) : ∀ {rs : List ResultVar} {l : List CV}, resX P H env rs = some l →
  ∃ vs, VRs σ l vs ∧ ∀ (acc : List Value) (F : List Value → Prop), F (acc.reverse ++ vs) → resM P h rs ρ acc F := by
 intro rs
 induction rs with
 | nil => intro l hl; cases hl; exact ⟨[], by unfold VRs; rfl, fun acc F hF => by simpa [resM] using hF⟩
 | cons r rs ih =>
  intro l hl
  cases r with
  | tmp t =>
   simp only [resX] at hl
   split at hl
   ·rename_i x l' hx hl'
    cases hl
    obtain ⟨v, h1, h2⟩ := he t x hx
    obtain ⟨vs, h3, h4⟩ := ih hl'
    refine ⟨v :: vs, by unfold VRs; exact ⟨v, vs, rfl, h2, h3⟩, fun acc F hF => ?_⟩
    unfold resM; rw [h1]
    exact h4 _ F (by simpa using hF)
   ·cases hl
  | cell a t =>
   simp only [resX] at hl
   split at hl
   ·rename_i b o ha
    cases hu : (P.underlying t).isSome with
    | false => rw [hu] at hl; cases hl
    | true =>
     rw [hu] at hl
     simp only [cond_true] at hl
     split at hl
     ·rename_i x l' hx hl'
      cases hl
      obtain ⟨v, h1, h2⟩ := he a _ ha
      unfold VR at h2; obtain ⟨p, hp, rfl⟩ := h2
      obtain ⟨w, g1, g2⟩ := ldX_ok hh hx hp
      obtain ⟨vs, h3, h4⟩ := ih hl'
      refine ⟨w :: vs, by unfold VRs; exact ⟨w, vs, rfl, g1, h3⟩, fun acc F hF => ?_⟩
      unfold resM; rw [h1]
      simp only [vK, xP, nn]
      rw [hu]
      exact g2 _ (h4 _ F (by simpa using hF))
     ·cases hl
   ·cases hl
theorem resC_ok {σ : Sig} {l : List CV} {vs : List Value} (h : VRs σ l vs) : VR σ (resC l) (resV vs) := by
 rcases l with _ | ⟨x, _ | ⟨y, l⟩⟩
 ·unfold VRs at h; subst h; exact VR_undef
 ·unfold VRs at h; obtain ⟨v, r, rfl, h1, h2⟩ := h
  unfold VRs at h2; subst h2; exact h1
 ·have h' := h
  unfold VRs at h; obtain ⟨v, r, rfl, h1, h2⟩ := h
  unfold VRs at h2; obtain ⟨w, r, rfl, h2, h3⟩ := h2
  show VR σ (.tup (x :: y :: l)) (.tuple ⟨v :: w :: r⟩)
  unfold VR; exact ⟨_, rfl, h'⟩
theorem endE_some {e : Exit} (h : endE e = true) : e = .normal ∨ e = .ret := by cases e <;> first | exact .inl rfl | exact .inr rfl | cases h
theorem dfX_ok {run : Nat → Code → CE → CH → (Exit → CE → CH → Bool) → Bool} (hrun : ∀ n c, BodyOk P G h0 n c (run n c)) {g : Nat} {fn : Func} {c : Code} {S : DefShape} (hfn : P.funcs[g]? = some fn) (hc : fn.body = some c) (hS : defOf c = some S) {args : List CV} (hle : args.length ≤ fn.ntmps)
  {H : CH} {k : CV → CH → Bool} (hx : dfX no P G run fn S args H k = true) {σ : Sig} {h : Hp} {vs : List Value} (hv : VRs σ args vs) (hh : HR P G h0 σ H h) {K : Value → Hp → Prop}
  (hK : ∀ σ' y v H' h', Le σ σ' → VR σ' y v → HR P G h0 σ' H' h' → k y H' = true → K v h') : HCalls P g ⟨vs⟩ h K := by
 unfold dfX at hx
 split at hx
 ·rename_i gn hgn
  split at hx
  ·rename_i gc hgc
   split at hx
   ·rename_i tr grest hrec
    cases hb : Nat.beq gn.results.toList.length 0 && (Nat.blt S.td fn.ntmps && (Nat.ble S.caps.length gn.ntmps && (Nat.blt tr gn.ntmps && entB P S.g))) with
    | false => rw [hb] at hx; cases hx
    | true =>
    rw [hb] at hx
    simp only [cond_true] at hx
    simp only [Bool.and_eq_true] at hb
    obtain ⟨b1, b2, b3, b4, b5⟩ := hb
    have r0 : gn.results = #[] := by
     have := List.length_eq_zero_iff.1 (Nat.eq_of_beq_eq_true b1)
     exact Array.toList_eq_nil_iff.1 this
    refine calls_of_defer (entB_ok P) b5 hfn hc hS hgn hgc hrec r0 (by simp [hv.len]; exact hle) (by simpa [Nat.blt_eq] using b2) (Nat.le_of_ble_eq_true b3) (by simpa [Nat.blt_eq] using b4) ?_
    refine hrun _ _ _ H _ hx σ _ h (argsX_ok 0 hv) hh _ ?_
    intro e σ1 env1 ρ1 H1 h1 l1 he1 hh1 hx1
    split at hx1
    ·split at hx1
     ·rename_i cs hcs
      obtain ⟨ws, w1, w2, w3, _⟩ := evCs_ok he1 hh1 hcs
      refine ⟨rfl, w2, ?_⟩
      rw [w3]
      have hfv : VR σ1 (.fn S.g [] cs) (.func (.func S.g) #[] ⟨ws⟩) := by
       unfold VR
       exact ⟨[], ws, rfl, by unfold VRs; rfl, w1⟩
      refine hrun _ _ _ H1 _ hx1 σ1 _ h1 (he1.put (some S.td) hfv) hh1 _ ?_
      intro e2 σ2 env2 ρ2 H2 h2 l2 he2 hh2 hx2
      cases q2 : endE e2 with
      | false => rw [q2] at hx2; cases hx2
      | true =>
      rw [q2] at hx2
      simp only [cond_true] at hx2
      refine ⟨endE_some q2, ?_⟩
      have hn0 : VR σ2 .nili .nilIface := by unfold VR; rfl
      refine hrun _ _ _ H2 _ hx2 σ2 _ h2 ((argsX_ok 0 (VRs.mono l2 _ _ w1)).put (some tr) hn0) hh2 _ ?_
      intro e3 σ3 env3 ρ3 H3 h3 l3 he3 hh3 hx3
      cases q3 : endE e3 with
      | false => rw [q3] at hx3; cases hx3
      | true =>
      rw [q3] at hx3
      simp only [cond_true] at hx3
      refine ⟨endE_some q3, ?_⟩
      split at hx3
      ·rename_i l hl
       obtain ⟨us, u1, u2⟩ := resX_ok (he2.mono l3) hh3 hl
       exact u2 [] _ (hK σ3 _ _ H3 h3 ((l1.trans l2).trans l3) (resC_ok u1) hh3 hx3)
      ·cases hx3
     ·cases hx1
    ·cases hx1
   ·cases hx
  ·cases hx
 ·cases hx
theorem callX_ok (hm : P.follows .mixedOrders = true) {tr : Tre Bool} (ht : TreOk P G h0 tr) {lf : Nat} : ∀ (m : Nat), CallOk P G h0 (callX no P G tr lf m) := by
 intro m
 induction m with
 | zero => intro g args H k hx; cases hx
 | succ m ih =>
  intro g args H k hx σ h vs hv hh K hK
  unfold callX at hx
  split at hx
  ·rename_i fn hfn
   split at hx
   ·rename_i c hc
    cases hb : Nat.ble args.length fn.ntmps with
    | false => rw [hb] at hx; cases hx
    | true =>
     rw [hb] at hx
     simp only [cond_true] at hx
     have hble : args.length ≤ fn.ntmps := Nat.le_of_ble_eq_true hb
     split at hx
     ·rename_i S hS
      exact dfX_ok (fun n c => cX_ok ih hm ht c) hfn hc hS hble hx hv hh hK
     refine calls_of_M hfn hc (by simpa [hv.len] using hb) ?_
     refine cX_ok ih hm ht c _ H _ hx σ _ h (argsX_ok 0 hv) hh _ ?_
     intro e σ' env' ρ' H' h' hl he' hh' hk
     have fin : ∀ l, resX P H' env' fn.results.toList = some l → k (resC l) H' = true → resM P h' fn.results.toList ρ' [] fun l => K (resV l) h' := by
      intro l hl' hk'
      obtain ⟨ws, w1, w2⟩ := resX_ok he' hh' hl'
      exact w2 [] _ (hK σ' _ _ H' h' hl (resC_ok w1) hh' hk')
     cases e with
     | normal =>
      simp only [] at hk
      split at hk
      ·rename_i l hl'; exact fin l hl' hk
      ·cases hk
     | ret =>
      simp only [] at hk
      split at hk
      ·rename_i l hl'; exact fin l hl' hk
      ·cases hk
     | exit i => cases hk
     | goto l => cases hk
     | panic ch => cases hk
     | outgrown => cases hk
   ·cases hx
  ·cases hx
end
end Go.Ix

/-
 A closed call, reckoned: it gives what the small machine gives, and leaves all that was there.
-/
set_option linter.unusedSimpArgs false
set_option linter.unusedVariables false
namespace Go.Ix
open Go Go.Hw
def H0 (G e : Nat) : List (Nat × List CV) → CH
 | [] => ⟨.leaf, G + e⟩
 | (g, cs) :: l => ⟨(H0 G e l).t.set g (some (.tab cs)), G + e⟩
def σ0 (G : Nat) (bs : List Addr) : Sig := fun b => if b < G then some ⟨b, 0, 0, 0⟩ else match bs[b - G]? with
 | some a => some ⟨a.block, a.off, 0, 0⟩
 | none => none
theorem H0_get {G e : Nat} : ∀ {l : List (Nat × List CV)} {b : Nat} {o : CO}, (H0 G e l).t.get b = some o → ∃ cs, (b, cs) ∈ l ∧ o = .tab cs := by
 intro l
 induction l with
 | nil => intro b o h; cases h
 | cons x l ih =>
  intro b o h
  obtain ⟨g, cs⟩ := x
  simp only [H0, T.get_set] at h
  split at h
  ·rename_i e; subst e; cases h; exact ⟨cs, List.mem_cons_self .., rfl⟩
  ·obtain ⟨c, h1, h2⟩ := ih h; exact ⟨c, List.mem_cons_of_mem _ h1, h2⟩
theorem H0_nx {G e : Nat} : ∀ {l : List (Nat × List CV)}, (H0 G e l).nx = G + e
 | [] => rfl
 | (_, _) :: _ => rfl
def TabAt (σ : Sig) (h : Hp) (g : Nat) (cs : List CV) : Prop := ∃ (vs : List Value) (e : TypeId) (fr : Nat × Nat), h g = some (.cells ⟨vs⟩ e fr) ∧ ∀ (i : Nat) (c : CV), cs[i]? = some c → ∃ v, vs[i]? = some v ∧ VR σ c v
theorem H0_ok {P : Program} {G : Nat} {h : Hp} {l : List (Nat × List CV)} {bs : List Addr} (hg : ∀ x ∈ l, x.1 < G) (ht : ∀ x ∈ l, TabAt (σ0 G bs) h x.1 x.2) : HR P G h (σ0 G bs) (H0 G bs.length l) h := by
 refine ⟨?_, ?_, ?_, fun _ _ h => h, ?_⟩
 ·intro b o hb
  obtain ⟨cs, h1, rfl⟩ := H0_get hb
  obtain ⟨vs, e, fr, h2, h3⟩ := ht _ h1
  refine ⟨⟨b, 0, 0, 0⟩, _, by simp [σ0, hg _ h1], h2, ?_⟩
  unfold OR
  refine ⟨vs, e, fr, rfl, fun i c hc => ?_⟩
  obtain ⟨v, h4, h5⟩ := h3 i c hc
  exact ⟨v, by simpa using h4, h5⟩
 ·intro b b' o o' p p' g1 g2 hne hp hp'
  obtain ⟨cs, h1, rfl⟩ := H0_get g1
  obtain ⟨cs', h2, rfl⟩ := H0_get g2
  unfold σ0 at hp hp'
  rw [if_pos (hg _ h1)] at hp
  rw [if_pos (hg _ h2)] at hp'
  cases hp; cases hp'; exact hne
 ·intro b hb
  rw [H0_nx] at hb
  unfold σ0; rw [if_neg (by omega)]
  rw [List.getElem?_eq_none (by omega)]
 ·intro g hgg
  exact ⟨⟨g, 0, 0, 0⟩, by simp [σ0, hgg], rfl, rfl⟩
def runC (P : Program) (G lf m : Nat) : Call Bool := callX no P G (treeB P G (callX (fun _ => none) P G (tree1 (fun _ => none) P G) lf m)) lf m
theorem closed {P : Program} (hm : P.follows .mixedOrders = true) {G e lf m f : Nat} {l : List (Nat × List CV)} (hg : (l.all fun x => Nat.blt x.1 G) = true)
  (hx : runC P G lf m f [] (H0 G e l) (fun y _ => CV.eq y (.bool true)) = true) {h : Hp} {bs : List Addr} (he : bs.length = e) (ht : ∀ x ∈ l, TabAt (σ0 G bs) h x.1 x.2) {K : Value → Hp → Prop}
  (hK : ∀ h', Ext none' h h' → K (.bool true) h') : HCalls P f ⟨[]⟩ h K := by
 have hg' : ∀ x ∈ l, x.1 < G := fun x hx => by have := List.all_eq_true.1 hg x hx; simpa [Nat.blt_eq] using this
 subst he
 refine callX_ok (h0 := h) hm (treeB_ok hm) m f [] _ _ hx (σ0 G bs) h [] (by unfold VRs; rfl) (H0_ok hg' ht) K ?_
 intro σ' y v H' h' hl hv hh' hk
 have := CV.eq_eq _ _ hk; subst this
 unfold VR at hv; subst hv
 exact hK h' fun b o hb _ => hh'.keep b o hb
end Go.Ix

set_option linter.unusedVariables false
set_option maxRecDepth 100000
namespace Go.Proofs.Ytkfccpabigikkaa
open Go Go.Hw
noncomputable def B61 : Code := match Try.f61.body with | some c => c | none => .skip
def N61_l0_b (x0 x1 : Sl) (Φ : Int → Hp → Prop) (x5 : Int) (h : Hp) (K0 : Hp → Prop) (Kr : Bool → Hp → Prop) : Prop :=
 bif (decide (x5 < ((x0.n : Nat) : Int))) then
 idx x5 x0.n <|
 nn x0.p fun a0 =>
 xI .u8 (cell h (a0.add (x5.toNat * 8))) fun n0 =>
 xI .u8 (cell h ((a0.add (x5.toNat * 8)).add 1)) fun n1 =>
 xI .u8 (cell h ((a0.add (x5.toNat * 8)).add 2)) fun n2 =>
 xI .u8 (cell h ((a0.add (x5.toNat * 8)).add 3)) fun n3 =>
 xI .u8 (cell h ((a0.add (x5.toNat * 8)).add 4)) fun n4 =>
 xI .u8 (cell h ((a0.add (x5.toNat * 8)).add 5)) fun n5 =>
 idx x5 x1.n <|
 nn x1.p fun a1 =>
 xI .u8 (cell h (a1.add (x5.toNat * 8))) fun n6 =>
 xI .u8 (cell h ((a1.add (x5.toNat * 8)).add 1)) fun n7 =>
 xI .u8 (cell h ((a1.add (x5.toNat * 8)).add 2)) fun n8 =>
 xI .u8 (cell h ((a1.add (x5.toNat * 8)).add 3)) fun n9 =>
 xI .u8 (cell h ((a1.add (x5.toNat * 8)).add 4)) fun n10 =>
 xI .u8 (cell h ((a1.add (x5.toNat * 8)).add 5)) fun n11 =>
 bif (!((n0 == n6) && ((n1 == n7) && ((n2 == n8) && ((n3 == n9) && ((n4 == n10) && ((n5 == n11) && true))))))) then
 Kr false h
 else
 idx x5 x0.n <|
 nn x0.p fun a2 =>
 xI .i64 (cell h ((a2.add (x5.toNat * 8)).add 6)) fun n12 =>
 idx x5 x1.n <|
 nn x1.p fun a3 =>
 xI .i64 (cell h ((a3.add (x5.toNat * 8)).add 6)) fun n13 =>
 bif (n12 != n13) then
 Kr false h
 else
 idx x5 x0.n <|
 nn x0.p fun a4 =>
 xL (cell h ((a4.add (x5.toNat * 8)).add 7)) fun s0 =>
 b2s h s0.p s0.n fun s1 =>
 idx x5 x1.n <|
 nn x1.p fun a5 =>
 xL (cell h ((a5.add (x5.toNat * 8)).add 7)) fun s2 =>
 b2s h s2.p s2.n fun s3 =>
 bif (!(s1.toList == s3.toList)) then
 Kr false h
 else
 Φ (IntKind.wrap .i64 (x5 + 1)) h
 else
 K0 h
def N61_l0_B (x0 x1 : Sl) (K0 : Hp → Prop) (Kr : Bool → Hp → Prop) (s : Sg.T [(5, .c (.int .i64))]) (h : Hp) (Φ : Sg.T [(5, .c (.int .i64))] → Hp → Prop) : Prop :=
 N61_l0_b x0 x1 (fun x5 h => Φ x5 h) s h K0 Kr
def N61_l0 (x0 x1 : Sl) (x5 : Int) (h : Hp) (K0 : Hp → Prop) (Kr : Bool → Hp → Prop) : Prop :=
 loopP (N61_l0_B x0 x1 K0 Kr) x5 h
noncomputable def N61_l0_t : Xf := loopT [(0, .c (.slice)), (1, .c (.slice))] [(5, .c (.int .i64))] (codeAt B61 [1, 1, 0, 1, 0, 0]) fun F Q => N61_l0_B F.1 F.2 (fun h' => Q (.exit 0) (Sg.env [] ()) h') (fun o0 h' => Q .ret (Sg.env [(4, .c (.bool))] o0) h')
theorem N61_l0_ok : Sound Try.prog Try.f61.ntmps N61_l0_t (codeAt B61 [1, 1, 0, 1, 0]) := by
 refine loop_sound (fun e => match e with | .exit 0 => [] | .ret => [4] | _ => []) (by kernel_rfl) ?_
 intro F Q s h Φ hb
 refine den_sound hE hm _ (.two .leaf (.two (.one (.two (.ord [0, 1, 2, 3, 4, 5, 6, 7, 8, 9, 10, 11, 12, 13, 14, 15, 16, 17, 18, 19, 20, 21, 22, 23, 24, 25, 26, 27, 28, 29, 30, 31, 32, 33, 34, 35, 36, 37, 38]) .leaf)) .leaf)) _ _ _ (⟨annOk_leaf, ⟨⟨trivial, annOk_leaf⟩, annOk_leaf⟩⟩) ?_
 refine cast ?_ hb
 kernel_rfl
def N61 (x0 x1 : Sl) (h : Hp) (K : Bool → Hp → Prop) : Prop :=
 bif (((x0.n : Nat) : Int) != ((x1.n : Nat) : Int)) then
 K false h
 else
 N61_l0 x0 x1 0 h
 (fun h0 =>
 K true h0)
 (fun b0 h1 =>
 K b0 h1)
theorem S61 {x0 x1 : Sl} {h : Hp} {K : Bool → Hp → Prop} (hn : N61 x0 x1 h K) : C61 x0 x1 h K := by
 refine calls_of_D Try.func61 (c := B61) rfl (by kernel_rfl) ?_
 refine den_sound hE hm _ (.two .leaf (.two .leaf (.two (.two .leaf (.one (.xf N61_l0_t))) .leaf))) _ _ _ (⟨annOk_leaf, ⟨annOk_leaf, ⟨⟨annOk_leaf, N61_l0_ok⟩, annOk_leaf⟩⟩⟩) ?_
 refine cast ?_ hn
 kernel_rfl
end Go.Proofs.Ytkfccpabigikkaa

set_option linter.unusedVariables false
set_option maxRecDepth 100000
namespace Go.Proofs.Ytkfccpabigikkaa
open Go Go.Hw
noncomputable def B34 : Code := match Try.f34.body with | some c => c | none => .skip
def N34_l0_b (x0 x1 : Sl) (Φ : Int → Hp → Prop) (x5 : Int) (h : Hp) (K0 : Hp → Prop) (Kr : Bool → Hp → Prop) : Prop :=
 bif (decide (x5 < ((x0.n : Nat) : Int))) then
 idx x5 x0.n <|
 nn x0.p fun a0 =>
 xI .u32 (cell h (a0.add (x5.toNat * 11))) fun n0 =>
 xI .u8 (cell h ((a0.add (x5.toNat * 11)).add 1)) fun n1 =>
 xI .u8 (cell h ((a0.add (x5.toNat * 11)).add 2)) fun n2 =>
 xI .u8 (cell h ((a0.add (x5.toNat * 11)).add 3)) fun n3 =>
 xI .u8 (cell h ((a0.add (x5.toNat * 11)).add 4)) fun n4 =>
 xI .u8 (cell h ((a0.add (x5.toNat * 11)).add 5)) fun n5 =>
 xI .u8 (cell h ((a0.add (x5.toNat * 11)).add 6)) fun n6 =>
 xI .i64 (cell h ((a0.add (x5.toNat * 11)).add 7)) fun n7 =>
 xI .i64 (cell h ((a0.add (x5.toNat * 11)).add 8)) fun n8 =>
 xI .i64 (cell h ((a0.add (x5.toNat * 11)).add 9)) fun n9 =>
 xB (cell h ((a0.add (x5.toNat * 11)).add 10)) fun b0 =>
 idx x5 x1.n <|
 nn x1.p fun a1 =>
 xI .u32 (cell h (a1.add (x5.toNat * 11))) fun n10 =>
 xI .u8 (cell h ((a1.add (x5.toNat * 11)).add 1)) fun n11 =>
 xI .u8 (cell h ((a1.add (x5.toNat * 11)).add 2)) fun n12 =>
 xI .u8 (cell h ((a1.add (x5.toNat * 11)).add 3)) fun n13 =>
 xI .u8 (cell h ((a1.add (x5.toNat * 11)).add 4)) fun n14 =>
 xI .u8 (cell h ((a1.add (x5.toNat * 11)).add 5)) fun n15 =>
 xI .u8 (cell h ((a1.add (x5.toNat * 11)).add 6)) fun n16 =>
 xI .i64 (cell h ((a1.add (x5.toNat * 11)).add 7)) fun n17 =>
 xI .i64 (cell h ((a1.add (x5.toNat * 11)).add 8)) fun n18 =>
 xI .i64 (cell h ((a1.add (x5.toNat * 11)).add 9)) fun n19 =>
 xB (cell h ((a1.add (x5.toNat * 11)).add 10)) fun b1 =>
 bif (!((n0 == n10) && (((n1 == n11) && ((n2 == n12) && ((n3 == n13) && ((n4 == n14) && ((n5 == n15) && ((n6 == n16) && true)))))) && ((n7 == n17) && ((n8 == n18) && ((n9 == n19) && ((b0 == b1) && true))))))) then
 Kr false h
 else
 Φ (IntKind.wrap .i64 (x5 + 1)) h
 else
 K0 h
def N34_l0_B (x0 x1 : Sl) (K0 : Hp → Prop) (Kr : Bool → Hp → Prop) (s : Sg.T [(5, .c (.int .i64))]) (h : Hp) (Φ : Sg.T [(5, .c (.int .i64))] → Hp → Prop) : Prop :=
 N34_l0_b x0 x1 (fun x5 h => Φ x5 h) s h K0 Kr
def N34_l0 (x0 x1 : Sl) (x5 : Int) (h : Hp) (K0 : Hp → Prop) (Kr : Bool → Hp → Prop) : Prop :=
 loopP (N34_l0_B x0 x1 K0 Kr) x5 h
noncomputable def N34_l0_t : Xf := loopT [(0, .c (.slice)), (1, .c (.slice))] [(5, .c (.int .i64))] (codeAt B34 [1, 1, 0, 1, 0, 0]) fun F Q => N34_l0_B F.1 F.2 (fun h' => Q (.exit 0) (Sg.env [] ()) h') (fun o0 h' => Q .ret (Sg.env [(4, .c (.bool))] o0) h')
theorem N34_l0_ok : Sound Try.prog Try.f34.ntmps N34_l0_t (codeAt B34 [1, 1, 0, 1, 0]) := by
 refine loop_sound (fun e => match e with | .exit 0 => [] | .ret => [4] | _ => []) (by kernel_rfl) ?_
 intro F Q s h Φ hb
 refine den_sound hE hm _ (.two .leaf (.two (.one (.two (.ord [0, 1, 2, 3, 4, 5, 6, 7, 8]) .leaf)) .leaf)) _ _ _ (⟨annOk_leaf, ⟨⟨trivial, annOk_leaf⟩, annOk_leaf⟩⟩) ?_
 refine cast ?_ hb
 kernel_rfl
def N34 (x0 x1 : Sl) (h : Hp) (K : Bool → Hp → Prop) : Prop :=
 bif (((x0.n : Nat) : Int) != ((x1.n : Nat) : Int)) then
 K false h
 else
 N34_l0 x0 x1 0 h
 (fun h0 =>
 K true h0)
 (fun b0 h1 =>
 K b0 h1)
theorem S34 {x0 x1 : Sl} {h : Hp} {K : Bool → Hp → Prop} (hn : N34 x0 x1 h K) : C34 x0 x1 h K := by
 refine calls_of_D Try.func34 (c := B34) rfl (by kernel_rfl) ?_
 refine den_sound hE hm _ (.two .leaf (.two .leaf (.two (.two .leaf (.one (.xf N34_l0_t))) .leaf))) _ _ _ (⟨annOk_leaf, ⟨annOk_leaf, ⟨⟨annOk_leaf, N34_l0_ok⟩, annOk_leaf⟩⟩⟩) ?_
 refine cast ?_ hn
 kernel_rfl
end Go.Proofs.Ytkfccpabigikkaa

set_option linter.unusedVariables false
set_option maxRecDepth 100000
namespace Go.Proofs.Ytkfccpabigikkaa
open Go Go.Hw
noncomputable def B29 : Code := match Try.f29.body with | some c => c | none => .skip
def N29_l0_b (x0 : Option Addr) (x1 x2 : Sl) (Φ : Int → Hp → Prop) (x7 : Int) (h : Hp) (K0 : Hp → Prop) : Prop :=
 bif (decide (x7 < ((x1.n : Nat) : Int))) then
 nn x0 fun a0 =>
 xP (cell h (a0.add 2)) fun p0 =>
 idx x7 x1.n <|
 nn x1.p fun a1 =>
 xL (cell h ((a1.add (x7.toNat * 8)).add 7)) fun s0 =>
 C60 p0 s0 h fun h0 =>
 Φ (IntKind.wrap .i64 (x7 + 1)) h0
 else
 K0 h
def N29_l0_B (x0 : Option Addr) (x1 x2 : Sl) (K0 : Hp → Prop) (s : Sg.T [(7, .c (.int .i64))]) (h : Hp) (Φ : Sg.T [(7, .c (.int .i64))] → Hp → Prop) : Prop :=
 N29_l0_b x0 x1 x2 (fun x7 h => Φ x7 h) s h K0
def N29_l0 (x0 : Option Addr) (x1 x2 : Sl) (x7 : Int) (h : Hp) (K0 : Hp → Prop) : Prop :=
 loopP (N29_l0_B x0 x1 x2 K0) x7 h
noncomputable def N29_l0_t : Xf := loopT [(0, .c (.ptr)), (1, .c (.slice)), (2, .c (.slice))] [(7, .c (.int .i64))] (codeAt B29 [1, 0, 1, 0, 0]) fun F Q => N29_l0_B F.1 F.2.1 F.2.2 (fun h' => Q (.exit 0) (Sg.env [] ()) h')
theorem N29_l0_ok : Sound Try.prog Try.f29.ntmps N29_l0_t (codeAt B29 [1, 0, 1, 0]) := by
 refine loop_sound (fun e => match e with | .exit 0 => [] | _ => []) (by kernel_rfl) ?_
 intro F Q s h Φ hb
 refine den_sound hE hm _ (.two .leaf (.two (.one (.ord [0, 1, 2, 3, 4, 5, 6, 7, 8, 9])) .leaf)) _ _ _ (⟨annOk_leaf, ⟨trivial, annOk_leaf⟩⟩) ?_
 refine cast ?_ hb
 kernel_rfl
def N29_l1_b (x1 : Sl) (x8 : Bool) (Φ : Int → Hp → Prop) (x9 : Int) (h : Hp) (K2 : Hp → Prop) : Prop :=
 bif (decide (x9 < ((x1.n : Nat) : Int))) then
 idx x9 x1.n <|
 nn x1.p fun a0 =>
 st h (a0.add (x9.toNat * 8)) (.int .u8 0) fun h0 =>
 st h0 ((a0.add (x9.toNat * 8)).add 1) (.int .u8 0) fun h1 =>
 st h1 ((a0.add (x9.toNat * 8)).add 2) (.int .u8 0) fun h2 =>
 st h2 ((a0.add (x9.toNat * 8)).add 3) (.int .u8 0) fun h3 =>
 st h3 ((a0.add (x9.toNat * 8)).add 4) (.int .u8 0) fun h4 =>
 st h4 ((a0.add (x9.toNat * 8)).add 5) (.int .u8 0) fun h5 =>
 st h5 ((a0.add (x9.toNat * 8)).add 6) (.int .i64 (-1)) fun h6 =>
 st h6 ((a0.add (x9.toNat * 8)).add 7) (.slice none 0 0) fun h7 =>
 Φ (IntKind.wrap .i64 (x9 + 1)) h7
 else
 K2 h
def N29_l1_B (x1 : Sl) (x8 : Bool) (K2 : Hp → Prop) (s : Sg.T [(9, .c (.int .i64))]) (h : Hp) (Φ : Sg.T [(9, .c (.int .i64))] → Hp → Prop) : Prop :=
 N29_l1_b x1 x8 (fun x9 h => Φ x9 h) s h K2
def N29_l1 (x1 : Sl) (x8 : Bool) (x9 : Int) (h : Hp) (K2 : Hp → Prop) : Prop :=
 loopP (N29_l1_B x1 x8 K2) x9 h
noncomputable def N29_l1_t : Xf := loopT [(1, .c (.slice)), (8, .c (.bool))] [(9, .c (.int .i64))] (codeAt B29 [1, 1, 1, 0, 1, 0, 0]) fun F Q => N29_l1_B F.1 F.2 (fun h' => Q (.exit 2) (Sg.env [] ()) h')
theorem N29_l1_ok : Sound Try.prog Try.f29.ntmps N29_l1_t (codeAt B29 [1, 1, 1, 0, 1, 0]) := by
 refine loop_sound (fun e => match e with | .exit 2 => [] | _ => []) (by kernel_rfl) ?_
 intro F Q s h Φ hb
 refine den_sound hE hm _ .leaf _ _ _ (annOk_leaf) ?_
 refine cast ?_ hb
 kernel_rfl
def N29 (x0 : Option Addr) (x1 x2 : Sl) (h : Hp) (K : Bool → Hp → Prop) : Prop :=
 N29_l0 x0 x1 x2 0 h
 (fun h0 =>
 C61 x1 x2 h0 fun b0 h1 =>
 N29_l1 x1 b0 0 h1
 (fun h2 =>
 K b0 h2))
theorem S29 {x0 : Option Addr} {x1 x2 : Sl} {h : Hp} {K : Bool → Hp → Prop} (hn : N29 x0 x1 x2 h K) : C29 x0 x1 x2 h K := by
 refine calls_of_D Try.func29 (c := B29) rfl (by kernel_rfl) ?_
 refine den_sound hE hm _ (.two .leaf (.two (.two .leaf (.one (.xf N29_l0_t))) (.two .leaf (.two (.two .leaf (.one (.xf N29_l1_t))) .leaf)))) _ _ _ (⟨annOk_leaf, ⟨⟨annOk_leaf, N29_l0_ok⟩, ⟨annOk_leaf, ⟨⟨annOk_leaf, N29_l1_ok⟩, annOk_leaf⟩⟩⟩⟩) ?_
 refine cast ?_ hn
 kernel_rfl
end Go.Proofs.Ytkfccpabigikkaa

set_option linter.unusedVariables false
set_option maxRecDepth 100000
namespace Go.Proofs.Ytkfccpabigikkaa
open Go Go.Hw
noncomputable def B10 : Code := match Try.f10.body with | some c => c | none => .skip
def N10_l0_b (x0 : Option Addr) (x3 x4 x5 : Sl) (x6 : Bool) (Φ : Int → Hp → Prop) (x7 : Int) (h : Hp) (K0 : Hp → Prop) : Prop :=
 bif (decide (x7 < ((x3.n : Nat) : Int))) then
 idx x7 x3.n <|
 nn x3.p fun a0 =>
 st h (a0.add (x7.toNat * 11)) (.int .u32 0) fun h0 =>
 st h0 ((a0.add (x7.toNat * 11)).add 1) (.int .u8 0) fun h1 =>
 st h1 ((a0.add (x7.toNat * 11)).add 2) (.int .u8 0) fun h2 =>
 st h2 ((a0.add (x7.toNat * 11)).add 3) (.int .u8 0) fun h3 =>
 st h3 ((a0.add (x7.toNat * 11)).add 4) (.int .u8 0) fun h4 =>
 st h4 ((a0.add (x7.toNat * 11)).add 5) (.int .u8 0) fun h5 =>
 st h5 ((a0.add (x7.toNat * 11)).add 6) (.int .u8 0) fun h6 =>
 st h6 ((a0.add (x7.toNat * 11)).add 7) (.int .i64 0) fun h7 =>
 st h7 ((a0.add (x7.toNat * 11)).add 8) (.int .i64 0) fun h8 =>
 st h8 ((a0.add (x7.toNat * 11)).add 9) (.int .i64 (-1)) fun h9 =>
 st h9 ((a0.add (x7.toNat * 11)).add 10) (.bool false) fun h10 =>
 Φ (IntKind.wrap .i64 (x7 + 1)) h10
 else
 K0 h
def N10_l0_B (x0 : Option Addr) (x3 x4 x5 : Sl) (x6 : Bool) (K0 : Hp → Prop) (s : Sg.T [(7, .c (.int .i64))]) (h : Hp) (Φ : Sg.T [(7, .c (.int .i64))] → Hp → Prop) : Prop :=
 N10_l0_b x0 x3 x4 x5 x6 (fun x7 h => Φ x7 h) s h K0
def N10_l0 (x0 : Option Addr) (x3 x4 x5 : Sl) (x6 : Bool) (x7 : Int) (h : Hp) (K0 : Hp → Prop) : Prop :=
 loopP (N10_l0_B x0 x3 x4 x5 x6 K0) x7 h
noncomputable def N10_l0_t : Xf := loopT [(0, .c (.ptr)), (3, .c (.slice)), (4, .c (.slice)), (5, .c (.slice)), (6, .c (.bool))] [(7, .c (.int .i64))] (codeAt B10 [1, 1, 1, 1, 1, 0, 1, 0, 0]) fun F Q => N10_l0_B F.1 F.2.1 F.2.2.1 F.2.2.2.1 F.2.2.2.2 (fun h' => Q (.exit 0) (Sg.env [] ()) h')
theorem N10_l0_ok : Sound Try.prog Try.f10.ntmps N10_l0_t (codeAt B10 [1, 1, 1, 1, 1, 0, 1, 0]) := by
 refine loop_sound (fun e => match e with | .exit 0 => [] | _ => []) (by kernel_rfl) ?_
 intro F Q s h Φ hb
 refine den_sound hE hm _ .leaf _ _ _ (annOk_leaf) ?_
 refine cast ?_ hb
 kernel_rfl
def N10 (x0 : Option Addr) (h : Hp) (K : Bool → Hp → Prop) : Prop :=
 nn x0 fun a0 =>
 xP (cell h a0) fun p0 =>
 C21 p0 h fun s0 h0 =>
 nn x0 fun a1 =>
 xP (cell h0 a1) fun p1 =>
 C21 p1 h0 fun s1 h1 =>
 nn x0 fun a2 =>
 xP (cell h1 (a2.add 1)) fun p2 =>
 C33 p2 h1 fun s2 h2 =>
 C34 s0 s2 h2 fun b0 h3 =>
 N10_l0 x0 s0 s1 s2 b0 0 h3
 (fun h4 =>
 C34 s1 s2 h4 fun b1 h5 =>
 nn x0 fun a3 =>
 xP (cell h5 a3) fun p3 =>
 C22 p3 h5 fun n0 b2 h6 =>
 nn x0 fun a4 =>
 xP (cell h6 (a4.add 1)) fun p4 =>
 C35 p4 h6 fun n1 b3 h7 =>
 bif b0 then
 bif b1 then
 bif (n0 == n1) then
 K (b2 == b3) h7
 else
 K false h7
 else
 K false h7
 else
 K false h7)
theorem S10 {x0 : Option Addr} {h : Hp} {K : Bool → Hp → Prop} (hn : N10 x0 h K) : C10 x0 h K := by
 refine calls_of_D Try.func10 (c := B10) rfl (by kernel_rfl) ?_
 refine den_sound hE hm _ (.two .leaf (.two .leaf (.two .leaf (.two .leaf (.two .leaf (.two (.two .leaf (.one (.xf N10_l0_t))) .leaf)))))) _ _ _ (⟨annOk_leaf, ⟨annOk_leaf, ⟨annOk_leaf, ⟨annOk_leaf, ⟨annOk_leaf, ⟨⟨annOk_leaf, N10_l0_ok⟩, annOk_leaf⟩⟩⟩⟩⟩⟩) ?_
 refine cast ?_ hn
 kernel_rfl
end Go.Proofs.Ytkfccpabigikkaa

set_option linter.unusedVariables false
set_option maxRecDepth 100000
namespace Go.Proofs.Ytkfccpabigikkaa
open Go Go.Hw
noncomputable def B9 : Code := match Try.f9.body with | some c => c | none => .skip
def N9 (x0 : Option Addr) (x1_0 x1_1 x1_2 x1_3 : Int) (x1_4 : Sl) (x1_5 x1_6 x1_7 x1_8 x1_9 x1_10 x1_11 x1_12 x1_13 x1_14 x1_15 x1_16 x1_17 x1_18 x1_19 x1_20 : Int) (h : Hp) (K : Bool → Hp → Prop) : Prop :=
 nw h (.cells ⟨[.int .i64 x1_0, .int .i64 x1_1, .int .u32 x1_2, .int .u32 x1_3, .slice x1_4.p x1_4.n x1_4.c, .int .i64 x1_5, .int .u8 x1_6, .int .u8 x1_7, .int .u8 x1_8, .int .u8 x1_9, .int .u8 x1_10, .int .u8 x1_11, .int .u32 x1_12, .int .u8 x1_13, .int .u8 x1_14, .int .u8 x1_15, .int .u8 x1_16, .int .u8 x1_17, .int .u8 x1_18, .int .u32 x1_19, .int .u32 x1_20]⟩ 44) fun b0 h0 =>
 xI .i64 (cell h0 (bk b0)) fun n0 =>
 bif (n0 == 1) then
 xL (cell h0 ((bk b0).add 4)) fun s0 =>
 C26 s0 h0 fun s1 h1 =>
 nn x0 fun a0 =>
 xP (cell h1 a0) fun p0 =>
 xI .u32 (cell h1 ((bk b0).add 2)) fun n1 =>
 xI .u32 (cell h1 ((bk b0).add 3)) fun n2 =>
 xI .i64 (cell h1 ((bk b0).add 1)) fun n3 =>
 C12 p0 n1 n2 s1 n3 h1 fun s2 h2 =>
 xL (cell h2 ((bk b0).add 4)) fun s3 =>
 C27 s1 s3 h2 fun b1 h3 =>
 nn x0 fun a1 =>
 xP (cell h3 (a1.add 1)) fun p1 =>
 xI .u32 (cell h3 ((bk b0).add 2)) fun n4 =>
 xI .u32 (cell h3 ((bk b0).add 3)) fun n5 =>
 xL (cell h3 ((bk b0).add 4)) fun s4 =>
 xI .i64 (cell h3 ((bk b0).add 1)) fun n6 =>
 C28 p1 n4 n5 s4 n6 h3 fun s5 h4 =>
 C29 x0 s2 s5 h4 fun b2 h5 =>
 bif b1 then
 K b2 h5
 else
 K false h5
 else
 bif (n0 == 2) then
 nn x0 fun a2 =>
 xP (cell h0 a2) fun p2 =>
 xI .i64 (cell h0 ((bk b0).add 5)) fun n7 =>
 xI .u8 (cell h0 ((bk b0).add 6)) fun n8 =>
 xI .u8 (cell h0 ((bk b0).add 7)) fun n9 =>
 xI .u8 (cell h0 ((bk b0).add 8)) fun n10 =>
 xI .u8 (cell h0 ((bk b0).add 9)) fun n11 =>
 xI .u8 (cell h0 ((bk b0).add 10)) fun n12 =>
 xI .u8 (cell h0 ((bk b0).add 11)) fun n13 =>
 xI .u32 (cell h0 ((bk b0).add 12)) fun n14 =>
 xI .u8 (cell h0 ((bk b0).add 13)) fun n15 =>
 xI .u8 (cell h0 ((bk b0).add 14)) fun n16 =>
 xI .u8 (cell h0 ((bk b0).add 15)) fun n17 =>
 xI .u8 (cell h0 ((bk b0).add 16)) fun n18 =>
 xI .u8 (cell h0 ((bk b0).add 17)) fun n19 =>
 xI .u8 (cell h0 ((bk b0).add 18)) fun n20 =>
 xI .u32 (cell h0 ((bk b0).add 19)) fun n21 =>
 xI .u32 (cell h0 ((bk b0).add 20)) fun n22 =>
 xI .i64 (cell h0 ((bk b0).add 1)) fun n23 =>
 C18 p2 n7 n8 n9 n10 n11 n12 n13 n14 n15 n16 n17 n18 n19 n20 n21 n22 n23 h0 fun s6 h6 =>
 nn x0 fun a3 =>
 xP (cell h6 (a3.add 1)) fun p3 =>
 xI .i64 (cell h6 ((bk b0).add 5)) fun n24 =>
 xI .u8 (cell h6 ((bk b0).add 6)) fun n25 =>
 xI .u8 (cell h6 ((bk b0).add 7)) fun n26 =>
 xI .u8 (cell h6 ((bk b0).add 8)) fun n27 =>
 xI .u8 (cell h6 ((bk b0).add 9)) fun n28 =>
 xI .u8 (cell h6 ((bk b0).add 10)) fun n29 =>
 xI .u8 (cell h6 ((bk b0).add 11)) fun n30 =>
 xI .u32 (cell h6 ((bk b0).add 12)) fun n31 =>
 xI .u8 (cell h6 ((bk b0).add 13)) fun n32 =>
 xI .u8 (cell h6 ((bk b0).add 14)) fun n33 =>
 xI .u8 (cell h6 ((bk b0).add 15)) fun n34 =>
 xI .u8 (cell h6 ((bk b0).add 16)) fun n35 =>
 xI .u8 (cell h6 ((bk b0).add 17)) fun n36 =>
 xI .u8 (cell h6 ((bk b0).add 18)) fun n37 =>
 xI .u32 (cell h6 ((bk b0).add 19)) fun n38 =>
 xI .u32 (cell h6 ((bk b0).add 20)) fun n39 =>
 xI .i64 (cell h6 ((bk b0).add 1)) fun n40 =>
 C30 p3 n24 n25 n26 n27 n28 n29 n30 n31 n32 n33 n34 n35 n36 n37 n38 n39 n40 h6 fun s7 h7 =>
 C29 x0 s6 s7 h7 fun b3 h8 =>
 K b3 h8
 else
 bif (n0 == 3) then
 nn x0 fun a4 =>
 xP (cell h0 a4) fun p4 =>
 xI .i64 (cell h0 ((bk b0).add 1)) fun n41 =>
 C19 p4 n41 h0 fun s8 h9 =>
 nn x0 fun a5 =>
 xP (cell h9 (a5.add 1)) fun p5 =>
 xI .i64 (cell h9 ((bk b0).add 1)) fun n42 =>
 C31 p5 n42 h9 fun s9 h10 =>
 C29 x0 s8 s9 h10 fun b4 h11 =>
 K b4 h11
 else
 bif (n0 == 4) then
 nn x0 fun a6 =>
 xP (cell h0 a6) fun p6 =>
 C20 p6 h0 fun h12 =>
 nn x0 fun a7 =>
 xP (cell h12 (a7.add 1)) fun p7 =>
 C32 p7 h12 fun h13 =>
 K true h13
 else
 K true h0
theorem S9 {x0 : Option Addr} {x1_0 x1_1 x1_2 x1_3 : Int} {x1_4 : Sl} {x1_5 x1_6 x1_7 x1_8 x1_9 x1_10 x1_11 x1_12 x1_13 x1_14 x1_15 x1_16 x1_17 x1_18 x1_19 x1_20 : Int} {h : Hp} {K : Bool → Hp → Prop} (hn : N9 x0 x1_0 x1_1 x1_2 x1_3 x1_4 x1_5 x1_6 x1_7 x1_8 x1_9 x1_10 x1_11 x1_12 x1_13 x1_14 x1_15 x1_16 x1_17 x1_18 x1_19 x1_20 h K) : C9 x0 x1_0 x1_1 x1_2 x1_3 x1_4 x1_5 x1_6 x1_7 x1_8 x1_9 x1_10 x1_11 x1_12 x1_13 x1_14 x1_15 x1_16 x1_17 x1_18 x1_19 x1_20 h K := by
 refine calls_of_D Try.func9 (c := B9) rfl (by kernel_rfl) ?_
 refine den_sound hE hm _ (.two .leaf (.two (.two .leaf (.one (.two .leaf (.two (.two .leaf (.two (.ord [0, 1, 2, 3, 4, 5, 6, 7, 8, 9, 10, 11, 12]) (.two .leaf (.two (.ord [0, 1, 2, 3, 4, 5, 6, 7, 8, 9, 10, 11, 12, 13]) .leaf)))) (.two .leaf (.two (.two (.ord [0, 1, 2, 3, 4, 5, 6, 7, 8, 9, 10, 11]) (.two (.ord [0, 1, 2, 3, 4, 5, 6, 7, 8, 9, 10, 11]) .leaf)) (.two .leaf (.two (.two (.ord [0, 1, 2, 3, 4, 5, 6, 7]) (.two (.ord [0, 1, 2, 3, 4, 5, 6, 7]) .leaf)) .leaf)))))))) .leaf)) _ _ _ (⟨annOk_leaf, ⟨⟨annOk_leaf, ⟨annOk_leaf, ⟨⟨annOk_leaf, ⟨trivial, ⟨annOk_leaf, ⟨trivial, annOk_leaf⟩⟩⟩⟩, ⟨annOk_leaf, ⟨⟨trivial, ⟨trivial, annOk_leaf⟩⟩, ⟨annOk_leaf, ⟨⟨trivial, ⟨trivial, annOk_leaf⟩⟩, annOk_leaf⟩⟩⟩⟩⟩⟩⟩, annOk_leaf⟩⟩) ?_
 refine cast ?_ hn
 kernel_rfl
end Go.Proofs.Ytkfccpabigikkaa

set_option linter.unusedVariables false
set_option maxRecDepth 100000
namespace Go.Proofs.Ytkfccpabigikkaa
open Go Go.Hw
end Go.Proofs.Ytkfccpabigikkaa

/-
 The law NeighPlays: both caches stand alike; what is sent is alike, and kept.
-/
set_option linter.unusedSimpArgs false
set_option linter.unusedVariables false
set_option maxRecDepth 4000
namespace Go.Proofs.Ytkfccpabigikkaa
open Go Go.Hw
set_option maxRecDepth 100000 in
theorem live_reckoned : Ix.runC Try.prog 0 1000000 1000 6 [] (Ix.H0 0 0 []) (fun y _ => Ix.CV.eq y (.bool true)) = true := by kernel_rfl
theorem c_live {h : Hp} {K : Bool → Hp → Prop} (hK : ∀ h', Ext none' h h' → K true h') : C6 h K := by
 unfold C6
 exact (Ix.closed (l := []) (bs := []) follows_mixed rfl live_reckoned rfl (fun x hx => by cases hx) (K := fun v h' => v = .bool true ∧ Ext none' h h') fun h' he => ⟨rfl, he⟩).mono fun v h' ⟨e, he⟩ => by subst e; exact hK h' he
theorem book_rd {L : List Asn} {k : Nat} {E : List Ent} {h : Hp} (hs : Sat (L ++ [bookA k E]) h) : ∀ e ∈ E, RdB h e.1 e.2 := by
 intro e he
 obtain ⟨⟨p, q⟩, hs⟩ := Sat.unex hs
 have hs := hs.open
 have g : Sat ((L ++ [row k 35 [p.v, q.v], Hw.own 40 1 p (E.map fun e => e.1.v), Hw.own 9 1 q (E.map fun e => .string ⟨⟨e.2⟩⟩)]) ++ [star (E.map ownB)]) h := hs.part [0, 1, 2, 3] (by decide) rfl
 obtain ⟨L', g2⟩ := star_get g he
 exact (g2.own 0 rfl).rdb
theorem sndC_w (x : Snd × Sl) : (sndC x).length = 8 := rfl
theorem nbC_w (x : NE) : (nbC x).length = 11 := rfl
section
variable {L : List Asn} {h : Hp}
theorem c_ssnd {a b : Sl} {X Y : List (Snd × Sl)} {K : Bool → Hp → Prop} (HA : RdE h a sndC X) (HB : RdE h b sndC Y) (RA : ∀ x ∈ X, RdB h x.2 x.1.data) (RB : ∀ x ∈ Y, RdB h x.2 x.1.data) (he : X.map Prod.fst = Y.map Prod.fst) (hl : X.length ≤ 1000000) (hK : K true h) : C61 a b h K := by
 apply S61; unfold N61
 have han := HA.n
 have hbn := HB.n
 have hxy : X.length = Y.length := by have := congrArg List.length he; simpa using this
 rw [show (((a.n : Nat) : Int) != ((b.n : Nat) : Int)) = false by simp; omega, cond_false]
 unfold N61_l0
 refine loopP_inv (fun (z : Int) hc => hc = h ∧ ∃ i : Nat, z = i ∧ i ≤ X.length) (fun z _ => X.length - z.toNat) ?_ ⟨rfl, 0, rfl, Nat.zero_le _⟩
 rintro z hc ⟨rfl, i, rfl, hi⟩
 unfold N61_l0_B N61_l0_b
 dsimp only
 by_cases hlt : i < X.length
 ·rw [show decide ((i : Int) < ((a.n : Nat) : Int)) = true from decide_eq_true (by omega), cond_true]
  have hx : X[i]? = some X[i] := List.getElem?_eq_getElem hlt
  have hlt' : i < Y.length := by omega
  have hy : Y[i]? = some Y[i] := List.getElem?_eq_getElem hlt'
  have hxy2 : X[i].1 = Y[i].1 := by
   have := congrArg (fun l => l[i]?) he
   simp only [List.getElem?_map, hx, hy, Option.map_some] at this
   exact Option.some.inj this
  have rx := RA X[i] (List.getElem_mem hlt)
  have ry := RB Y[i] (List.getElem_mem hlt')
  generalize X[i] = x at hx hxy2 rx
  generalize Y[i] = y at hy hxy2 ry
  obtain ⟨x, sx⟩ := x
  obtain ⟨y, sy⟩ := y
  simp only at hxy2 rx ry
  subst hxy2
  refine HA.elem sndC_w (by decide) hx rfl ?_
  intro a0 ha0 rd0 rd
  simp only [Int.toNat_natCast]
  refine xI_of (rd0 rfl) ?_
  refine xI_of (rd rfl) ?_
  refine xI_of (rd rfl) ?_
  refine xI_of (rd rfl) ?_
  refine xI_of (rd rfl) ?_
  refine xI_of (rd rfl) ?_
  refine HB.elem sndC_w (by decide) hy rfl ?_
  intro b0 hb0 rb0 rb
  refine xI_of (rb0 rfl) ?_
  refine xI_of (rb rfl) ?_
  refine xI_of (rb rfl) ?_
  refine xI_of (rb rfl) ?_
  refine xI_of (rb rfl) ?_
  refine xI_of (rb rfl) ?_
  simp only [beq_self_eq_true, Bool.and_self, Bool.not_true, cond_false]
  refine HA.elem sndC_w (by decide) hx rfl ?_
  intro a1 ha1 rd1 rd
  refine xI_of (rd rfl) ?_
  refine HB.elem sndC_w (by decide) hy rfl ?_
  intro b1 hb1 rb1 rb
  refine xI_of (rb rfl) ?_
  simp only [bne_self_eq_false, cond_false]
  refine HA.elem sndC_w (by decide) hx rfl ?_
  intro a2 ha2 rd2 rd
  refine xL_of (s := sx) (rd rfl) ?_
  refine rx.b2s ?_
  refine HB.elem sndC_w (by decide) hy rfl ?_
  intro b2 hb2 rb2 rb
  refine xL_of (s := sy) (rb rfl) ?_
  refine ry.b2s ?_
  simp only [beq_self_eq_true, Bool.not_true, cond_false]
  rw [nat_succ64 (by omega)]
  exact ⟨⟨by trivial, i + 1, rfl, hlt⟩, by omega⟩
 ·rw [show decide ((i : Int) < ((a.n : Nat) : Int)) = false from decide_eq_false (by omega), cond_false]
  exact hK
theorem c_snei {a b : Sl} {X : List NE} {K : Bool → Hp → Prop} (HA : RdE h a nbC X) (HB : RdE h b nbC X) (hl : X.length ≤ 1000000) (hK : K true h) : C34 a b h K := by
 apply S34; unfold N34
 have han := HA.n
 have hbn := HB.n
 rw [show (((a.n : Nat) : Int) != ((b.n : Nat) : Int)) = false by simp; omega, cond_false]
 unfold N34_l0
 refine loopP_inv (fun (z : Int) hc => hc = h ∧ ∃ i : Nat, z = i ∧ i ≤ X.length) (fun z _ => X.length - z.toNat) ?_ ⟨rfl, 0, rfl, Nat.zero_le _⟩
 rintro z hc ⟨rfl, i, rfl, hi⟩
 unfold N34_l0_B N34_l0_b
 dsimp only
 by_cases hlt : i < X.length
 ·rw [show decide ((i : Int) < ((a.n : Nat) : Int)) = true from decide_eq_true (by omega), cond_true]
  have hx : X[i]? = some X[i] := List.getElem?_eq_getElem hlt
  generalize X[i] = x at hx
  refine HA.elem nbC_w (by decide) hx rfl ?_
  intro a0 ha0 rd0 rd
  simp only [Int.toNat_natCast]
  refine xI_of (rd0 rfl) ?_
  refine xI_of (rd rfl) ?_
  refine xI_of (rd rfl) ?_
  refine xI_of (rd rfl) ?_
  refine xI_of (rd rfl) ?_
  refine xI_of (rd rfl) ?_
  refine xI_of (rd rfl) ?_
  refine xI_of (rd rfl) ?_
  refine xI_of (rd rfl) ?_
  refine xI_of (rd rfl) ?_
  refine xB_of (rd rfl) ?_
  refine HB.elem nbC_w (by decide) hx rfl ?_
  intro b0 hb0 rb0 rb
  refine xI_of (rb0 rfl) ?_
  refine xI_of (rb rfl) ?_
  refine xI_of (rb rfl) ?_
  refine xI_of (rb rfl) ?_
  refine xI_of (rb rfl) ?_
  refine xI_of (rb rfl) ?_
  refine xI_of (rb rfl) ?_
  refine xI_of (rb rfl) ?_
  refine xI_of (rb rfl) ?_
  refine xI_of (rb rfl) ?_
  refine xB_of (rb rfl) ?_
  simp only [beq_self_eq_true, Bool.and_self, Bool.not_true, cond_false]
  rw [nat_succ64 (by omega)]
  exact ⟨⟨by trivial, i + 1, rfl, hlt⟩, by omega⟩
 ·rw [show decide ((i : Int) < ((a.n : Nat) : Int)) = false from decide_eq_false (by omega), cond_false]
  exact hK
def entOf (x : Snd × Sl) : Ent := (x.2, x.1.data)
abbrev PrC (b R k : Nat) : List Value := [.pointer (some (bk b)), .pointer (some (bk R)), .pointer (some (bk k))]
theorem ovr {w : Nat} {T : TypeId} {s : Sl} {n : Nat} {r o : Nat} {v : Value} {F : Hp → Prop} (hs : ∃ vs, vs.length = n ∧ Sat (L ++ [Hw.own T w s vs]) h) (hr : s.p = some (bk r)) (ho : o < n) (hp : plain v = true) (hF : ∀ h', (∃ vs, vs.length = n ∧ Sat (L ++ [Hw.own T w s vs]) h') → F h') : Hw.st h ⟨r, o, none⟩ v F := by
 obtain ⟨vs, hn, hs⟩ := hs
 have := hs.stO (v := v) (F := F) 0 rfl (k := o) (by omega) hp hr fun h' hs' => hF h' ⟨_, by rw [List.length_set]; exact hn, hs'⟩
 rw [add_bk] at this
 exact this
theorem c_sent {pb b R k : Nat} {a d : Sl} {o : List Snd} {E : List Ent} {K : Bool → Hp → Prop} (hs : Sat (L ++ [row pb 37 (PrC b R k), sndsA a o, sndsA d o, bookA k E]) h) (hE : E.length + o.length ≤ 1000000000) (hol : o.length ≤ 1000)
  (hK : ∀ E' h', Sat (L ++ [row pb 37 (PrC b R k), bookA k E']) h' → E'.length = E.length + o.length → (∀ e ∈ E', e ∈ E ∨ ∃ x ∈ o, e.2 = x.data) → K true h') : C29 (some (bk pb)) a d h K := by
 apply S29; unfold N29 N29_l0
 have an := snds_n (L := L ++ [row pb 37 (PrC b R k), sndsA d o, bookA k E]) (hs.part [0, 2, 3, 1] (by decide) rfl)
 have g1 : Sat ((L ++ [row pb 37 (PrC b R k), sndsA d o, bookA k E]) ++ [sndsA a o]) h := hs.part [0, 2, 3, 1] (by decide) rfl
 obtain ⟨X, g2, hX⟩ := snds_open g1
 have hXl : X.length = o.length := by rw [← hX, List.length_map]
 have g3 : Sat ((L ++ [row pb 37 (PrC b R k), bookA k E, Hw.own 59 8 a (X.flatMap sndC), star (X.map fun x => Hw.own 5 1 x.2 (bc x.1.data))]) ++ [sndsA d o]) h := (Sat.asc g2).part [0, 2, 3, 4, 1] (by decide) rfl
 obtain ⟨Y, g4, hY⟩ := snds_open g3
 have hYl : Y.length = o.length := by rw [← hY, List.length_map]
 have g5 : Sat (L ++ [row pb 37 (PrC b R k), Hw.own 59 8 a (X.flatMap sndC), Hw.own 59 8 d (Y.flatMap sndC), star (Y.map fun x => Hw.own 5 1 x.2 (bc x.1.data)), star (X.map fun x => Hw.own 5 1 x.2 (bc x.1.data)), bookA k E]) h := (Sat.asc g4).sel [0, 2, 4, 5, 3, 1] (by decide) rfl
 -- the bytes go into the book
 refine loopP_inv (fun (z : Int) hc => ∃ i : Nat, z = i ∧ i ≤ X.length ∧ Sat (L ++ [row pb 37 (PrC b R k), Hw.own 59 8 a (X.flatMap sndC), Hw.own 59 8 d (Y.flatMap sndC), star (Y.map fun x => Hw.own 5 1 x.2 (bc x.1.data)), star ((X.drop i).map fun x => Hw.own 5 1 x.2 (bc x.1.data)), bookA k (E ++ (X.take i).map entOf)]) hc) (fun z _ => X.length - z.toNat) ?_ ⟨0, rfl, Nat.zero_le _, by simpa using g5⟩
 rintro z hc ⟨i, rfl, hi, g6⟩
 unfold N29_l0_B N29_l0_b
 dsimp only
 by_cases hlt : i < X.length
 ·rw [show decide ((i : Int) < ((a.n : Nat) : Int)) = true from decide_eq_true (by omega), cond_true]
  have hx : X[i]? = some X[i] := List.getElem?_eq_getElem hlt
  have hdr : X.drop i = X[i] :: X.drop (i + 1) := List.drop_eq_getElem_cons hlt
  have htk : X.take (i + 1) = X.take i ++ [X[i]] := List.take_succ_eq_append_getElem hlt
  generalize X[i] = x at hx hdr htk
  simp only [nn_some', add_bk]
  refine g6.lP 0 rfl rfl ?_
  refine g6.elem 1 rfl sndC_w (by decide) hx rfl ?_
  intro r hr rd
  simp only [add_bk, Int.toNat_natCast]
  simp only [add_mk]
  refine xL_of (s := x.2) (rd rfl) ?_
  rw [hdr] at g6
  have g7 : Sat ((L ++ [row pb 37 (PrC b R k), Hw.own 59 8 a (X.flatMap sndC), Hw.own 59 8 d (Y.flatMap sndC), star (Y.map fun x => Hw.own 5 1 x.2 (bc x.1.data)), bookA k (E ++ (X.take i).map entOf)]) ++ [star ((x :: X.drop (i + 1)).map fun x => Hw.own 5 1 x.2 (bc x.1.data))]) hc := g6.part [0, 1, 2, 3, 5, 4] (by decide) rfl
  have g8 := g7.out 0 (A := Hw.own 5 1 x.2 (bc x.1.data)) rfl
  have g9 : Sat ((L ++ [row pb 37 (PrC b R k), Hw.own 59 8 a (X.flatMap sndC), Hw.own 59 8 d (Y.flatMap sndC), star (Y.map fun x => Hw.own 5 1 x.2 (bc x.1.data)), star ((X.drop (i + 1)).map fun x => Hw.own 5 1 x.2 (bc x.1.data))]) ++ [bookA k (E ++ (X.take i).map entOf), Hw.own 5 1 x.2 (bc x.1.data)]) hc := (Sat.asc g8).part [0, 1, 2, 3, 5, 4, 6] (by decide) rfl
  refine c_take g9 (by simp; omega) fun h1 g10 => ?_
  rw [nat_succ64 (by omega)]
  refine ⟨⟨i + 1, rfl, hlt, ?_⟩, by omega⟩
  have e1 : E ++ (X.take (i + 1)).map entOf = E ++ (X.take i).map entOf ++ [(x.2, x.1.data)] := by rw [htk, List.map_append, ← List.append_assoc]; rfl
  rw [e1]
  exact Sat.asc g10
 ·rw [show decide ((i : Int) < ((a.n : Nat) : Int)) = false from decide_eq_false (by omega), cond_false]
  have : i = X.length := by omega
  subst this
  rw [List.take_length] at g6
  have RA : ∀ x ∈ X, RdB hc x.2 x.1.data := by
   intro x hx
   have g7 : Sat ((L ++ [row pb 37 (PrC b R k), Hw.own 59 8 a (X.flatMap sndC), Hw.own 59 8 d (Y.flatMap sndC), star (Y.map fun x => Hw.own 5 1 x.2 (bc x.1.data))]) ++ [bookA k (E ++ X.map entOf)]) hc := g6.part [0, 1, 2, 3, 5] (by decide) rfl
   exact book_rd g7 (entOf x) (List.mem_append_right _ (List.mem_map.2 ⟨x, hx, rfl⟩))
  have RB : ∀ x ∈ Y, RdB hc x.2 x.1.data := by
   intro x hx
   have g7 : Sat ((L ++ [row pb 37 (PrC b R k), Hw.own 59 8 a (X.flatMap sndC), Hw.own 59 8 d (Y.flatMap sndC), bookA k (E ++ X.map entOf)]) ++ [star (Y.map fun x => Hw.own 5 1 x.2 (bc x.1.data))]) hc := g6.part [0, 1, 2, 5, 3] (by decide) rfl
   obtain ⟨L', g8⟩ := star_get g7 hx
   exact (g8.own 0 rfl).rdb
  refine c_ssnd ((g6.own 1 rfl).rde sndC_w (by decide)) ((g6.own 2 rfl).rde sndC_w (by decide)) RA RB (by rw [hX, hY]) (by omega) ?_
  unfold N29_l1
  have g7 : Sat ((L ++ [row pb 37 (PrC b R k), bookA k (E ++ X.map entOf)]) ++ [Hw.own 59 8 a (X.flatMap sndC)]) hc := g6.part [0, 5, 1] (by decide) rfl
  refine loopP_inv (fun (z : Int) hc => ∃ i : Nat, z = i ∧ i ≤ X.length ∧ ∃ vs, vs.length = X.length * 8 ∧ Sat ((L ++ [row pb 37 (PrC b R k), bookA k (E ++ X.map entOf)]) ++ [Hw.own 59 8 a vs]) hc) (fun z _ => X.length - z.toNat) ?_ ⟨0, rfl, Nat.zero_le _, _, sndC_len X, g7⟩
  rintro z hd ⟨i, rfl, hi, g8⟩
  unfold N29_l1_B N29_l1_b
  dsimp only
  by_cases hlt : i < X.length
  ·rw [show decide ((i : Int) < ((a.n : Nat) : Int)) = true from decide_eq_true (by omega), cond_true]
   refine idx_of (by omega) (by omega) ?_
   obtain ⟨r, hr⟩ : ∃ r, a.p = some (bk r) := by
    obtain ⟨vs, hv, g9⟩ := g8
    obtain ⟨v, hv2⟩ : ∃ v, vs[0]? = some v := get_of_lt (by omega)
    obtain ⟨r, hr, _⟩ := g9.cel 0 rfl hv2
    exact ⟨r, hr⟩
   rw [hr]
   simp only [nn_some', add_bk, Int.toNat_natCast]
   simp only [add_mk]
   refine ovr g8 hr (by omega) rfl fun h1 g8 => ?_
   refine ovr g8 hr (by omega) rfl fun h1 g8 => ?_
   refine ovr g8 hr (by omega) rfl fun h1 g8 => ?_
   refine ovr g8 hr (by omega) rfl fun h1 g8 => ?_
   refine ovr g8 hr (by omega) rfl fun h1 g8 => ?_
   refine ovr g8 hr (by omega) rfl fun h1 g8 => ?_
   refine ovr g8 hr (by omega) rfl fun h1 g8 => ?_
   refine ovr g8 hr (by omega) rfl fun h1 g8 => ?_
   rw [nat_succ64 (by omega)]
   exact ⟨⟨i + 1, rfl, hlt, g8⟩, by omega⟩
  ·rw [show decide ((i : Int) < ((a.n : Nat) : Int)) = false from decide_eq_false (by omega), cond_false]
   obtain ⟨vs, _, g9⟩ := g8
   refine hK (E ++ X.map entOf) hd ((Sat.asc g9).sel [0, 1] (by decide) rfl) (by simp; omega) ?_
   intro e he
   rcases List.mem_append.1 he with he | he
   ·exact .inl he
   ·obtain ⟨x, hx, rfl⟩ := List.mem_map.1 he
    refine .inr ⟨x.1, ?_, rfl⟩
    rw [← hX]; exact List.mem_map.2 ⟨x, hx, rfl⟩
theorem c_alike {pb b R k : Nat} {c : Ca} {K : Bool → Hp → Prop} (hs : Sat (L ++ [row pb 37 (PrC b R k), cacheA b c, refA R c]) h) (ho : c.ok)
  (hK : ∀ h', Sat (L ++ [row pb 37 (PrC b R k), cacheA b c, refA R c]) h' → K true h') : C10 (some (bk pb)) h K := by
 apply S10; unfold N10
 have hl64 := ho.len
 have hm64 := ho.most
 simp only [nn_some', add_bk]
 refine hs.lP 0 (k := 0) rfl rfl ?_
 have g1 : Sat ((L ++ [row pb 37 (PrC b R k), refA R c]) ++ [cacheA b c]) h := hs.part [0, 2, 1] (by decide) rfl
 refine n_look g1 ho fun s0 h1 g2 => ?_
 have g2 : Sat (L ++ [row pb 37 (PrC b R k), refA R c, cacheA b c, Hw.own 68 11 s0 (nbs c.l)]) h1 := Sat.asc g2
 refine g2.lP 0 (k := 0) rfl rfl ?_
 have g3 : Sat ((L ++ [row pb 37 (PrC b R k), refA R c, Hw.own 68 11 s0 (nbs c.l)]) ++ [cacheA b c]) h1 := g2.part [0, 1, 3, 2] (by decide) rfl
 refine n_look g3 ho fun s1 h2 g4 => ?_
 have g4 : Sat (L ++ [row pb 37 (PrC b R k), refA R c, Hw.own 68 11 s0 (nbs c.l), cacheA b c, Hw.own 68 11 s1 (nbs c.l)]) h2 := Sat.asc g4
 refine g4.lP 0 rfl rfl ?_
 have g5 : Sat ((L ++ [row pb 37 (PrC b R k), Hw.own 68 11 s0 (nbs c.l), cacheA b c, Hw.own 68 11 s1 (nbs c.l)]) ++ [refA R c]) h2 := g4.part [0, 2, 3, 4, 1] (by decide) rfl
 refine r_look g5 ho fun s2 h3 g6 => ?_
 have g6 : Sat (L ++ [row pb 37 (PrC b R k), Hw.own 68 11 s0 (nbs c.l), cacheA b c, Hw.own 68 11 s1 (nbs c.l), refA R c, Hw.own 68 11 s2 (nbs c.l)]) h3 := Sat.asc g6
 refine c_snei ((g6.own 1 rfl).rde nbC_w (by decide)) ((g6.own 5 rfl).rde nbC_w (by decide)) (by omega) ?_
 have s0n : s0.n = c.l.length := by have := (g6.own 1 rfl).1; rw [nbs_len] at this; omega
 unfold N10_l0
 have g7 : Sat ((L ++ [row pb 37 (PrC b R k), cacheA b c, Hw.own 68 11 s1 (nbs c.l), refA R c, Hw.own 68 11 s2 (nbs c.l)]) ++ [Hw.own 68 11 s0 (nbs c.l)]) h3 := g6.part [0, 2, 3, 4, 5, 1] (by decide) rfl
 refine loopP_inv (fun (z : Int) hc => ∃ i : Nat, z = i ∧ i ≤ c.l.length ∧ ∃ vs, vs.length = c.l.length * 11 ∧ Sat ((L ++ [row pb 37 (PrC b R k), cacheA b c, Hw.own 68 11 s1 (nbs c.l), refA R c, Hw.own 68 11 s2 (nbs c.l)]) ++ [Hw.own 68 11 s0 vs]) hc) (fun z _ => c.l.length - z.toNat) ?_ ⟨0, rfl, Nat.zero_le _, _, nbs_len c.l, g7⟩
 rintro z hd ⟨i, rfl, hi, g8⟩
 unfold N10_l0_B N10_l0_b
 dsimp only
 by_cases hlt : i < c.l.length
 ·rw [show decide ((i : Int) < ((s0.n : Nat) : Int)) = true from decide_eq_true (by omega), cond_true]
  refine idx_of (by omega) (by omega) ?_
  obtain ⟨r, hr⟩ : ∃ r, s0.p = some (bk r) := by
   obtain ⟨vs, hv, g9⟩ := g8
   obtain ⟨v, hv2⟩ : ∃ v, vs[0]? = some v := get_of_lt (by omega)
   obtain ⟨r, hr, _⟩ := g9.cel 0 rfl hv2
   exact ⟨r, hr⟩
  rw [hr]
  simp only [nn_some', add_bk, Int.toNat_natCast]
  simp only [add_mk]
  refine ovr g8 hr (by omega) rfl fun h1 g8 => ?_
  refine ovr g8 hr (by omega) rfl fun h1 g8 => ?_
  refine ovr g8 hr (by omega) rfl fun h1 g8 => ?_
  refine ovr g8 hr (by omega) rfl fun h1 g8 => ?_
  refine ovr g8 hr (by omega) rfl fun h1 g8 => ?_
  refine ovr g8 hr (by omega) rfl fun h1 g8 => ?_
  refine ovr g8 hr (by omega) rfl fun h1 g8 => ?_
  refine ovr g8 hr (by omega) rfl fun h1 g8 => ?_
  refine ovr g8 hr (by omega) rfl fun h1 g8 => ?_
  refine ovr g8 hr (by omega) rfl fun h1 g8 => ?_
  refine ovr g8 hr (by omega) rfl fun h1 g8 => ?_
  rw [nat_succ64 (by omega)]
  exact ⟨⟨i + 1, rfl, hlt, g8⟩, by omega⟩
 ·rw [show decide ((i : Int) < ((s0.n : Nat) : Int)) = false from decide_eq_false (by omega), cond_false]
  obtain ⟨vs, _, g9⟩ := g8
  have g9 : Sat (L ++ [row pb 37 (PrC b R k), cacheA b c, Hw.own 68 11 s1 (nbs c.l), refA R c, Hw.own 68 11 s2 (nbs c.l)]) hd := g9.left
  refine c_snei ((g9.own 2 rfl).rde nbC_w (by decide)) ((g9.own 4 rfl).rde nbC_w (by decide)) (by omega) ?_
  refine g9.lP 0 (k := 0) rfl rfl ?_
  have g10 : Sat ((L ++ [row pb 37 (PrC b R k), refA R c]) ++ [cacheA b c]) hd := g9.part [0, 3, 1] (by decide) rfl
  refine n_next g10 ho fun n x h4 hn g11 => ?_
  have g12 : Sat (L ++ [row pb 37 (PrC b R k), cacheA b c, refA R c]) h4 := (Sat.asc g11).sel [0, 2, 1] (by decide) rfl
  refine g12.lP 0 rfl rfl ?_
  have g13 : Sat ((L ++ [row pb 37 (PrC b R k), cacheA b c]) ++ [refA R c]) h4 := Sat.csa g12 (A := [_, _])
  refine r_next g13 ho fun m y hm => ?_
  obtain ⟨rfl, rfl⟩ := hn.one hm
  simp only [beq_self_eq_true, cond_true]
  exact hK _ g12
end
end Go.Proofs.Ytkfccpabigikkaa

set_option linter.unusedVariables false
set_option maxRecDepth 100000
namespace Go.Proofs.Ytkfccpabigikkaa
open Go Go.Hw
noncomputable def B4 : Code := match Try.f4.body with | some c => c | none => .skip
noncomputable def N4_r0_t : Ann := .xf (treeT Try.prog E Try.f4.ntmps (.one 0 (.one 1 (.one 3 (.one 4 (.one 6 (.fork 2 (.fork 5 (.fork 7 (.one 8 (.fork 9 (.one 10 .done) .done)) .done) (.fork 7 (.fork 5 (.one 8 (.fork 9 (.one 10 .done) .done)) .done) .done)) (.fork 7 (.fork 2 (.fork 5 (.one 8 (.fork 9 (.one 10 .done) .done)) .done) .done) .done))))))) (codeAt B4 [1, 1, 1, 0]))
theorem N4_r0_ok : annOk Try.prog Try.f4.ntmps N4_r0_t (codeAt B4 [1, 1, 1, 0]) := tree_sound hE hm (by kernel_rfl)
def N4_l1_b (x2 : Sl) (x8 : Option Addr) (Φ : Int → Hp → Prop) (x9 : Int) (h : Hp) (K0 : Hp → Prop) (Kr : Bool → Hp → Prop) : Prop :=
 bif (decide (x9 < ((x2.n : Nat) : Int))) then
 idx x9 x2.n <|
 nn x2.p fun a0 =>
 xI .i64 (cell h (a0.add (x9.toNat * 21))) fun n0 =>
 xI .i64 (cell h ((a0.add (x9.toNat * 21)).add 1)) fun n1 =>
 xI .u32 (cell h ((a0.add (x9.toNat * 21)).add 2)) fun n2 =>
 xI .u32 (cell h ((a0.add (x9.toNat * 21)).add 3)) fun n3 =>
 xL (cell h ((a0.add (x9.toNat * 21)).add 4)) fun s0 =>
 xI .i64 (cell h ((a0.add (x9.toNat * 21)).add 5)) fun n4 =>
 xI .u8 (cell h ((a0.add (x9.toNat * 21)).add 6)) fun n5 =>
 xI .u8 (cell h ((a0.add (x9.toNat * 21)).add 7)) fun n6 =>
 xI .u8 (cell h ((a0.add (x9.toNat * 21)).add 8)) fun n7 =>
 xI .u8 (cell h ((a0.add (x9.toNat * 21)).add 9)) fun n8 =>
 xI .u8 (cell h ((a0.add (x9.toNat * 21)).add 10)) fun n9 =>
 xI .u8 (cell h ((a0.add (x9.toNat * 21)).add 11)) fun n10 =>
 xI .u32 (cell h ((a0.add (x9.toNat * 21)).add 12)) fun n11 =>
 xI .u8 (cell h ((a0.add (x9.toNat * 21)).add 13)) fun n12 =>
 xI .u8 (cell h ((a0.add (x9.toNat * 21)).add 14)) fun n13 =>
 xI .u8 (cell h ((a0.add (x9.toNat * 21)).add 15)) fun n14 =>
 xI .u8 (cell h ((a0.add (x9.toNat * 21)).add 16)) fun n15 =>
 xI .u8 (cell h ((a0.add (x9.toNat * 21)).add 17)) fun n16 =>
 xI .u8 (cell h ((a0.add (x9.toNat * 21)).add 18)) fun n17 =>
 xI .u32 (cell h ((a0.add (x9.toNat * 21)).add 19)) fun n18 =>
 xI .u32 (cell h ((a0.add (x9.toNat * 21)).add 20)) fun n19 =>
 C9 x8 n0 n1 n2 n3 s0 n4 n5 n6 n7 n8 n9 n10 n11 n12 n13 n14 n15 n16 n17 n18 n19 h fun b0 h0 =>
 bif (!b0) then
 Kr false h0
 else
 C10 x8 h0 fun b1 h1 =>
 bif (!b1) then
 Kr false h1
 else
 Φ (IntKind.wrap .i64 (x9 + 1)) h1
 else
 K0 h
def N4_l1_B (x2 : Sl) (x8 : Option Addr) (K0 : Hp → Prop) (Kr : Bool → Hp → Prop) (s : Sg.T [(9, .c (.int .i64))]) (h : Hp) (Φ : Sg.T [(9, .c (.int .i64))] → Hp → Prop) : Prop :=
 N4_l1_b x2 x8 (fun x9 h => Φ x9 h) s h K0 Kr
def N4_l1 (x2 : Sl) (x8 : Option Addr) (x9 : Int) (h : Hp) (K0 : Hp → Prop) (Kr : Bool → Hp → Prop) : Prop :=
 loopP (N4_l1_B x2 x8 K0 Kr) x9 h
noncomputable def N4_l1_t : Xf := loopT [(2, .c (.slice)), (8, .c (.ptr))] [(9, .c (.int .i64))] (codeAt B4 [1, 1, 1, 1, 1, 1, 0, 1, 0, 0]) fun F Q => N4_l1_B F.1 F.2 (fun h' => Q (.exit 0) (Sg.env [] ()) h') (fun o0 h' => Q .ret (Sg.env [(6, .c (.bool))] o0) h')
theorem N4_l1_ok : Sound Try.prog Try.f4.ntmps N4_l1_t (codeAt B4 [1, 1, 1, 1, 1, 1, 0, 1, 0]) := by
 refine loop_sound (fun e => match e with | .exit 0 => [] | .ret => [6] | _ => []) (by kernel_rfl) ?_
 intro F Q s h Φ hb
 refine den_sound hE hm _ .leaf _ _ _ (annOk_leaf) ?_
 refine cast ?_ hb
 kernel_rfl
def N4_j0 (x2 : Sl) (x8 : Option Addr) (h : Hp) (Kr : Bool → Hp → Prop) : Prop :=
 nn x8 fun a0 =>
 xP (cell h a0) fun p0 =>
 peq h p0 none fun b0 =>
 nn x8 fun a1 =>
 xP (cell h (a1.add 1)) fun p1 =>
 peq h p1 none fun b1 =>
 bif (!(b0 == b1)) then
 Kr false h
 else
 nn x8 fun a2 =>
 xP (cell h (a2.add 1)) fun p2 =>
 peq h p2 none fun b2 =>
 bif b2 then
 Kr true h
 else
 N4_l1 x2 x8 0 h
 (fun h0 =>
 nn x8 fun a3 =>
 xP (cell h0 (a3.add 2)) fun p3 =>
 C11 p3 h0 fun b3 h1 =>
 Kr b3 h1)
 (fun b4 h2 =>
 Kr b4 h2)
noncomputable def N4_j0_t : Xf := pieceT [(2, .c (.slice)), (8, .c (.ptr))] (codeAt B4 [1, 1, 1, 1]) fun x h Q => N4_j0 x.1 x.2 h (fun o0 h' => Q .ret (Sg.env [(6, .c (.bool))] o0) h')
theorem N4_j0_ok : Sound Try.prog Try.f4.ntmps N4_j0_t (codeAt B4 [1, 1, 1, 1]) := by
 refine piece_sound (fun e => match e with | .ret => [6] | _ => []) ?_
 intro x h Q hb
 refine den_sound hE hm _ (.two (.two (.ord [0, 1, 2, 3, 4, 5, 6, 7, 8, 9, 10]) .leaf) (.two .leaf (.two (.two .leaf (.one (.xf N4_l1_t))) .leaf))) _ _ _ (⟨⟨trivial, annOk_leaf⟩, ⟨annOk_leaf, ⟨⟨annOk_leaf, N4_l1_ok⟩, annOk_leaf⟩⟩⟩) ?_
 refine cast ?_ hb
 kernel_rfl
def N4 (x0_0 x0_1 x0_2 x0_3 x0_4 x0_5 x1 : Int) (x2 : Sl) (h : Hp) (K : Bool → Hp → Prop) : Prop :=
 nw h (.cells ⟨[.int .u8 x0_0, .int .u8 x0_1, .int .u8 x0_2, .int .u8 x0_3, .int .u8 x0_4, .int .u8 x0_5]⟩ 24) fun b0 h0 =>
 C6 h0 fun b1 h1 =>
 bif (!b1) then
 K false h1
 else
 xI .u8 (cell h1 (bk b0)) fun n0 =>
 xI .u8 (cell h1 ((bk b0).add 1)) fun n1 =>
 xI .u8 (cell h1 ((bk b0).add 2)) fun n2 =>
 xI .u8 (cell h1 ((bk b0).add 3)) fun n3 =>
 xI .u8 (cell h1 ((bk b0).add 4)) fun n4 =>
 xI .u8 (cell h1 ((bk b0).add 5)) fun n5 =>
 xI .u8 (cell h1 (bk b0)) fun n6 =>
 xI .u8 (cell h1 ((bk b0).add 1)) fun n7 =>
 xI .u8 (cell h1 ((bk b0).add 2)) fun n8 =>
 xI .u8 (cell h1 ((bk b0).add 3)) fun n9 =>
 xI .u8 (cell h1 ((bk b0).add 4)) fun n10 =>
 xI .u8 (cell h1 ((bk b0).add 5)) fun n11 =>
 alt (
 C7 n0 n1 n2 n3 n4 n5 x1 h1 fun p0 h2 =>
 both (xI .u8 (cell h2 (bk b0)) fun n12 => xI .u8 (cell h2 ((bk b0).add 1)) fun n13 => xI .u8 (cell h2 ((bk b0).add 2)) fun n14 => xI .u8 (cell h2 ((bk b0).add 3)) fun n15 => xI .u8 (cell h2 ((bk b0).add 4)) fun n16 => xI .u8 (cell h2 ((bk b0).add 5)) fun n17 => Only (.agg ⟨[.int .u8 n6, .int .u8 n7, .int .u8 n8, .int .u8 n9, .int .u8 n10, .int .u8 n11]⟩) h2 (.agg ⟨[.int .u8 n12, .int .u8 n13, .int .u8 n14, .int .u8 n15, .int .u8 n16, .int .u8 n17]⟩) h2) <|
 alt (
 C8 n6 n7 n8 n9 n10 n11 x1 h2 fun p1 h3 =>
 nw h3 (.cells ⟨[.slice none 0 0, .slice none 0 0]⟩ 35) fun b2 h4 =>
 both (xI .u8 (cell h4 (bk b0)) fun n18 => xI .u8 (cell h4 ((bk b0).add 1)) fun n19 => xI .u8 (cell h4 ((bk b0).add 2)) fun n20 => xI .u8 (cell h4 ((bk b0).add 3)) fun n21 => xI .u8 (cell h4 ((bk b0).add 4)) fun n22 => xI .u8 (cell h4 ((bk b0).add 5)) fun n23 => Only (.agg ⟨[.int .u8 n6, .int .u8 n7, .int .u8 n8, .int .u8 n9, .int .u8 n10, .int .u8 n11]⟩) h4 (.agg ⟨[.int .u8 n18, .int .u8 n19, .int .u8 n20, .int .u8 n21, .int .u8 n22, .int .u8 n23]⟩) h4) <|
 both (xI .u8 (cell h4 (bk b0)) fun n24 => xI .u8 (cell h4 ((bk b0).add 1)) fun n25 => xI .u8 (cell h4 ((bk b0).add 2)) fun n26 => xI .u8 (cell h4 ((bk b0).add 3)) fun n27 => xI .u8 (cell h4 ((bk b0).add 4)) fun n28 => xI .u8 (cell h4 ((bk b0).add 5)) fun n29 => Only (.agg ⟨[.int .u8 n0, .int .u8 n1, .int .u8 n2, .int .u8 n3, .int .u8 n4, .int .u8 n5]⟩) h4 (.agg ⟨[.int .u8 n24, .int .u8 n25, .int .u8 n26, .int .u8 n27, .int .u8 n28, .int .u8 n29]⟩) h4) <|
 nw h4 (.cells ⟨[.pointer p0, .pointer p1, .pointer (some (bk b2))]⟩ 37) fun b3 h5 =>
 N4_j0 x2 (some (bk b3)) h5
 (fun b4 h6 =>
 K b4 h6)) <|
 nw h2 (.cells ⟨[.slice none 0 0, .slice none 0 0]⟩ 35) fun b5 h7 =>
 both (xI .u8 (cell h7 (bk b0)) fun n30 => xI .u8 (cell h7 ((bk b0).add 1)) fun n31 => xI .u8 (cell h7 ((bk b0).add 2)) fun n32 => xI .u8 (cell h7 ((bk b0).add 3)) fun n33 => xI .u8 (cell h7 ((bk b0).add 4)) fun n34 => xI .u8 (cell h7 ((bk b0).add 5)) fun n35 => Only (.agg ⟨[.int .u8 n6, .int .u8 n7, .int .u8 n8, .int .u8 n9, .int .u8 n10, .int .u8 n11]⟩) h7 (.agg ⟨[.int .u8 n30, .int .u8 n31, .int .u8 n32, .int .u8 n33, .int .u8 n34, .int .u8 n35]⟩) h7) <|
 both (xI .u8 (cell h7 (bk b0)) fun n36 => xI .u8 (cell h7 ((bk b0).add 1)) fun n37 => xI .u8 (cell h7 ((bk b0).add 2)) fun n38 => xI .u8 (cell h7 ((bk b0).add 3)) fun n39 => xI .u8 (cell h7 ((bk b0).add 4)) fun n40 => xI .u8 (cell h7 ((bk b0).add 5)) fun n41 => Only (.agg ⟨[.int .u8 n0, .int .u8 n1, .int .u8 n2, .int .u8 n3, .int .u8 n4, .int .u8 n5]⟩) h7 (.agg ⟨[.int .u8 n36, .int .u8 n37, .int .u8 n38, .int .u8 n39, .int .u8 n40, .int .u8 n41]⟩) h7) <|
 C8 n6 n7 n8 n9 n10 n11 x1 h7 fun p2 h8 =>
 nw h8 (.cells ⟨[.pointer p0, .pointer p2, .pointer (some (bk b5))]⟩ 37) fun b6 h9 =>
 N4_j0 x2 (some (bk b6)) h9
 (fun b7 h10 =>
 K b7 h10)) <|
 nw h1 (.cells ⟨[.slice none 0 0, .slice none 0 0]⟩ 35) fun b8 h11 =>
 both (xI .u8 (cell h11 (bk b0)) fun n42 => xI .u8 (cell h11 ((bk b0).add 1)) fun n43 => xI .u8 (cell h11 ((bk b0).add 2)) fun n44 => xI .u8 (cell h11 ((bk b0).add 3)) fun n45 => xI .u8 (cell h11 ((bk b0).add 4)) fun n46 => xI .u8 (cell h11 ((bk b0).add 5)) fun n47 => Only (.agg ⟨[.int .u8 n6, .int .u8 n7, .int .u8 n8, .int .u8 n9, .int .u8 n10, .int .u8 n11]⟩) h11 (.agg ⟨[.int .u8 n42, .int .u8 n43, .int .u8 n44, .int .u8 n45, .int .u8 n46, .int .u8 n47]⟩) h11) <|
 both (xI .u8 (cell h11 (bk b0)) fun n48 => xI .u8 (cell h11 ((bk b0).add 1)) fun n49 => xI .u8 (cell h11 ((bk b0).add 2)) fun n50 => xI .u8 (cell h11 ((bk b0).add 3)) fun n51 => xI .u8 (cell h11 ((bk b0).add 4)) fun n52 => xI .u8 (cell h11 ((bk b0).add 5)) fun n53 => Only (.agg ⟨[.int .u8 n0, .int .u8 n1, .int .u8 n2, .int .u8 n3, .int .u8 n4, .int .u8 n5]⟩) h11 (.agg ⟨[.int .u8 n48, .int .u8 n49, .int .u8 n50, .int .u8 n51, .int .u8 n52, .int .u8 n53]⟩) h11) <|
 C7 n0 n1 n2 n3 n4 n5 x1 h11 fun p3 h12 =>
 both (xI .u8 (cell h12 (bk b0)) fun n54 => xI .u8 (cell h12 ((bk b0).add 1)) fun n55 => xI .u8 (cell h12 ((bk b0).add 2)) fun n56 => xI .u8 (cell h12 ((bk b0).add 3)) fun n57 => xI .u8 (cell h12 ((bk b0).add 4)) fun n58 => xI .u8 (cell h12 ((bk b0).add 5)) fun n59 => Only (.agg ⟨[.int .u8 n6, .int .u8 n7, .int .u8 n8, .int .u8 n9, .int .u8 n10, .int .u8 n11]⟩) h12 (.agg ⟨[.int .u8 n54, .int .u8 n55, .int .u8 n56, .int .u8 n57, .int .u8 n58, .int .u8 n59]⟩) h12) <|
 C8 n6 n7 n8 n9 n10 n11 x1 h12 fun p4 h13 =>
 nw h13 (.cells ⟨[.pointer p3, .pointer p4, .pointer (some (bk b8))]⟩ 37) fun b9 h14 =>
 N4_j0 x2 (some (bk b9)) h14
 (fun b10 h15 =>
 K b10 h15)
theorem S4 {x0_0 x0_1 x0_2 x0_3 x0_4 x0_5 x1 : Int} {x2 : Sl} {h : Hp} {K : Bool → Hp → Prop} (hn : N4 x0_0 x0_1 x0_2 x0_3 x0_4 x0_5 x1 x2 h K) : C4 x0_0 x0_1 x0_2 x0_3 x0_4 x0_5 x1 x2 h K := by
 refine calls_of_D Try.func4 (c := B4) rfl (by kernel_rfl) ?_
 refine den_sound hE hm _ (.two .leaf (.two .leaf (.two .leaf (.two N4_r0_t (.xf N4_j0_t))))) _ _ _ (⟨annOk_leaf, ⟨annOk_leaf, ⟨annOk_leaf, ⟨N4_r0_ok, N4_j0_ok⟩⟩⟩⟩) ?_
 refine cast ?_ hn
 kernel_rfl
end Go.Proofs.Ytkfccpabigikkaa

/-
 The law NeighPlays: a call on both caches; the whole script.
-/
set_option linter.unusedSimpArgs false
set_option linter.unusedVariables false
set_option maxRecDepth 4000
namespace Go.Proofs.Ytkfccpabigikkaa
open Go Go.Hw
def Short (o : List Snd) : Prop := o.length ≤ 100 ∧ ∀ x ∈ o, x.data.length ≤ 1099511627776
theorem short_nil : Short [] := ⟨by simp, by simp⟩
theorem short_q {c : Ca} {e : NE} : (questC c e).data.length ≤ 1099511627776 := by simp [questC, arpL_len]
theorem newC_short {c : Ca} {src ip : Int} {pk : List UInt8} : Short (newC c src ip pk).1 := by
 unfold newC
 split
 ·exact short_nil
 ·exact ⟨by simp, by intro x hx; simp at hx; subst hx; exact short_q⟩
theorem askC_short {c : Ca} (h : c.ok) {src ip : Int} {pk : List UInt8} (hp : pk.length ≤ 1099511627776) : Short (askC c src ip pk).1 := by
 unfold askC
 split
 ·exact newC_short
 ·split
  ·exact short_nil
  ·split
   ·exact ⟨by simp, by intro x hx; simp at hx; subst hx; exact hp⟩
   ·exact newC_short
theorem learnC_short {c : Ca} (h : c.ok) {ip : Int} {mac : M6} {asks : Bool} : Short (learnC c ip mac asks).1 := by
 unfold learnC
 split
 ·rename_i e he
  have := (h.all e (findK_some he).1).pk
  dsimp only
  split
  ·exact ⟨by simp, by intro x hx; simp at hx; subst hx; exact this⟩
  ·exact short_nil
 ·split
  ·split
   ·exact short_nil
   ·exact short_nil
  ·exact short_nil
theorem onC_short {c : Ca} (h : c.ok) {op si di own : Int} {s : M6} : Short (onC c op s si di own).1 := by
 unfold onC
 split
 ·exact short_nil
 ·have h1 : Short (if (isHost si && decide (si ≠ own)) = true then learnC c si s (asksC op own di) else ([], c)).1 := by
   split
   ·exact learnC_short h
   ·exact short_nil
  have h2 : (if (isHost si && decide (si ≠ own)) = true then learnC c si s (asksC op own di) else ([], c)).1.length ≤ 1 := by
   split
   ·exact learn_n
   ·simp
  refine ⟨?_, ?_⟩
  ·have h3 : (if asksC op own di = true then [(⟨s, 2054, arpL 2 c.own di s si⟩ : Snd)] else []).length ≤ 1 := by split <;> simp
   dsimp only
   rw [List.length_append]
   omega
  ·intro x hx
   rcases List.mem_append.1 hx with hx | hx
   ·exact h1.2 x hx
   ·split at hx
    ·simp at hx; subst hx; simp [arpL_len]
    ·cases hx
theorem tickL_data {c : Ca} : ∀ {l : List NE}, ∀ x ∈ (tickL c l).2, x.data.length ≤ 1099511627776 := by
 intro l
 induction l with
 | nil => intro x hx; cases hx
 | cons e l ih =>
  intro x hx
  rw [tickL] at hx
  split at hx
  ·exact ih x hx
  ·split at hx
   ·exact ih x hx
   ·rcases List.mem_cons.1 hx with rfl | hx
    ·exact short_q
    ·exact ih x hx
theorem tickC_short {c : Ca} (h : c.ok) : Short (tickC c).1 := ⟨by have := tickL_len (c := c) (l := c.l); have := h.len; have := h.most; simp only [tickC]; omega, tickL_data⟩
structure OpN where
 kind : Int
 now : Int
 src : Int
 ip : Int
 pk : List UInt8
 s : Sl
 op : Int
 sm : M6
 si : Int
 dm : M6
 di : Int
 own : Int
def opC (o : OpN) : List Value := [.int .i64 o.kind, .int .i64 o.now, .int .u32 o.src, .int .u32 o.ip, o.s.v, .int .i64 o.op, .int .u8 o.sm.a, .int .u8 o.sm.b, .int .u8 o.sm.c, .int .u8 o.sm.d, .int .u8 o.sm.e, .int .u8 o.sm.f, .int .u32 o.si, .int .u8 o.dm.a, .int .u8 o.dm.b, .int .u8 o.dm.c, .int .u8 o.dm.d, .int .u8 o.dm.e, .int .u8 o.dm.f, .int .u32 o.di, .int .u32 o.own]
theorem opC_w (o : OpN) : (opC o).length = 21 := rfl
structure OpN.ok (h : Hp) (B : Nat) (o : OpN) : Prop where
 src : 0 ≤ o.src ∧ o.src < 4294967296
 ip : 0 ≤ o.ip ∧ o.ip < 4294967296
 rd : RdB h o.s o.pk
 pk : o.pk.length ≤ B
 sm : o.sm.ok
 si : 0 ≤ o.si ∧ o.si < 4294967296
 di : 0 ≤ o.di ∧ o.di < 4294967296
section
variable {L : List Asn} {h : Hp}
theorem c_step {pb b R k B : Nat} {c : Ca} {E : List Ent} {o : OpN} {K : Bool → Hp → Prop} (hs : Sat (L ++ [row pb 37 (PrC b R k), cacheA b c, refA R c, bookA k E]) h) (ho : c.ok) (hop : ∀ h', Sat L h' → o.ok h' B) (hB : B ≤ 1048576) (hE : E.length ≤ 900000000)
  (hK : ∀ c' E' h', Sat (L ++ [row pb 37 (PrC b R k), cacheA b c', refA R c', bookA k E']) h' → c'.ok → E'.length ≤ E.length + 100 → (∀ e ∈ E', e ∈ E ∨ e.2.length ≤ 1099511627776) → K true h') :
  C9 (some (bk pb)) o.kind o.now o.src o.ip o.s o.op o.sm.a o.sm.b o.sm.c o.sm.d o.sm.e o.sm.f o.si o.dm.a o.dm.b o.dm.c o.dm.d o.dm.e o.dm.f o.di o.own h K := by
 apply S9; unfold N9
 have hop0 := hop h hs.left
 refine hs.nw ?_
 intro z h1 g1 _
 have g1 : Sat (L ++ [row pb 37 (PrC b R k), cacheA b c, refA R c, bookA k E, row z 44 (opC o)]) h1 := g1
 have sent_ : ∀ {c' : Ca} {a d : Sl} {out : List Snd} {h2 : Hp}, Sat (L ++ [row pb 37 (PrC b R k), cacheA b c', refA R c', bookA k E, sndsA a out, sndsA d out]) h2 → c'.ok → Short out → C29 (some (bk pb)) a d h2 K := by
  intro c' a d out h2 g hc' hsh
  have g3 : Sat ((L ++ [cacheA b c', refA R c']) ++ [row pb 37 (PrC b R k), sndsA a out, sndsA d out, bookA k E]) h2 := g.part [1, 2, 0, 4, 5, 3] (by decide) rfl
  refine c_sent g3 (by have := hsh.1; omega) (by have := hsh.1; omega) fun E' h3 g4 hl he => ?_
  refine hK c' E' h3 ((Sat.asc g4).sel [2, 0, 1, 3] (by decide) rfl) hc' (by have := hsh.1; omega) fun e hem => ?_
  rcases he e hem with q | ⟨x, hx, q⟩
  ·exact .inl q
  ·exact .inr (by rw [q]; exact hsh.2 x hx)
 simp only [add_bk, nn_some']
 refine g1.lI 4 (k := 0) rfl rfl ?_
 by_cases k1 : o.kind = 1
 ·rw [show (o.kind == 1) = true by simp [k1], cond_true]
  have hpk := hop0.pk
  refine g1.lL 4 rfl rfl ?_
  refine c_lent (hop h1 g1.left).rd (by omega) fun h2 p hp => ?_
  have g2 := g1.addNew hp
  have g2 : Sat (L ++ [row pb 37 (PrC b R k), cacheA b c, refA R c, bookA k E, row z 44 (opC o), Hw.own 5 1 ⟨p, o.pk.length + 2, o.pk.length + 2⟩ (bc (o.pk ++ [71, 72]))]) h2 := g2
  refine g2.lP 0 (k := 0) rfl rfl ?_
  refine g2.lI 4 rfl rfl ?_
  refine g2.lI 4 rfl rfl ?_
  refine g2.lI 4 rfl rfl ?_
  have g3 : Sat ((L ++ [row pb 37 (PrC b R k), refA R c, bookA k E, row z 44 (opC o), Hw.own 5 1 ⟨p, o.pk.length + 2, o.pk.length + 2⟩ (bc (o.pk ++ [71, 72]))]) ++ [cacheA b c]) h2 := g2.part [0, 2, 3, 4, 5, 1] (by decide) rfl
  have lrd : ∀ h', Sat (L ++ [row pb 37 (PrC b R k), refA R c, bookA k E, row z 44 (opC o), Hw.own 5 1 ⟨p, o.pk.length + 2, o.pk.length + 2⟩ (bc (o.pk ++ [71, 72]))]) h' → RdB h' ⟨p, o.pk.length, o.pk.length + 2⟩ o.pk := by
   intro h' g
   have hr := (g.own 4 rfl).rdb
   refine ⟨rfl, by simp, ?_⟩
   intro i v hi
   have hil := lt_of_get hi
   rw [bc_len] at hil
   refine hr.r i v ?_
   rw [bc_app, List.getElem?_append_left (by rw [bc_len]; exact hil)]; exact hi
  refine n_ask g3 ho lrd (by omega) hop0.src hop0.ip fun s2 h3 g4 => ?_
  have g4 : Sat (L ++ [row pb 37 (PrC b R k), refA R c, bookA k E, row z 44 (opC o), Hw.own 5 1 ⟨p, o.pk.length + 2, o.pk.length + 2⟩ (bc (o.pk ++ [71, 72])), cacheA b (askC (tellC c o.now) o.src o.ip o.pk).2, sndsA s2 (askC (tellC c o.now) o.src o.ip o.pk).1]) h3 := Sat.asc g4
  refine g4.lL 3 rfl rfl ?_
  refine c_asLent g4 4 rfl (hop h3 g4.left).rd (by omega) fun h4 vs g5 => ?_
  have g5 : Sat (L ++ [row pb 37 (PrC b R k), refA R c, bookA k E, row z 44 (opC o), Hw.own 5 1 ⟨p, o.pk.length + 2, o.pk.length + 2⟩ vs, cacheA b (askC (tellC c o.now) o.src o.ip o.pk).2, sndsA s2 (askC (tellC c o.now) o.src o.ip o.pk).1]) h4 := g5
  refine g5.lP 0 rfl rfl ?_
  refine g5.lI 3 rfl rfl ?_
  refine g5.lI 3 rfl rfl ?_
  refine g5.lL 3 rfl rfl ?_
  refine g5.lI 3 rfl rfl ?_
  have g6 : Sat ((L ++ [row pb 37 (PrC b R k), bookA k E, cacheA b (askC (tellC c o.now) o.src o.ip o.pk).2, sndsA s2 (askC (tellC c o.now) o.src o.ip o.pk).1]) ++ [refA R c]) h4 := g5.part [0, 2, 5, 6, 1] (by decide) rfl
  refine r_ask g6 ho (fun h' g => (hop h' g.left).rd) (by omega) hop0.src hop0.ip fun s3 h5 g7 => ?_
  have g8 : Sat (L ++ [row pb 37 (PrC b R k), cacheA b (askC (tellC c o.now) o.src o.ip o.pk).2, refA R (askC (tellC c o.now) o.src o.ip o.pk).2, bookA k E, sndsA s2 (askC (tellC c o.now) o.src o.ip o.pk).1, sndsA s3 (askC (tellC c o.now) o.src o.ip o.pk).1]) h5 := (Sat.asc g7).sel [0, 2, 4, 1, 3, 5] (by decide) rfl
  have := sent_ g8 (askC_ok (ho.tell o.now) hop0.src hop0.ip (by omega)) (askC_short (ho.tell o.now) (by omega))
  refine this.mono ?_
  exact fun v h' hv => hv
 ·rw [show (o.kind == 1) = false by simp [k1], cond_false]
  by_cases k2 : o.kind = 2
  ·rw [show (o.kind == 2) = true by simp [k2], cond_true]
   refine g1.lP 0 (k := 0) rfl rfl ?_
   refine g1.lI 4 rfl rfl ?_
   refine g1.lI 4 rfl rfl ?_
   refine g1.lI 4 rfl rfl ?_
   refine g1.lI 4 rfl rfl ?_
   refine g1.lI 4 rfl rfl ?_
   refine g1.lI 4 rfl rfl ?_
   refine g1.lI 4 rfl rfl ?_
   refine g1.lI 4 rfl rfl ?_
   refine g1.lI 4 rfl rfl ?_
   refine g1.lI 4 rfl rfl ?_
   refine g1.lI 4 rfl rfl ?_
   refine g1.lI 4 rfl rfl ?_
   refine g1.lI 4 rfl rfl ?_
   refine g1.lI 4 rfl rfl ?_
   refine g1.lI 4 rfl rfl ?_
   refine g1.lI 4 rfl rfl ?_
   refine g1.lI 4 rfl rfl ?_
   have g3 : Sat ((L ++ [row pb 37 (PrC b R k), refA R c, bookA k E, row z 44 (opC o)]) ++ [cacheA b c]) h1 := g1.part [0, 2, 3, 4, 1] (by decide) rfl
   refine n_on (s6 := o.sm) (d6 := o.dm) g3 ho hop0.sm hop0.si hop0.di fun s2 h3 g4 => ?_
   have g4 : Sat (L ++ [row pb 37 (PrC b R k), refA R c, bookA k E, row z 44 (opC o), cacheA b (onC (tellC c o.now) o.op o.sm o.si o.di o.own).2, sndsA s2 (onC (tellC c o.now) o.op o.sm o.si o.di o.own).1]) h3 := Sat.asc g4
   refine g4.lP 0 rfl rfl ?_
   refine g4.lI 3 rfl rfl ?_
   refine g4.lI 3 rfl rfl ?_
   refine g4.lI 3 rfl rfl ?_
   refine g4.lI 3 rfl rfl ?_
   refine g4.lI 3 rfl rfl ?_
   refine g4.lI 3 rfl rfl ?_
   refine g4.lI 3 rfl rfl ?_
   refine g4.lI 3 rfl rfl ?_
   refine g4.lI 3 rfl rfl ?_
   refine g4.lI 3 rfl rfl ?_
   refine g4.lI 3 rfl rfl ?_
   refine g4.lI 3 rfl rfl ?_
   refine g4.lI 3 rfl rfl ?_
   refine g4.lI 3 rfl rfl ?_
   refine g4.lI 3 rfl rfl ?_
   refine g4.lI 3 rfl rfl ?_
   refine g4.lI 3 rfl rfl ?_
   have g6 : Sat ((L ++ [row pb 37 (PrC b R k), bookA k E, cacheA b (onC (tellC c o.now) o.op o.sm o.si o.di o.own).2, sndsA s2 (onC (tellC c o.now) o.op o.sm o.si o.di o.own).1]) ++ [refA R c]) h3 := g4.part [0, 2, 4, 5, 1] (by decide) rfl
   refine r_on (s6 := o.sm) (d6 := o.dm) g6 ho hop0.sm hop0.si hop0.di fun s3 h5 g7 => ?_
   have g8 : Sat (L ++ [row pb 37 (PrC b R k), cacheA b (onC (tellC c o.now) o.op o.sm o.si o.di o.own).2, refA R (onC (tellC c o.now) o.op o.sm o.si o.di o.own).2, bookA k E, sndsA s2 (onC (tellC c o.now) o.op o.sm o.si o.di o.own).1, sndsA s3 (onC (tellC c o.now) o.op o.sm o.si o.di o.own).1]) h5 := (Sat.asc g7).sel [0, 2, 4, 1, 3, 5] (by decide) rfl
   exact sent_ g8 (onC_ok (ho.tell o.now) hop0.sm hop0.si) (onC_short (ho.tell o.now))
  ·rw [show (o.kind == 2) = false by simp [k2], cond_false]
   by_cases k3 : o.kind = 3
   ·rw [show (o.kind == 3) = true by simp [k3], cond_true]
    refine g1.lP 0 (k := 0) rfl rfl ?_
    refine g1.lI 4 rfl rfl ?_
    have g3 : Sat ((L ++ [row pb 37 (PrC b R k), refA R c, bookA k E, row z 44 (opC o)]) ++ [cacheA b c]) h1 := g1.part [0, 2, 3, 4, 1] (by decide) rfl
    refine n_tick g3 ho fun s2 h3 g4 => ?_
    have g4 : Sat (L ++ [row pb 37 (PrC b R k), refA R c, bookA k E, row z 44 (opC o), cacheA b (tickC (tellC c o.now)).2, sndsA s2 (tickC (tellC c o.now)).1]) h3 := Sat.asc g4
    refine g4.lP 0 rfl rfl ?_
    refine g4.lI 3 rfl rfl ?_
    have g6 : Sat ((L ++ [row pb 37 (PrC b R k), bookA k E, cacheA b (tickC (tellC c o.now)).2, sndsA s2 (tickC (tellC c o.now)).1]) ++ [refA R c]) h3 := g4.part [0, 2, 4, 5, 1] (by decide) rfl
    refine r_tick g6 ho fun s3 h5 g7 => ?_
    have g8 : Sat (L ++ [row pb 37 (PrC b R k), cacheA b (tickC (tellC c o.now)).2, refA R (tickC (tellC c o.now)).2, bookA k E, sndsA s2 (tickC (tellC c o.now)).1, sndsA s3 (tickC (tellC c o.now)).1]) h5 := (Sat.asc g7).sel [0, 2, 4, 1, 3, 5] (by decide) rfl
    exact sent_ g8 (tickC_ok (ho.tell o.now)) (tickC_short (ho.tell o.now))
   ·rw [show (o.kind == 3) = false by simp [k3], cond_false]
    by_cases k4 : o.kind = 4
    ·rw [show (o.kind == 4) = true by simp [k4], cond_true]
     refine g1.lP 0 (k := 0) rfl rfl ?_
     have g3 : Sat ((L ++ [row pb 37 (PrC b R k), refA R c, bookA k E]) ++ [cacheA b c]) h1 := g1.part [0, 2, 3, 1] (by decide) rfl
     refine n_clear g3 fun h3 g4 => ?_
     have g4 : Sat (L ++ [row pb 37 (PrC b R k), refA R c, bookA k E, cacheA b { c with l := [] }]) h3 := Sat.asc g4
     refine g4.lP 0 rfl rfl ?_
     have g6 : Sat ((L ++ [row pb 37 (PrC b R k), bookA k E, cacheA b { c with l := [] }]) ++ [refA R c]) h3 := g4.part [0, 2, 3, 1] (by decide) rfl
     refine r_clear g6 fun h5 g7 => ?_
     refine hK { c with l := [] } E h5 ((Sat.asc g7).sel [0, 2, 3, 1] (by decide) rfl) (ho.sub List.Pairwise.nil (by intro e he; cases he) (by have := ho.most; simp only [List.length_nil]; omega)) (by omega) fun e he => .inl he
    ·rw [show (o.kind == 4) = false by simp [k4], cond_false]
     exact hK c E h1 (g1.sel [0, 1, 2, 3] (by decide) rfl) ho (by omega) fun e he => .inl he
theorem book_new {L M : List Asn} {h : Hp} {F : Nat → Hp → Prop} (hs : Sat (L ++ M) h) (hF : ∀ k h', Sat (L ++ (M ++ [bookA k []])) h' → F k h') :
  nw h (.cells ⟨[.slice none 0 0, .slice none 0 0]⟩ 35) F := by
 intro kb e0
 have a1 := ((Sat.csa (hs.new e0 (.cells ⟨[.slice none 0 0, .slice none 0 0]⟩ 35 (0, 0)))).addNil 40 1).addNil 9 1
 revert a1
 generalize upd h kb _ = h1
 intro a1
 have a2 : Sat (((L ++ M) ++ [row kb 35 [.slice none 0 0, .slice none 0 0], Hw.own 40 1 ⟨none, 0, 0⟩ [], Hw.own 9 1 ⟨none, 0, 0⟩ []]) ++ []) h1 := by rw [List.append_nil]; exact a1
 have a3 : Sat ((L ++ M) ++ [row kb 35 [.slice none 0 0, .slice none 0 0], Hw.own 40 1 ⟨none, 0, 0⟩ [], Hw.own 9 1 ⟨none, 0, 0⟩ [], star []]) h1 := Sat.asc a2.close
 have a4 : Sat ((L ++ M) ++ [bookA kb []]) h1 := Sat.ex (A := fun p : Sl × Sl => star [row kb 35 [p.1.v, p.2.v], Hw.own 40 1 p.1 (([] : List Ent).map fun e => e.1.v), Hw.own 9 1 p.2 (([] : List Ent).map fun e => .string ⟨⟨e.2⟩⟩), star (([] : List Ent).map ownB)]) (⟨none, 0, 0⟩, ⟨none, 0, 0⟩) a3.close
 exact hF kb h1 (Sat.asc a4)
theorem mac_only {L M : List Asn} {h : Hp} {b0 : Nat} {T : TypeId} {m : M6} (hs : Sat (L ++ M) h) (j : Nat) (hj : M[j]? = some (row b0 T [.int .u8 m.a, .int .u8 m.b, .int .u8 m.c, .int .u8 m.d, .int .u8 m.e, .int .u8 m.f])) :
  xI .u8 (cell h ⟨b0, 0, none⟩) fun n0 => xI .u8 (cell h ⟨b0, 1, none⟩) fun n1 => xI .u8 (cell h ⟨b0, 2, none⟩) fun n2 => xI .u8 (cell h ⟨b0, 3, none⟩) fun n3 => xI .u8 (cell h ⟨b0, 4, none⟩) fun n4 => xI .u8 (cell h ⟨b0, 5, none⟩) fun n5 =>
   Only (.agg ⟨[.int .u8 m.a, .int .u8 m.b, .int .u8 m.c, .int .u8 m.d, .int .u8 m.e, .int .u8 m.f]⟩) h (.agg ⟨[.int .u8 n0, .int .u8 n1, .int .u8 n2, .int .u8 n3, .int .u8 n4, .int .u8 n5]⟩) h :=
 hs.lI j hj rfl (hs.lI j hj rfl (hs.lI j hj rfl (hs.lI j hj rfl (hs.lI j hj rfl (hs.lI j hj rfl ⟨rfl, rfl⟩)))))
theorem c_plays {own : M6} {most : Int} {so : Sl} {ops : List OpN} {h : Hp} {K : Bool → Hp → Prop} (hm : own.ok) (H : RdE h so opC ops) (hl : ops.length ≤ 1048576) (hop : ∀ o ∈ ops, o.ok h 1048576) (hK : ∀ h', Ext none' h h' → K true h') : C4 own.a own.b own.c own.d own.e own.f most so h K := by
 apply S4; unfold N4
 have hs0 : Sat ([Hw.was h] ++ []) h := Sat.start
 refine hs0.nw ?_
 intro z h1 g0 _
 have g0 : Sat ([Hw.was h] ++ [row z 24 [.int .u8 own.a, .int .u8 own.b, .int .u8 own.c, .int .u8 own.d, .int .u8 own.e, .int .u8 own.f]]) h1 := g0
 refine c_live fun h2 he2 => ?_
 have g1 := g0.ext he2
 simp only [Bool.not_true, cond_false]
 -- behind the making
 have was_ : ∀ {M : List Asn} {h' : Hp}, Sat ([Hw.was h] ++ M) h' → Ext none' h h' := fun g => g.left.was (L := []) (M := [Hw.was h]) 0 rfl
 have j0 : ∀ {h' : Hp} {pb k : Nat} {p0 p1 : Option Addr}, ((p0 = none ∧ p1 = none ∧ Sat ([Hw.was h] ++ [row pb 37 [.pointer none, .pointer none, .pointer (some (bk k))]]) h') ∨ ∃ b R, p0 = some (bk b) ∧ p1 = some (bk R) ∧ (1 ≤ most ∧ most ≤ 64) ∧ Sat ([Hw.was h] ++ [row pb 37 (PrC b R k), cacheA b ⟨own, most, [], 0⟩, refA R ⟨own, most, [], 0⟩, bookA k []]) h') → N4_j0 so (some (bk pb)) h' K := by
  intro h' pb k p0 p1 hh
  unfold N4_j0
  simp only [nn_some', add_bk]
  rcases hh with ⟨rfl, rfl, g⟩ | ⟨b, R, rfl, rfl, hmo, g⟩
  ·refine g.lP 0 (k := 0) rfl rfl ?_
   simp only [peq_none, Option.isNone_none]
   refine g.lP 0 rfl rfl ?_
   simp only [peq_none, Option.isNone_none, beq_self_eq_true, Bool.not_true, cond_false]
   refine g.lP 0 rfl rfl ?_
   simp only [peq_none, Option.isNone_none, cond_true]
   exact hK _ (was_ g)
  ·refine g.lP 0 (k := 0) rfl rfl ?_
   simp only [peq_none, Option.isNone_some]
   refine g.lP 0 rfl rfl ?_
   simp only [peq_none, Option.isNone_some, beq_self_eq_true, Bool.not_true, cond_false]
   refine g.lP 0 rfl rfl ?_
   simp only [peq_none, Option.isNone_some, cond_false]
   unfold N4_l1
   have hn := H.n
   have ok0 : (⟨own, most, [], 0⟩ : Ca).ok := ⟨hm, hmo, List.Pairwise.nil, (by intro e he; cases he), (by simp only [List.length_nil]; omega), by dsimp only; exact ⟨by decide, by decide⟩⟩
   refine loopP_inv (fun (x : Int) hc => ∃ (i : Nat) (c : Ca) (E : List Ent), x = i ∧ i ≤ ops.length ∧ c.ok ∧ E.length ≤ i * 100 ∧ (∀ e ∈ E, e.2.length ≤ 1099511627776) ∧ Sat ([Hw.was h] ++ [row pb 37 (PrC b R k), cacheA b c, refA R c, bookA k E]) hc) (fun x _ => ops.length - x.toNat) ?_ ⟨0, _, [], rfl, Nat.zero_le _, ok0, Nat.zero_le _, (by intro e he; cases he), g⟩
   rintro x hc ⟨i, c, E, rfl, hi, hco, hE, hEd, g2⟩
   unfold N4_l1_B N4_l1_b
   dsimp only
   by_cases hlt : i < ops.length
   ·rw [show decide ((i : Int) < ((so.n : Nat) : Int)) = true from decide_eq_true (by omega), cond_true]
    have hx : ops[i]? = some ops[i] := List.getElem?_eq_getElem hlt
    have hoi := hop _ (List.getElem_mem hlt)
    generalize ops[i] = o at hx hoi
    refine (H.ext (was_ g2)).elem opC_w (by decide) hx rfl ?_
    intro a ha rd0 rd
    simp only [Int.toNat_natCast]
    refine xI_of (rd0 rfl) ?_
    refine xI_of (rd rfl) ?_
    refine xI_of (rd rfl) ?_
    refine xI_of (rd rfl) ?_
    refine xL_of (s := o.s) (rd rfl) ?_
    refine xI_of (rd rfl) ?_
    refine xI_of (rd rfl) ?_
    refine xI_of (rd rfl) ?_
    refine xI_of (rd rfl) ?_
    refine xI_of (rd rfl) ?_
    refine xI_of (rd rfl) ?_
    refine xI_of (rd rfl) ?_
    refine xI_of (rd rfl) ?_
    refine xI_of (rd rfl) ?_
    refine xI_of (rd rfl) ?_
    refine xI_of (rd rfl) ?_
    refine xI_of (rd rfl) ?_
    refine xI_of (rd rfl) ?_
    refine xI_of (rd rfl) ?_
    refine xI_of (rd rfl) ?_
    refine xI_of (rd rfl) ?_
    refine c_step (o := o) (B := 1048576) g2 hco (fun h' g => ⟨hoi.src, hoi.ip, hoi.rd.ext (was_ (M := []) (by simpa using g)), hoi.pk, hoi.sm, hoi.si, hoi.di⟩) (by omega) (by omega) ?_
    intro c' E' h3 g3 hco' hE' hEd'
    simp only [Bool.not_true, cond_false]
    have g4 : Sat (([Hw.was h] ++ [bookA k E']) ++ [row pb 37 (PrC b R k), cacheA b c', refA R c']) h3 := g3.part [3, 0, 1, 2] (by decide) rfl
    refine c_alike g4 hco' fun h4 g5 => ?_
    simp only [Bool.not_true, cond_false]
    rw [nat_succ64 (by omega)]
    refine ⟨⟨i + 1, c', E', rfl, hlt, hco', by omega, ?_, (Sat.asc g5).sel [1, 2, 3, 0] (by decide) rfl⟩, by omega⟩
    intro e he
    rcases hEd' e he with q | q
    ·exact hEd e q
    ·exact q
   ·rw [show decide ((i : Int) < ((so.n : Nat) : Int)) = false from decide_eq_false (by omega), cond_false]
    refine g2.lP 0 rfl rfl ?_
    have g3 : Sat (([Hw.was h] ++ [row pb 37 (PrC b R k), cacheA b c, refA R c]) ++ [bookA k E]) hc := Sat.csa g2 (A := [_, _, _])
    refine c_owned g3 (by omega) (fun e he => by have := hEd e he; omega) fun h3 g4 => ?_
    exact hK h3 (was_ g4)
 have fin : ∀ {h' : Hp} {k : Nat} {p0 p1 : Option Addr}, ((p0 = none ∧ p1 = none ∧ Sat ([Hw.was h] ++ [bookA k []]) h') ∨ ∃ b R, p0 = some (bk b) ∧ p1 = some (bk R) ∧ (1 ≤ most ∧ most ≤ 64) ∧ Sat ([Hw.was h] ++ [cacheA b ⟨own, most, [], 0⟩, refA R ⟨own, most, [], 0⟩, bookA k []]) h') →
   nw h' (.cells ⟨[.pointer p0, .pointer p1, .pointer (some (bk k))]⟩ 37) fun b3 h5 => N4_j0 so (some (bk b3)) h5 fun b4 h6 => K b4 h6 := by
  intro h' k p0 p1 hh
  rcases hh with ⟨rfl, rfl, g⟩ | ⟨b, R, rfl, rfl, hmo, g⟩
  ·refine g.nw ?_
   intro pb h5 g2 _
   exact j0 (p0 := none) (p1 := none) (k := k) (.inl ⟨rfl, rfl, g2.sel [1] (by decide) rfl⟩)
  ·refine g.nw ?_
   intro pb h5 g2 _
   exact j0 (p0 := some (bk b)) (p1 := some (bk R)) (k := k) (.inr ⟨b, R, rfl, rfl, hmo, g2.sel [3, 0, 1, 2] (by decide) rfl⟩)
 simp only [add_bk]
 refine g1.lI 0 (k := 0) rfl rfl ?_
 refine g1.lI 0 rfl rfl ?_
 refine g1.lI 0 rfl rfl ?_
 refine g1.lI 0 rfl rfl ?_
 refine g1.lI 0 rfl rfl ?_
 refine g1.lI 0 rfl rfl ?_
 refine g1.lI 0 (k := 0) rfl rfl ?_
 refine g1.lI 0 rfl rfl ?_
 refine g1.lI 0 rfl rfl ?_
 refine g1.lI 0 rfl rfl ?_
 refine g1.lI 0 rfl rfl ?_
 refine g1.lI 0 rfl rfl ?_
 have bad : ∀ {x : Prop}, (most < 1 ∨ 64 < most) → (1 ≤ most ∧ most ≤ 64) → x := fun a b => by omega
 refine ⟨?_, ?_⟩
 ·refine n_new g1 ?_ ?_
  ·intro hn h3 g2
   refine ⟨mac_only g2 0 rfl, ?_⟩
   refine ⟨?_, ?_⟩
   ·refine r_new g2 ?_ (fun hy => bad hn hy)
    intro _ h4 g3
    refine book_new g3 fun k h5 g4 => ?_
    refine ⟨mac_only g4 0 rfl, mac_only g4 0 rfl, ?_⟩
    exact fin (.inl ⟨rfl, rfl, g4.sel [1] (by decide) rfl⟩)
   ·refine book_new g2 fun k h4 g3 => ?_
    refine ⟨mac_only g3 0 rfl, mac_only g3 0 rfl, ?_⟩
    refine r_new g3 ?_ (fun hy => bad hn hy)
    intro _ h5 g4
    exact fin (.inl ⟨rfl, rfl, g4.sel [1] (by decide) rfl⟩)
  ·intro hy b h3 g2
   refine ⟨mac_only g2 0 rfl, ?_⟩
   refine ⟨?_, ?_⟩
   ·refine r_new g2 (fun hn => bad hn hy) ?_
    intro _ R h4 g3
    refine book_new g3 fun k h5 g4 => ?_
    refine ⟨mac_only g4 0 rfl, mac_only g4 0 rfl, ?_⟩
    exact fin (.inr ⟨b, R, rfl, rfl, hy, g4.sel [1, 2, 3] (by decide) rfl⟩)
   ·refine book_new g2 fun k h4 g3 => ?_
    refine ⟨mac_only g3 0 rfl, mac_only g3 0 rfl, ?_⟩
    refine r_new g3 (fun hn => bad hn hy) ?_
    intro _ R h5 g4
    exact fin (.inr ⟨b, R, rfl, rfl, hy, g4.sel [1, 3, 2] (by decide) rfl⟩)
 ·refine book_new g1 fun k h3 g2 => ?_
  refine ⟨mac_only g2 0 rfl, mac_only g2 0 rfl, ?_⟩
  refine n_new g2 ?_ ?_
  ·intro hn h4 g3
   refine ⟨mac_only g3 0 rfl, ?_⟩
   refine r_new g3 ?_ (fun hy => bad hn hy)
   intro _ h5 g4
   exact fin (.inl ⟨rfl, rfl, g4.sel [1] (by decide) rfl⟩)
  ·intro hy b h4 g3
   refine ⟨mac_only g3 0 rfl, ?_⟩
   refine r_new g3 (fun hn => bad hn hy) ?_
   intro _ R h5 g4
   exact fin (.inr ⟨b, R, rfl, rfl, hy, g4.sel [2, 3, 1] (by decide) rfl⟩)
end
end Go.Proofs.Ytkfccpabigikkaa

/-
 What the second form's bound gives.
-/
set_option linter.unusedSimpArgs false
set_option linter.unusedVariables false
namespace Go.Proofs.Ytkfccpabigikkaa
open Go Go.Hw
theorem bulk_one {H : Type} (d : DataW H) : 1 ≤ Rows.uptoBulk d := by
 cases d with
 | lit l => cases l <;> simp [Rows.uptoBulk]
 | _ => simp [Rows.uptoBulk]
theorem bulk_in {H : Type} {d : DataW H} {l : List (DataW H)} (h : d ∈ l) : Rows.uptoBulk d ≤ Rows.uptoBulkAll l := by
 induction l with
 | nil => cases h
 | cons x r ih =>
  simp only [Rows.uptoBulkAll]
  rcases List.mem_cons.1 h with e | e
  ·subst e; omega
  ·have := ih e; omega
theorem bulk_len {H : Type} (l : List (DataW H)) : l.length ≤ Rows.uptoBulkAll l := by
 induction l with
 | nil => simp [Rows.uptoBulkAll]
 | cons x r ih => have := bulk_one x; simp only [Rows.uptoBulkAll, List.length_cons]; omega
theorem bulk_slice {H : Type} (e s : List (DataW H)) : e.length ≤ Rows.uptoBulk (.slice e s) := by
 have := bulk_len e
 simp only [Rows.uptoBulk]; omega
theorem bulk_str {H : Type} (b : List UInt8) : b.length ≤ Rows.uptoBulk (DataW.lit (H := H) (.string b)) := by simp [Rows.uptoBulk]
theorem bulk_all {H : Type} {l : List (DataW H)} (hk : Rows.uptoSmall H l = true) {d : DataW H} (hd : d ∈ l) : Rows.uptoBulk d ≤ 1048576 := Nat.le_trans (bulk_in hd) (of_decide_eq_true hk)
end Go.Proofs.Ytkfccpabigikkaa
