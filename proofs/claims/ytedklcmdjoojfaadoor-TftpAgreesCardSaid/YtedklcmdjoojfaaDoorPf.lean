/-
  What the operations give that only compute: arithmetic, comparisons, places, parts.
-/
import Derived.Test.YtedklcmdjoojfaaDoorPe
import Derived.Laws.Strings
import Derived.Test.YtedklcmdjoojfaaDoorPc
set_option linter.unusedSimpArgs false
set_option linter.unusedVariables false
namespace Go.Ix
open Go Go.Hw
section
variable {P : Program} {E : Nat → Bool} {G : Nat} {h0 : Hp} {σ : Sig} {H : CH} {h : Hp} {env : CE} {ρ : Env}
def nilX : CV → Option CV
  | .ptr b o => some (.ptr b o)
  | .ifc t v => some (.ifc t v)
  | .fn f a b => some (.fn f a b)
  | .mnil => some .mnil
  | .map b => some (.map b)
  | .snil => some .snil
  | .slc b o n c => some (.slc b o n c)
  | _ => none
theorem nilX_ok {x y : CV} {v : Value} (hx : nilX x = some y) (hr : VR σ x v) : VR σ y v ∧ ∀ F : Value → Prop, F v → nilK v F := by
  unfold nilX at hx
  split at hx <;> first | (cases hx; done) | skip
  case h_1 => cases hx; refine ⟨hr, ?_⟩; unfold VR at hr; obtain ⟨p, _, rfl⟩ := hr; exact fun F hf => hf
  case h_2 => cases hx; refine ⟨hr, ?_⟩; unfold VR at hr; obtain ⟨p, rfl, _⟩ := hr; exact fun F hf => hf
  case h_3 => cases hx; refine ⟨hr, ?_⟩; unfold VR at hr; obtain ⟨a, b, rfl, _⟩ := hr; exact fun F hf => hf
  case h_4 => cases hx; refine ⟨hr, ?_⟩; unfold VR at hr; subst hr; exact fun F hf => hf
  case h_5 => cases hx; refine ⟨hr, ?_⟩; unfold VR at hr; obtain ⟨p, _, rfl⟩ := hr; exact fun F hf => hf
  case h_6 => cases hx; refine ⟨hr, ?_⟩; unfold VR at hr; subst hr; exact fun F hf => hf
  case h_7 b o n c =>
    cases hx; refine ⟨hr, ?_⟩
    cases c with
    | some c => unfold VR at hr; obtain ⟨p, _, rfl⟩ := hr; exact fun F hf => hf
    | none => unfold VR at hr; obtain ⟨p, c, _, rfl, _⟩ := hr; exact fun F hf => hf
def faX (P : Program) (s : TypeId) (f : Nat) (x : CV) : Option CV :=
  match P.underlying s with
  | some (.struct fs) =>
    match fs.toList[f]? with
    | some fl => match x with
      | .ptr b o => bif (P.info? fl.type).isSome && Nat.blt 0 (P.cellsOf fl.type) then some (.ptr b (o + fl.offset)) else none
      | _ => none
    | none => none
  | _ => none
theorem faX_ok {s : TypeId} {f : Nat} {x y : CV} {v : Value} (hx : faX P s f x = some y) (hr : VR σ x v) : ∃ w, VR σ y w ∧ ∀ F : Value → Prop, F w → faK P s f v F := by
  unfold faX at hx
  split at hx
  · rename_i fs hu
    split at hx
    · rename_i fl hf
      split at hx
      · rename_i b o
        cases hb : (P.info? fl.type).isSome && Nat.blt 0 (P.cellsOf fl.type) with
        | false => rw [hb] at hx; cases hx
        | true =>
          rw [hb] at hx; cases hx
          unfold VR at hr; obtain ⟨p, hp, rfl⟩ := hr
          refine ⟨.pointer (some (p.at (o + fl.offset))), by unfold VR; exact ⟨p, hp, rfl⟩, fun F hF => ?_⟩
          unfold faK; rw [hu]; simp only []; rw [hf]; simp only [nn]; rw [hb, at_add]; exact hF
      · cases hx
    · cases hx
  · cases hx
def inI (i : Int) (n : Nat) : Bool := decide (0 ≤ i) && decide (i < n)
theorem idx_of' {i : Int} {n : Nat} {X : Prop} (h : inI i n = true) (hx : X) : idx i n X := by unfold idx; unfold inI at h; rw [h]; exact hx
def iaX (P : Program) (t : TypeId) (x i : CV) : Option CV :=
  match i with
  | .int _ i =>
    match P.underlying t with
    | some (.array n e) => match x with
      | .ptr b o => bif (P.info? e).isSome && inI i n then some (.ptr b (o + i.toNat * P.cellsOf e)) else none
      | _ => none
    | some (.slice e) => match x with
      | .slc b o n _ => bif (P.info? e).isSome && inI i n then some (.ptr b (o + i.toNat * P.cellsOf e)) else none
      | _ => none
    | _ => none
  | _ => none
theorem slc_ok {b o n : Nat} {c : Option Nat} {v : Value} (hr : VR σ (.slc b o n c) v) : ∃ p c', σ b = some p ∧ v = .slice (some (p.at o)) n c' := by
  cases c with
  | some c => unfold VR at hr; obtain ⟨p, hp, rfl⟩ := hr; exact ⟨p, c, hp, rfl⟩
  | none => unfold VR at hr; obtain ⟨p, c, hp, rfl, _⟩ := hr; exact ⟨p, c, hp, rfl⟩
theorem iaX_ok {t : TypeId} {x i y : CV} {v vi : Value} (hx : iaX P t x i = some y) (hr : VR σ x v) (hi : VR σ i vi) : ∃ w, VR σ y w ∧ ∀ F : Value → Prop, F w → iaK P t v vi F := by
  unfold iaX at hx
  split at hx
  · rename_i k i
    unfold VR at hi; subst hi
    split at hx
    · rename_i n e hu
      split at hx
      · rename_i b o
        cases hb : (P.info? e).isSome && inI i n with
        | false => rw [hb] at hx; cases hx
        | true =>
          rw [hb] at hx; cases hx
          simp only [Bool.and_eq_true] at hb
          unfold VR at hr; obtain ⟨p, hp, rfl⟩ := hr
          refine ⟨.pointer (some (p.at (o + i.toNat * P.cellsOf e))), by unfold VR; exact ⟨p, hp, rfl⟩, fun F hF => ?_⟩
          unfold iaK; simp only []; rw [hu]; simp only [nn]; rw [hb.1]; exact idx_of' hb.2 (by rw [at_add]; exact hF)
      · cases hx
    · rename_i e hu
      split at hx
      · rename_i b o n c
        cases hb : (P.info? e).isSome && inI i n with
        | false => rw [hb] at hx; cases hx
        | true =>
          rw [hb] at hx; cases hx
          simp only [Bool.and_eq_true] at hb
          obtain ⟨p, c', hp, rfl⟩ := slc_ok hr
          refine ⟨.pointer (some (p.at (o + i.toNat * P.cellsOf e))), by unfold VR; exact ⟨p, hp, rfl⟩, fun F hF => ?_⟩
          unfold iaK; simp only []; rw [hu]; simp only []; rw [hb.1]; exact idx_of' hb.2 (by simp only [nn]; rw [at_add]; exact hF)
      · cases hx
    · cases hx
  · cases hx
def prtX (P : Program) (t : TypeId) (cs : List CV) (off : Nat) : Option CV :=
  bif isAggT P t then some (.agg ((cs.drop off).take (P.cellsOf t))) else cs[off]?
theorem prtX_ok {t : TypeId} {cs : List CV} {off : Nat} {x : CV} {vs : List Value} (hx : prtX P t cs off = some x) (hr : VRs σ cs vs) : ∃ v, prt P t vs off = some v ∧ VR σ x v := by
  unfold prtX at hx; unfold prt
  cases ha : isAggT P t with
  | true => rw [ha] at hx; cases hx; exact ⟨_, rfl, by unfold VR; exact ⟨_, rfl, (hr.drop off).take _⟩⟩
  | false => rw [ha] at hx; exact hr.get hx
def ixX (P : Program) (t : TypeId) (x i : CV) : Option CV :=
  match i with
  | .int _ i =>
    match P.underlying t with
    | some .string => match x with
      | .str l => bif decide (0 ≤ i) then (match l[i.toNat]? with | some b => some (.int .u8 b) | none => none) else none
      | _ => none
    | some (.array n e) => match x with
      | .agg cs => bif (P.info? e).isSome && (P.underlying e).isSome && inI i n then
          (match prtX P e cs (i.toNat * P.cellsOf e) with
          | some y => bif isAggT P e || kOk (ctOf P e) y then some y else none
          | none => none) else none
      | _ => none
    | _ => none
  | _ => none
theorem bl_len (s : ByteArray) : (bl s).length = s.size := by simp [bl]
theorem bl_get {s : ByteArray} {i b : Nat} (h : (bl s)[i]? = some b) : i < s.size ∧ (s.data.getD i 0).toNat = b := by
  have hl : i < (bl s).length := (List.getElem?_eq_some_iff.1 h).1
  rw [bl_len] at hl
  refine ⟨hl, ?_⟩
  unfold bl at h
  rw [List.getElem?_map] at h
  have h2 : i < s.data.size := hl
  rw [Array.getElem?_toList, Array.getElem?_eq_getElem h2] at h
  simp at h
  rw [Array.getD_eq_getD_getElem?, Array.getElem?_eq_getElem h2]; simpa using h
theorem ixX_ok {t : TypeId} {x i y : CV} {v vi : Value} (hx : ixX P t x i = some y) (hr : VR σ x v) (hi : VR σ i vi) : ∃ w, VR σ y w ∧ ∀ F : Value → Prop, F w → ixK P t v vi F := by
  unfold ixX at hx
  split at hx
  · rename_i k i
    unfold VR at hi; subst hi
    split at hx
    · rename_i hu
      split at hx
      · rename_i l
        cases hd : decide (0 ≤ i) with
        | false => rw [hd] at hx; cases hx
        | true =>
          rw [hd] at hx
          simp only [cond_true] at hx
          split at hx
          · rename_i b hb
            cases hx
            unfold VR at hr; obtain ⟨s, rfl, rfl⟩ := hr
            obtain ⟨h1, h2⟩ := bl_get hb
            refine ⟨.int .u8 b, by unfold VR; rfl, fun F hF => ?_⟩
            unfold ixK; simp only []; rw [hu]; simp only []
            have h0 := of_decide_eq_true hd
            rw [idx_ok h0 (by omega)]
            unfold sbyte; rw [h2]; exact hF
          · cases hx
      · cases hx
    · rename_i n e hu
      split at hx
      · rename_i cs
        cases hb : (P.info? e).isSome && (P.underlying e).isSome && inI i n with
        | false => rw [hb] at hx; cases hx
        | true =>
          rw [hb] at hx
          simp only [cond_true] at hx
          simp only [Bool.and_eq_true] at hb
          split at hx
          · rename_i z hz
            cases hk : isAggT P e || kOk (ctOf P e) z with
            | false => rw [hk] at hx; cases hx
            | true =>
              rw [hk] at hx; cases hx
              unfold VR at hr; obtain ⟨vs, rfl, hvs⟩ := hr
              obtain ⟨w, hw, hrw⟩ := prtX_ok hz hvs
              refine ⟨w, hrw, fun F hF => ?_⟩
              unfold ixK; simp only []; rw [hu]; simp only []; rw [hb.1.1, hb.1.2]
              refine idx_of' hb.2 ?_
              rw [hw]; simp only [vK]
              cases ha : isAggT P e with
              | true => exact hF
              | false =>
                rw [ha] at hk
                exact kOk_xC (by simpa using hk) hrw hF
          · cases hx
      · cases hx
    · cases hx
  · cases hx
def bX (x : Option CV) (d y : Nat) : Option Nat :=
  match x with
  | none => some d
  | some (.int _ i) => bif decide (0 ≤ i) && decide (i ≤ y) then some i.toNat else none
  | _ => none
def oR (σ : Sig) : Option CV → Option Value → Prop
  | none, none => True
  | some x, some v => VR σ x v
  | _, _ => False
theorem bX_ok {x : Option CV} {v : Option Value} {d y m : Nat} (hb : bX x d y = some m) (hr : oR σ x v) {F : Nat → Prop} (hf : F m) : bnd v d y F := by
  unfold bX at hb
  split at hb
  · cases v with
    | none => cases hb; exact hf
    | some v => exact hr.elim
  · cases v with
    | none => exact hr.elim
    | some v =>
      rename_i k i
      unfold oR VR at hr; subst hr
      cases hc : decide (0 ≤ i) && decide (i ≤ (y : Int)) with
      | false => rw [hc] at hb; cases hb
      | true => rw [hc] at hb; cases hb; unfold bnd; simp only []; rw [hc]; exact hf
  · cases hb
theorem bX_le {x : Option CV} {d y m : Nat} (hb : bX x d y = some m) (hd : d ≤ y) : m ≤ y := by
  unfold bX at hb
  split at hb
  · cases hb; exact hd
  · rename_i k i
    cases hc : decide (0 ≤ i) && decide (i ≤ (y : Int)) with
    | false => rw [hc] at hb; cases hb
    | true => rw [hc] at hb; cases hb; simp only [Bool.and_eq_true, decide_eq_true_eq] at hc; omega
  · cases hb
def isN {α : Type} : Option α → Bool
  | none => true
  | _ => false
theorem oR_some {x : Option CV} {v : Option Value} (hr : oR σ x v) : v.isSome = x.isSome ∧ v.isNone = x.isNone := by
  cases x <;> cases v <;> first | exact ⟨rfl, rfl⟩ | exact hr.elim
def slR (P : Program) (e b o n c : Nat) (lo hi mx : Option CV) : Option CV :=
  match bX mx c c with
  | some m => match bX hi n m with
    | some hh => bif mx.isSome && hi.isNone then none else match bX lo 0 hh with
      | some l => some (.slc b (bif Nat.beq m l then o else o + l * P.cellsOf e) (hh - l) (some (m - l)))
      | none => none
    | none => none
  | none => none
def slU (P : Program) (H : CH) (e b o n : Nat) (lo hi mx : Option CV) : Option CV :=
  match H.t.get b with
  | some (.row _ _ _ e' cs) => bif Nat.beq e e' && Nat.blt 0 (P.cellsOf e) then
      match mx with
      | none => match bX hi n n with
        | some k => match bX lo 0 k with
          | some l => some (bif Nat.blt l n then .slc b (o + l * P.cellsOf e) (k - l) none else .slz b o l)
          | none => none
        | none => none
      | some mx => match bX (some mx) 0 n with
        | some m => bif isN hi then none else match bX hi n m with
          | some k => match bX lo 0 k with
            | some l => some (.slc b (bif Nat.beq m l then o else o + l * P.cellsOf e) (k - l) (some (m - l)))
            | none => none
          | none => none
        | none => none
    else none
  | _ => none
def slX (P : Program) (H : CH) (t : TypeId) (x : CV) (lo hi mx : Option CV) : Option CV :=
  match P.underlying t with
  | some (.slice e) => bif (P.info? e).isSome then (match x with
    | .snil => match mx, bX hi 0 0, bX lo 0 0 with
      | none, some _, some _ => some .snil
      | _, _, _ => none
    | .slc b o n (some c) => slR P e b o n c lo hi mx
    | .slc b o n none => slU P H e b o n lo hi mx
    | _ => none) else none
  | some (.array n e) => bif (P.info? e).isSome then (match x with
    | .ptr b o => slR P e b o n n lo hi mx
    | _ => none) else none
  | some .string => match x with
    | .str s => bif mx.isSome then none else match bX hi s.length s.length with
      | some hh => match bX lo 0 hh with
        | some l => some (.str ((s.drop l).take (hh - l)))
        | none => none
      | none => none
    | _ => none
  | _ => none
theorem slR_ok {e b o n c : Nat} {lo hi mx : Option CV} {y : CV} (hx : slR P e b o n c lo hi mx = some y) {vl vh vm : Option Value} (hl : oR σ lo vl) (hh : oR σ hi vh) (hm : oR σ mx vm) {p : Pl} (hp : σ b = some p) :
    ∃ w, VR σ y w ∧ ∀ F : Value → Prop, F w → bnd vm c c fun m => bnd vh n m fun hh => bif vm.isSome && vh.isNone then False else bnd vl 0 hh fun l => F (.slice (sadr (some (p.at o)) m l (P.cellsOf e)) (hh - l) (m - l)) := by
  unfold slR at hx
  split at hx
  · rename_i m h1
    split at hx
    · rename_i k h2
      rw [← (oR_some hm).1, ← (oR_some hh).2] at hx
      cases hc : vm.isSome && vh.isNone with
      | true => rw [hc] at hx; cases hx
      | false =>
        rw [hc] at hx
        simp only [cond_false] at hx
        split at hx
        · rename_i l h3
          cases hx
          refine ⟨.slice (sadr (some (p.at o)) m l (P.cellsOf e)) (k - l) (m - l), ?_, fun F hF => ?_⟩
          · unfold VR
            refine ⟨p, hp, ?_⟩
            unfold sadr
            by_cases e1 : m = l
            · subst e1; simp
            · have : Nat.beq m l = false := by
                cases hb : Nat.beq m l with
                | false => rfl
                | true => exact absurd (Nat.eq_of_beq_eq_true hb) e1
              simp [e1, this, at_add]
          · refine bX_ok h1 hm (bX_ok h2 hh ?_)
            exact bX_ok (F := fun l => F (.slice (sadr (some (p.at o)) m l (P.cellsOf e)) (k - l) (m - l))) h3 hl hF
        · cases hx
    · cases hx
  · cases hx
theorem row_sz (hh : HR P G h0 σ H h) {b : Nat} {own opn mk : Bool} {e : Nat} {cs : List CV} (hg : H.t.get b = some (.row own opn mk e cs)) {p : Pl} (hp : σ b = some p) : p.sz = P.cellsOf e ∧ cs.length ≤ p.m := by
  obtain ⟨q, x, h1, h2, h3⟩ := hh.obj b _ hg
  rw [hp] at h1; cases h1
  unfold OR at h3
  obtain ⟨vs, lo, hi, rfl, _, h5, _, h4, _, _, _, h6⟩ := h3
  exact ⟨h6, h5⟩
theorem bX_ok' {x : Option CV} {v : Option Value} {d y y' m : Nat} (hb : bX x d y = some m) (hr : oR σ x v) (hm : m ≤ y') {F : Nat → Prop} (hf : F m) : bnd v d y' F := by
  unfold bX at hb
  split at hb
  · cases v with
    | none => cases hb; exact hf
    | some v => exact hr.elim
  · cases v with
    | none => exact hr.elim
    | some v =>
      rename_i k i
      unfold oR VR at hr; subst hr
      cases hc : decide (0 ≤ i) && decide (i ≤ (y : Int)) with
      | false => rw [hc] at hb; cases hb
      | true =>
        rw [hc] at hb; cases hb; unfold bnd; simp only []
        simp only [Bool.and_eq_true, decide_eq_true_eq] at hc
        have h1 : decide (0 ≤ i) = true := by simp; omega
        have h2 : decide (i ≤ (y' : Int)) = true := by simp; omega
        rw [h1, h2]; exact hf
  · cases hb
theorem bnd_dd {v : Value} {d d' y : Nat} {F : Nat → Prop} (h : bnd (some v) d y F) : bnd (some v) d' y F := by
  cases v <;> exact h
theorem slU_ok (hr : HR P G h0 σ H h) {e b o n : Nat} {lo hi mx : Option CV} {y : CV} (hx : slU P H e b o n lo hi mx = some y) {vl vh vm : Option Value} (hl : oR σ lo vl) (hh : oR σ hi vh) (hm : oR σ mx vm) {p : Pl} {c : Nat}
    (hp : σ b = some p) (hc : o + c * p.sz = p.m) (hnc : n ≤ c) :
    ∃ w, VR σ y w ∧ ∀ F : Value → Prop, F w → bnd vm c c fun m => bnd vh n m fun hh => bif vm.isSome && vh.isNone then False else bnd vl 0 hh fun l => F (.slice (sadr (some (p.at o)) m l (P.cellsOf e)) (hh - l) (m - l)) := by
  unfold slU at hx
  split at hx
  · rename_i own opn mk e' cs hg
    obtain ⟨hsz, hlen⟩ := row_sz hr hg hp
    cases hb : Nat.beq e e' && Nat.blt 0 (P.cellsOf e) with
    | false => rw [hb] at hx; cases hx
    | true =>
      rw [hb] at hx
      simp only [Bool.and_eq_true] at hb
      have he := Nat.eq_of_beq_eq_true hb.1; subst he
      have hpos : 0 < P.cellsOf e := by simpa [Nat.blt_eq] using hb.2
      simp only [cond_true] at hx
      split at hx
      · cases vm with
        | some _ => exact hm.elim
        | none =>
          split at hx
          · rename_i k h2
            split at hx
            · rename_i l h3
              cases hx
              have hkn : k ≤ n := bX_le h2 (Nat.le_refl _)
              have hlk : l ≤ k := bX_le h3 (Nat.zero_le _)
              refine ⟨.slice (sadr (some (p.at o)) c l (P.cellsOf e)) (k - l) (c - l), ?_, fun F hF => ?_⟩
              · cases hln : Nat.blt l n with
                | true =>
                  have hln' : l < n := by simpa [Nat.blt_eq] using hln
                  show VR σ (.slc b (o + l * P.cellsOf e) (k - l) none) _
                  unfold VR
                  have hne : ¬ c = l := by omega
                  refine ⟨p, c - l, hp, ?_, ?_, by omega, by omega⟩
                  · simp [sadr, hne, at_add]
                  · rw [hsz] at hc ⊢
                    rw [Nat.sub_mul]
                    have : l * P.cellsOf e ≤ c * P.cellsOf e := Nat.mul_le_mul_right _ (by omega)
                    omega
                | false =>
                  have hln' : ¬ l < n := by
                    intro e
                    have : Nat.blt l n = true := by simpa [Nat.blt_eq] using e
                    rw [this] at hln; cases hln
                  have e1 : l = n := by omega
                  have e2 : k = n := by omega
                  subst e1; subst e2
                  show VR σ (.slz b o k) _
                  unfold VR
                  refine ⟨p, c, hp, ?_, hc, by omega, hnc⟩
                  rw [Nat.sub_self, hsz]
                  unfold sadr
                  by_cases e1 : c = k
                  · simp [e1]
                  · simp [e1, at_add]
              · rw [bnd_none]
                refine bX_ok' h2 hh (by omega) ?_
                simp only [Option.isSome_none, Bool.false_and, cond_false]
                exact bX_ok (F := fun l => F (.slice (sadr (some (p.at o)) c l (P.cellsOf e)) (k - l) (c - l))) h3 hl hF
            · cases hx
          · cases hx
      · rename_i mx
        split at hx
        · rename_i m h1
          cases hn : isN hi with
          | true => rw [hn] at hx; cases hx
          | false =>
            rw [hn] at hx
            simp only [cond_false] at hx
            split at hx
            · rename_i k h2
              split at hx
              · rename_i l h3
                cases hx
                have hmn : m ≤ n := bX_le h1 (Nat.zero_le _)
                refine ⟨.slice (sadr (some (p.at o)) m l (P.cellsOf e)) (k - l) (m - l), ?_, fun F hF => ?_⟩
                · unfold VR
                  refine ⟨p, hp, ?_⟩
                  unfold sadr
                  by_cases e1 : m = l
                  · subst e1; simp
                  · have : Nat.beq m l = false := by
                      cases hb : Nat.beq m l with
                      | false => rfl
                      | true => exact absurd (Nat.eq_of_beq_eq_true hb) e1
                    simp [e1, this, at_add]
                · have hvn : vh.isNone = false := by
                    rw [(oR_some hh).2]
                    cases hi with
                    | none => cases hn
                    | some _ => rfl
                  have hbm : bnd vm c c (fun m' => bnd vh n m' fun hh => bif vm.isSome && vh.isNone then False else bnd vl 0 hh fun l => F (.slice (sadr (some (p.at o)) m' l (P.cellsOf e)) (hh - l) (m' - l))) := by
                    cases vm with
                    | none => exact hm.elim
                    | some v =>
                      have := bX_ok' (v := some v) (y' := c) (F := fun m' => bnd vh n m' fun hh => bif (some v).isSome && vh.isNone then False else bnd vl 0 hh fun l => F (.slice (sadr (some (p.at o)) m' l (P.cellsOf e)) (hh - l) (m' - l))) h1 hm (by omega) ?_
                      · exact bnd_dd this
                      · rw [hvn]
                        simp only [Bool.and_false, cond_false]
                        exact bX_ok h2 hh (bX_ok (F := fun l => F (.slice (sadr (some (p.at o)) m l (P.cellsOf e)) (k - l) (m - l))) h3 hl hF)
                  exact hbm
              · cases hx
            · cases hx
        · cases hx
  · cases hx
theorem bl_extract (s : ByteArray) (l k : Nat) : bl (s.extract l k) = ((bl s).drop l).take (k - l) := by
  unfold bl
  rw [ByteArray.data_extract, Array.toList_extract, List.extract_eq_take_drop, List.map_take, List.map_drop]
theorem slX_ok (hr : HR P G h0 σ H h) {t : TypeId} {x y : CV} {v : Value} {lo hi mx : Option CV} (hx : slX P H t x lo hi mx = some y) {vl vh vm : Option Value} (hv : VR σ x v) (hl : oR σ lo vl) (hh : oR σ hi vh) (hm : oR σ mx vm) :
    ∃ w, VR σ y w ∧ ∀ F : Value → Prop, F w → slK P t v vl vh vm F := by
  unfold slX at hx
  split at hx
  · rename_i e hu
    cases hi' : (P.info? e).isSome with
    | false => rw [hi'] at hx; cases hx
    | true =>
      rw [hi'] at hx
      simp only [cond_true] at hx
      split at hx
      · split at hx
        · rename_i m1 m2 h1 h2
          cases hx
          cases vm with
          | some _ => exact hm.elim
          | none =>
            unfold VR at hv; subst hv
            have e1 : m1 = 0 := by have := bX_le h1 (Nat.le_refl _); omega
            have e2 : m2 = 0 := by have := bX_le h2 (Nat.le_refl _); omega
            subst e1; subst e2
            refine ⟨.slice none 0 0, by unfold VR; rfl, fun F hF => ?_⟩
            unfold slK; rw [hu]; simp only []; rw [hi']; simp only [cond_true]
            rw [bnd_none]
            refine bX_ok h1 hh ?_
            simp only [Option.isSome_none, Bool.false_and, cond_false]
            exact bX_ok (F := fun l => F (.slice (sadr none 0 l (P.cellsOf e)) (0 - l) (0 - l))) h2 hl (by simpa [sadr] using hF)
        · cases hx
      · rename_i b o n c
        unfold VR at hv; obtain ⟨p, hp, rfl⟩ := hv
        obtain ⟨w, h1, h2⟩ := slR_ok hx hl hh hm hp
        refine ⟨w, h1, fun F hF => ?_⟩
        unfold slK; rw [hu]; simp only []; rw [hi']; exact h2 F hF
      · rename_i b o n
        unfold VR at hv; obtain ⟨p, c, hp, rfl, hc, _, hnc⟩ := hv
        obtain ⟨w, h1, h2⟩ := slU_ok hr hx hl hh hm hp hc hnc
        refine ⟨w, h1, fun F hF => ?_⟩
        unfold slK; rw [hu]; simp only []; rw [hi']; exact h2 F hF
      · cases hx
  · rename_i n e hu
    cases hi' : (P.info? e).isSome with
    | false => rw [hi'] at hx; cases hx
    | true =>
      rw [hi'] at hx
      simp only [cond_true] at hx
      split at hx
      · rename_i b o
        unfold VR at hv; obtain ⟨p, hp, rfl⟩ := hv
        obtain ⟨w, h1, h2⟩ := slR_ok hx hl hh hm hp
        refine ⟨w, h1, fun F hF => ?_⟩
        unfold slK; rw [hu]; simp only [nn]; rw [hi']; exact h2 F hF
      · cases hx
  · rename_i hu
    split at hx
    · rename_i s
      unfold VR at hv; obtain ⟨s, rfl, rfl⟩ := hv
      cases hms : mx.isSome with
      | true => rw [hms] at hx; cases hx
      | false =>
        rw [hms] at hx
        simp only [cond_false] at hx
        split at hx
        · rename_i k h1
          split at hx
          · rename_i l h2
            cases hx
            refine ⟨.string (s.extract l k), by unfold VR; exact ⟨_, rfl, bl_extract s l k⟩, fun F hF => ?_⟩
            unfold slK; rw [hu]; simp only []
            rw [(oR_some hm).1, hms]; simp only [cond_false]
            rw [bl_len] at h1
            exact bX_ok h1 hh (bX_ok h2 hl hF)
          · cases hx
        · cases hx
    · cases hx
  · cases hx
def wr (k : IntKind) (n : Int) : CV := .int k (k.wrap n)
def binIX (op : BinOp) (k k' : IntKind) (a b : Int) : Option CV :=
  match op with
  | .shl => bif decide (b < 0) then none else some (wr k (a * 2 ^ (min b.toNat k.bits)))
  | .shr => bif decide (b < 0) then none else some (.int k (a.fdiv (2 ^ (min b.toNat k.bits))))
  | .add => bif kindEq k k' then some (wr k (a + b)) else none
  | .sub => bif kindEq k k' then some (wr k (a - b)) else none
  | .mul => bif kindEq k k' then some (wr k (a * b)) else none
  | .quo => bif kindEq k k' && !decide (b = 0) then some (wr k (a.tdiv b)) else none
  | .rem => bif kindEq k k' && !decide (b = 0) then some (.int k (a.tmod b)) else none
  | .and => bif kindEq k k' then some (wr k (BitVec.ofInt k.bits a &&& BitVec.ofInt k.bits b).toNat) else none
  | .or => bif kindEq k k' then some (wr k (BitVec.ofInt k.bits a ||| BitVec.ofInt k.bits b).toNat) else none
  | .xor => bif kindEq k k' then some (wr k (BitVec.ofInt k.bits a ^^^ BitVec.ofInt k.bits b).toNat) else none
  | .andNot => bif kindEq k k' then some (wr k (BitVec.ofInt k.bits a &&& ~~~(BitVec.ofInt k.bits b)).toNat) else none
  | .eql => bif kindEq k k' then some (.bool (decide (a = b))) else none
  | .neq => bif kindEq k k' then some (.bool (!decide (a = b))) else none
  | .lss => bif kindEq k k' then some (.bool (decide (a < b))) else none
  | .leq => bif kindEq k k' then some (.bool (decide (a ≤ b))) else none
  | .gtr => bif kindEq k k' then some (.bool (decide (a > b))) else none
  | .geq => bif kindEq k k' then some (.bool (decide (a ≥ b))) else none
theorem condN {b : Bool} {α : Type} {a : α} {x : α} (h : (bif b then some a else none) = some x) : b = true ∧ a = x := by
  cases b with
  | false => cases h
  | true => cases h; exact ⟨rfl, rfl⟩
theorem condN' {b : Bool} {α : Type} {a : α} {x : α} (h : (bif b then none else some a) = some x) : b = false ∧ a = x := by
  cases b with
  | true => cases h
  | false => cases h; exact ⟨rfl, rfl⟩
theorem binIX_ok {op : BinOp} {k k' : IntKind} {a b : Int} {y : CV} (hx : binIX op k k' a b = some y) : ∃ w, VR σ y w ∧ ∀ F : Value → Prop, F w → binI op k k' a b F := by
  cases op <;> simp only [binIX] at hx
  case shl => obtain ⟨hb, rfl⟩ := condN' hx; exact ⟨_, by unfold wr VR; rfl, fun F hF => by unfold binI; simp only []; rw [hb]; exact hF⟩
  case shr => obtain ⟨hb, rfl⟩ := condN' hx; exact ⟨_, by unfold VR; rfl, fun F hF => by unfold binI; simp only []; rw [hb]; exact hF⟩
  case rem => obtain ⟨hb, rfl⟩ := condN hx; exact ⟨_, by unfold VR; rfl, fun F hF => by unfold binI; simp only []; rw [hb]; exact hF⟩
  case eql =>
    obtain ⟨hb, rfl⟩ := condN hx
    refine ⟨.bool (a == b), by unfold VR; simp [BEq.beq], fun F hF => by unfold binI; simp only []; rw [hb]; exact hF⟩
  case neq =>
    obtain ⟨hb, rfl⟩ := condN hx
    refine ⟨.bool (a != b), by unfold VR; simp [BEq.beq, bne], fun F hF => by unfold binI; simp only []; rw [hb]; exact hF⟩
  case lss => obtain ⟨hb, rfl⟩ := condN hx; exact ⟨_, by unfold VR; rfl, fun F hF => by unfold binI; simp only []; rw [hb]; exact hF⟩
  case leq => obtain ⟨hb, rfl⟩ := condN hx; exact ⟨_, by unfold VR; rfl, fun F hF => by unfold binI; simp only []; rw [hb]; exact hF⟩
  case gtr => obtain ⟨hb, rfl⟩ := condN hx; exact ⟨_, by unfold VR; rfl, fun F hF => by unfold binI; simp only []; rw [hb]; exact hF⟩
  case geq => obtain ⟨hb, rfl⟩ := condN hx; exact ⟨_, by unfold VR; rfl, fun F hF => by unfold binI; simp only []; rw [hb]; exact hF⟩
  all_goals (obtain ⟨hb, rfl⟩ := condN hx; exact ⟨_, by unfold wr VR; rfl, fun F hF => by unfold binI; simp only []; rw [hb]; exact hF⟩)
def lt : List Nat → List Nat → Bool
  | _, [] => false
  | [], _ :: _ => true
  | a :: x, b :: y => Nat.blt a b || (Nat.beq a b && lt x y)
theorem lt_ok : ∀ {x y : List UInt8}, Op.bytesLess x y = lt (x.map UInt8.toNat) (y.map UInt8.toNat)
  | _, [] => by rename_i x; cases x <;> rfl
  | [], _ :: _ => rfl
  | a :: x, b :: y => by
    simp only [Op.bytesLess, List.map_cons, lt]
    rw [lt_ok (x := x) (y := y)]
    have h1 : decide (a < b) = Nat.blt a.toNat b.toNat := by
      cases hb : Nat.blt a.toNat b.toNat with
      | true => have : a.toNat < b.toNat := by simpa [Nat.blt_eq] using hb
                simpa using UInt8.lt_iff_toNat_lt.2 this
      | false =>
        have : ¬ a.toNat < b.toNat := by intro e; have : Nat.blt a.toNat b.toNat = true := by simpa [Nat.blt_eq] using e
                                         rw [this] at hb; cases hb
        simpa using fun e => this (UInt8.lt_iff_toNat_lt.1 e)
    have h2 : (a == b) = Nat.beq a.toNat b.toNat := by
      cases hb : Nat.beq a.toNat b.toNat with
      | true => have := UInt8.toNat_inj.1 (Nat.eq_of_beq_eq_true hb); simp [this]
      | false =>
        have : a ≠ b := by rintro rfl; exact Nat.ne_of_beq_eq_false hb rfl
        simp [this]
    rw [h1, h2]
theorem leq_ok : ∀ {l m : List UInt8}, (l == m) = leq (l.map UInt8.toNat) (m.map UInt8.toNat)
  | [], [] => rfl
  | [], _ :: _ => rfl
  | _ :: _, [] => rfl
  | a :: x, b :: y => by
    simp only [List.map_cons, leq]
    rw [← leq_ok (l := x) (m := y), List.cons_beq_cons]
    have h2 : (a == b) = Nat.beq a.toNat b.toNat := by
      cases hb : Nat.beq a.toNat b.toNat with
      | true => have := UInt8.toNat_inj.1 (Nat.eq_of_beq_eq_true hb); simp [this]
      | false =>
        have : a ≠ b := by rintro rfl; exact Nat.ne_of_beq_eq_false hb rfl
        simp [this]
    rw [h2]
def most : Nat := 1073741824
def binSX (op : BinOp) (x y : List Nat) : Option CV :=
  match op with
  | .add => bif Nat.ble (x.length + y.length) most then some (.str (x ++ y)) else none
  | .eql => some (.bool (leq x y))
  | .neq => some (.bool (!leq x y))
  | .lss => some (.bool (lt x y))
  | .leq => some (.bool (lt x y || leq x y))
  | .gtr => some (.bool !(lt x y || leq x y))
  | .geq => some (.bool !(lt x y))
  | _ => none
theorem binSX_ok {op : BinOp} {a b : ByteArray} {y : CV} (hx : binSX op (bl a) (bl b) = some y) : ∃ w, VR σ y w ∧ ∀ F : Value → Prop, F w → binS op a b F := by
  have e1 : (a.toList == b.toList) = leq (bl a) (bl b) := by rw [ByteArray.toList_eq, ByteArray.toList_eq]; exact leq_ok
  have e2 : Op.bytesLess a.toList b.toList = lt (bl a) (bl b) := by rw [ByteArray.toList_eq, ByteArray.toList_eq]; exact lt_ok
  cases op <;> simp only [binSX] at hx <;> first | (cases hx; done) | skip
  case add =>
    obtain ⟨hb, rfl⟩ := condN hx
    have hb := Nat.le_of_ble_eq_true hb
    rw [bl_len, bl_len] at hb
    refine ⟨.string (a ++ b), by unfold VR; exact ⟨_, rfl, by simp [bl, ByteArray.data_append]⟩, fun F hF => ?_⟩
    unfold binS; simp only []
    have : decide (((a.size + b.size : Nat) : Int) > IntKind.i64.max) = false := by
      have : IntKind.i64.max = 9223372036854775807 := rfl
      unfold most at hb
      simp [this]; omega
    rw [this]; exact hF
  all_goals (cases hx; refine ⟨_, by unfold VR; rfl, fun F hF => by unfold binS; simp only []; (try rw [e1]); (try rw [e2]); exact hF⟩)
end
end Go.Ix

/-
  Comparisons of values of every type, conversions, parts of aggregates, entries of maps.
-/
set_option linter.unusedSimpArgs false
set_option linter.unusedVariables false
namespace Go.Ix
open Go Go.Hw
section
variable {P : Program} {E : Nat → Bool} {G : Nat} {h0 : Hp} {σ : Sig} {H : CH} {h : Hp} {env : CE} {ρ : Env}
def eqFsX (f : TypeId → CV → CV → Option Bool) (pr : TypeId → List CV → Nat → Option CV) (xs ys : List CV) : List Field → Option Bool
  | [] => some true
  | x :: l =>
    match pr x.type xs x.offset, pr x.type ys x.offset with
    | some a, some b =>
      match f x.type a b, eqFsX f pr xs ys l with
      | some p, some q => some (p && q)
      | _, _ => none
    | _, _ => none
def eqEsX (f : CV → CV → Option Bool) (pr : List CV → Nat → Option CV) (sz : Nat) (xs ys : List CV) : Nat → Nat → Option Bool
  | _, 0 => some true
  | i, n + 1 =>
    match pr xs (i * sz), pr ys (i * sz) with
    | some a, some b =>
      match f a b, eqEsX f pr sz xs ys (i + 1) n with
      | some p, some q => some (p && q)
      | _, _ => none
    | _, _ => none
def eqX (P : Program) : Nat → TypeId → CV → CV → Option Bool
  | 0, _, _, _ => none
  | d + 1, t, x, y =>
    match P.underlying t with
    | some .bool => match x, y with | .bool a, .bool b => some (a == b) | _, _ => none
    | some (.int _) => match x, y with | .int k a, .int k' b => bif kindEq k k' then some (decide (a = b)) else none | _, _ => none
    | some .string => match x, y with | .str a, .str b => some (leq a b) | _, _ => none
    | some (.struct fs) => match x, y with
      | .agg xs, .agg ys => eqFsX (eqX P d) (prtX P) xs ys fs.toList
      | _, _ => none
    | some (.array n e) => match x, y with
      | .agg xs, .agg ys => eqEsX (eqX P d e) (prtX P e) (P.cellsOf e) xs ys 0 n
      | _, _ => none
    | _ => none
theorem leq_refl : ∀ l : List Nat, leq l l = true := fun l => by
  induction l with
  | nil => rfl
  | cons x l ih => unfold leq; rw [ih, Nat.beq_refl]; rfl
theorem ba_beq {a b : ByteArray} : (a == b) = leq (bl a) (bl b) := by
  cases hb : a == b with
  | true => rw [beq_ba hb, leq_refl]
  | false =>
    cases hl : leq (bl a) (bl b) with
    | false => rfl
    | true =>
      have := bl_inj (leq_eq hl); subst this
      have : (a == a) = true := by
        show (a.data == a.data) = true
        simp
      rw [this] at hb; cases hb
theorem eqX_ok : ∀ (d : Nat) (t : TypeId) (x y : CV) (b : Bool) (v w : Value), eqX P d t x y = some b → VR σ x v → VR σ y w → eqV P d t v w = some b := by
  intro d
  induction d with
  | zero => intro t x y b v w h; cases h
  | succ d ih =>
    intro t x y b v w hx hv hw
    unfold eqX at hx
    unfold eqV
    split at hx
    · rename_i hu; rw [hu]; simp only []
      split at hx
      · unfold VR at hv hw; subst hv; subst hw; exact hx
      · cases hx
    · rename_i hu; rw [hu]; simp only []
      split at hx
      · unfold VR at hv hw; subst hv; subst hw
        obtain ⟨hk, rfl⟩ := condN hx
        simp only []; rw [hk]; simp [BEq.beq]
      · cases hx
    · rename_i hu; rw [hu]; simp only []
      split at hx
      · unfold VR at hv hw; obtain ⟨s, rfl, rfl⟩ := hv; obtain ⟨s', rfl, rfl⟩ := hw
        simp only []; rw [ba_beq]; exact hx
      · cases hx
    · rename_i fs hu; rw [hu]; simp only []
      split at hx
      · rename_i xs ys
        unfold VR at hv hw; obtain ⟨vs, rfl, hvs⟩ := hv; obtain ⟨ws, rfl, hws⟩ := hw
        simp only []
        have key : ∀ (l : List Field) (b : Bool), eqFsX (eqX P d) (prtX P) xs ys l = some b → eqFs (eqV P d) (prt P) vs ws l = some b := by
          intro l
          induction l with
          | nil => intro b hb; exact hb
          | cons f l ihl =>
            intro b hb
            simp only [eqFsX] at hb
            simp only [eqFs]
            split at hb
            · rename_i p q hp hq
              obtain ⟨p', hp', hpr⟩ := prtX_ok hp hvs
              obtain ⟨q', hq', hqr⟩ := prtX_ok hq hws
              rw [hp', hq']; simp only []
              split at hb
              · rename_i b1 b2 h1 h2
                rw [ih _ _ _ _ _ _ h1 hpr hqr, ihl _ h2]; exact hb
              · cases hb
            · cases hb
        exact key _ _ hx
      · cases hx
    · rename_i n e hu; rw [hu]; simp only []
      split at hx
      · rename_i xs ys
        unfold VR at hv hw; obtain ⟨vs, rfl, hvs⟩ := hv; obtain ⟨ws, rfl, hws⟩ := hw
        simp only []
        have key : ∀ (n i : Nat) (b : Bool), eqEsX (eqX P d e) (prtX P e) (P.cellsOf e) xs ys i n = some b → eqEs (eqV P d e) (prt P e) (P.cellsOf e) vs ws i n = some b := by
          intro n
          induction n with
          | zero => intro i b hb; exact hb
          | succ n ihl =>
            intro i b hb
            simp only [eqEsX] at hb
            simp only [eqEs]
            split at hb
            · rename_i p q hp hq
              obtain ⟨p', hp', hpr⟩ := prtX_ok hp hvs
              obtain ⟨q', hq', hqr⟩ := prtX_ok hq hws
              rw [hp', hq']; simp only []
              split at hb
              · rename_i b1 b2 h1 h2
                rw [ih _ _ _ _ _ _ h1 hpr hqr, ihl _ _ h2]; exact hb
              · cases hb
            · cases hb
        exact key _ _ _ hx
      · cases hx
    · cases hx
def plainRow (H : CH) (b : Nat) : Bool := match H.t.get b with
  | some (.row _ _ mk _ _) => !mk
  | _ => false
def peqX (H : CH) (x y : CV) : Option Bool :=
  match x, y with
  | .pnil, .pnil => some true
  | .pnil, .ptr _ _ => some false
  | .ptr _ _, .pnil => some false
  | .ptr b o, .ptr b' o' => bif Nat.beq b b' then some (Nat.beq o o') else bif plainRow H b && plainRow H b' then some false else none
  | _, _ => none
theorem plainRow_ok (hh : HR P G h0 σ H h) {b : Nat} (hb : plainRow H b = true) {p : Pl} (hp : σ b = some p) (o : Nat) : (shp h p.r).isSome = true ∧ strish h (p.at o) = false := by
  unfold plainRow at hb
  split at hb
  · rename_i own opn mk e cs hg
    obtain ⟨q, x, h1, h2, h3⟩ := hh.obj b _ hg
    rw [hp] at h1; cases h1
    unfold OR at h3
    obtain ⟨vs, lo, hi, rfl, _, _, _, _, _, h6, _⟩ := h3
    have hm : mk = false := by simpa using hb
    have hlo := h6 hm
    have hf : ∀ o : Nat, frz h ⟨p.r, o, none⟩ = false := by
      intro o; unfold frz; simp only [h2]; simp; omega
    refine ⟨by unfold shp; rw [h2]; rfl, ?_⟩
    unfold strish
    have : shp h (p.at o).block = some (e, vs.length) := by unfold shp; rw [at_blk, h2]; rfl
    rw [this]; simp only []
    rw [show frz h (p.at o) = false from hf _, show frz h ⟨(p.at o).block, vs.length, none⟩ = false from hf _]; rfl
  · cases hb
theorem plainRow_has {b : Nat} (hb : plainRow H b = true) : ∃ o, H.t.get b = some o := by
  unfold plainRow at hb
  split at hb
  · rename_i hg; exact ⟨_, hg⟩
  · cases hb
theorem peqX_ok (hh : HR P G h0 σ H h) {x y : CV} {b : Bool} {p q : Option Addr} (hx : peqX H x y = some b) (hp : VR σ x (.pointer p)) (hq : VR σ y (.pointer q)) {F : Bool → Prop} (hF : F b) : peq h p q F := by
  unfold peqX at hx
  split at hx
  · unfold VR at hp hq; cases hp; cases hq; cases hx; exact hF
  · unfold VR at hp hq; cases hp; obtain ⟨p', _, hq⟩ := hq; cases hq; cases hx; exact hF
  · unfold VR at hp hq; cases hq; obtain ⟨p', _, hp⟩ := hp; cases hp; cases hx; exact hF
  · rename_i b1 o b2 o'
    unfold VR at hp hq
    obtain ⟨p', h1, hp⟩ := hp; cases hp
    obtain ⟨q', h2, hq⟩ := hq; cases hq
    unfold peq; simp only []
    cases hb : Nat.beq b1 b2 with
    | true =>
      rw [hb] at hx; cases hx
      have := Nat.eq_of_beq_eq_true hb; subst this
      rw [h1] at h2; cases h2
      rw [show Nat.beq (p'.at o).block (p'.at o').block = true from Nat.beq_refl _]
      simp only [cond_true]
      have : (p'.at o == p'.at o') = Nat.beq o o' := by
        cases ho : Nat.beq o o' with
        | true => rw [Nat.eq_of_beq_eq_true ho]; simp
        | false =>
          have hne := Nat.ne_of_beq_eq_false ho
          have : p'.at o ≠ p'.at o' := by
            intro e
            have := congrArg Addr.off e
            simp only [Pl.at] at this; omega
          simpa using this
      rw [this]; exact hF
    | false =>
      rw [hb] at hx
      simp only [cond_false] at hx
      obtain ⟨hc, rfl⟩ := condN hx
      simp only [Bool.and_eq_true] at hc
      obtain ⟨o1, ho1⟩ := plainRow_has hc.1
      obtain ⟨o2, ho2⟩ := plainRow_has hc.2
      have hne : p'.r ≠ q'.r := hh.inj b1 b2 o1 o2 p' q' ho1 ho2 (Nat.ne_of_beq_eq_false hb) h1 h2
      have hbq : Nat.beq (p'.at o).block (q'.at o').block = false := by
        cases hz : Nat.beq (p'.at o).block (q'.at o').block with
        | false => rfl
        | true => exact absurd (Nat.eq_of_beq_eq_true hz) hne
      rw [hbq]
      simp only [cond_false]
      have g1 := plainRow_ok hh hc.1 h1 o
      have g2 := plainRow_ok hh hc.2 h2 o'
      exact ⟨⟨g1.1, g2.1, g1.2, g2.2⟩, hF⟩
  · cases hx
def isSlc : CV → Option Bool
  | .snil => some true
  | .slc _ _ _ _ => some false
  | .slz _ _ _ => some false
  | _ => none
def isPtr : CV → Bool
  | .pnil => true
  | .ptr _ _ => true
  | _ => false
def notB (op : BinOp) (b : Option Bool) : Option CV :=
  match op, b with
  | .eql, some b => some (.bool b)
  | .neq, some b => some (.bool !b)
  | _, _ => none
def ifnX : CV → Option Bool
  | .nili => some true
  | .ifc _ _ => some false
  | _ => none
def fuX : CV → Option Bool
  | .nilf => some true
  | .fn _ _ _ => some false
  | _ => none
def binX (P : Program) (H : CH) (op : BinOp) (t : TypeId) (c : Bool) (x y : CV) : Option CV :=
  bif isIfT P t then (match y with
    | .nili => bif c then notB op (ifnX x) else none
    | .ifc _ _ => match x with
      | .nili => notB op (some false)
      | _ => none
    | _ => none) else bif isFuT P t then (match y with
    | .nilf => notB op (fuX x)
    | _ => none) else
  match x with
  | .int k a => match y with | .int k' b => binIX op k k' a b | _ => none
  | .str a => match y with | .str b => binSX op a b | _ => none
  | .bool a => match y with
    | .bool b => bif eqOk P 1 t then notB op (eqX P 1 t (.bool a) (.bool b)) else none
    | _ => none
  | .agg l => match y with
    | .agg m => bif eqOk P 8 t && !P.eqGuardType P.depth t then notB op (eqX P 8 t (.agg l) (.agg m)) else none
    | _ => none
  | x => bif isPtr x && isPtr y then
      match P.underlying t with
      | some (.pointer e) => bif (P.info? e).isSome && Nat.blt 0 (P.cellsOf e) then notB op (peqX H x y) else none
      | _ => none
    else match y with
      | .snil => match P.underlying t with
        | some (.slice _) => notB op (isSlc x)
        | _ => none
      | _ => none
theorem isPtr_ok {x : CV} {v : Value} (hx : isPtr x = true) (hr : VR σ x v) : ∃ p, v = .pointer p := by
  cases x <;> simp [isPtr] at hx
  · unfold VR at hr; exact ⟨none, hr⟩
  · unfold VR at hr; obtain ⟨p, _, rfl⟩ := hr; exact ⟨_, rfl⟩
theorem notB_some {op : BinOp} {b : Option Bool} {y : CV} (h : notB op b = some y) : ∃ c, b = some c ∧ ((op = .eql ∧ y = .bool c) ∨ (op = .neq ∧ y = .bool !c)) := by
  unfold notB at h
  split at h
  · cases h; exact ⟨_, rfl, .inl ⟨rfl, rfl⟩⟩
  · cases h; exact ⟨_, rfl, .inr ⟨rfl, rfl⟩⟩
  · cases h
def binKI (P : Program) (op : BinOp) (t : TypeId) (c : Bool) (x y : Value) (h : Hp) (F : Value → Prop) : Prop := bif isIfT P t then binIf op c x y F else bif isFuT P t then binFu op x y F else binK P op t x y h F
theorem isSlc_ok {x : CV} {b : Bool} {v : Value} (hx : isSlc x = some b) (hr : VR σ x v) : ∃ p n c, v = .slice p n c ∧ p.isNone = b := by
  cases x <;> simp [isSlc] at hx
  · subst hx; unfold VR at hr; exact ⟨none, 0, 0, hr, rfl⟩
  · subst hx; obtain ⟨p, c', _, rfl⟩ := slc_ok hr; exact ⟨_, _, _, rfl, rfl⟩
  · subst hx; unfold VR at hr; obtain ⟨p, c', _, rfl, _⟩ := hr; exact ⟨_, _, _, rfl, rfl⟩
theorem ifnX_ok {x : CV} {b : Bool} {v : Value} (hx : ifnX x = some b) (hr : VR σ x v) {F : Bool → Prop} (hF : F b) : ifn v F := by
  cases x <;> simp [ifnX] at hx
  · subst hx; unfold VR at hr; subst hr; exact hF
  · subst hx; unfold VR at hr; obtain ⟨w, rfl, _⟩ := hr; exact hF
theorem fuX_ok {x : CV} {b : Bool} {v : Value} (hx : fuX x = some b) (hr : VR σ x v) {F : Bool → Prop} (hF : F b) : fuN v F := by
  cases x <;> simp [fuX] at hx
  · subst hx; unfold VR at hr; obtain ⟨xs, ys, rfl, _⟩ := hr; exact hF
  · subst hx; unfold VR at hr; subst hr; exact hF
theorem binX_ok (hh : HR P G h0 σ H h) {op : BinOp} {t : TypeId} {c : Bool} {x y z : CV} {v w : Value} (hx : binX P H op t c x y = some z) (hv : VR σ x v) (hw : VR σ y w) :
    ∃ u, VR σ z u ∧ ∀ F : Value → Prop, F u → binKI P op t c v w h F := by
  unfold binX at hx
  unfold binKI
  cases hi : isIfT P t with
  | true =>
    rw [hi] at hx
    simp only [cond_true] at hx ⊢
    split at hx
    · unfold VR at hw; subst hw
      cases hc : c with
      | false => rw [hc] at hx; cases hx
      | true =>
        rw [hc] at hx
        obtain ⟨b, hb, hz⟩ := notB_some hx
        rcases hz with ⟨rfl, rfl⟩ | ⟨rfl, rfl⟩
        · exact ⟨_, by unfold VR; rfl, fun F hF => by unfold binIf; simp only [cond_true]; exact ifnX_ok hb hv hF⟩
        · exact ⟨_, by unfold VR; rfl, fun F hF => by unfold binIf; simp only [cond_true]; exact ifnX_ok (F := fun b => F (.bool !b)) hb hv hF⟩
    · unfold VR at hw; obtain ⟨w', rfl, _⟩ := hw
      split at hx
      · unfold VR at hv; subst hv
        obtain ⟨b, hb, hz⟩ := notB_some hx
        cases hb
        rcases hz with ⟨rfl, rfl⟩ | ⟨rfl, rfl⟩
        · exact ⟨_, by unfold VR; rfl, fun F hF => hF⟩
        · exact ⟨_, by unfold VR; rfl, fun F hF => hF⟩
      · cases hx
    · cases hx
  | false =>
    rw [hi] at hx
    simp only [cond_false] at hx ⊢
    cases hf : isFuT P t with
    | true =>
      rw [hf] at hx
      simp only [cond_true] at hx ⊢
      split at hx
      · unfold VR at hw; subst hw
        obtain ⟨b, hb, hz⟩ := notB_some hx
        rcases hz with ⟨rfl, rfl⟩ | ⟨rfl, rfl⟩
        · exact ⟨_, by unfold VR; rfl, fun F hF => by unfold binFu; exact fuX_ok (F := fun b => F (.bool b)) hb hv hF⟩
        · exact ⟨_, by unfold VR; rfl, fun F hF => by unfold binFu; exact fuX_ok (F := fun b => F (.bool !b)) hb hv hF⟩
      · cases hx
    | false =>
    rw [hf] at hx
    simp only [cond_false] at hx ⊢
    split at hx
    · split at hx
      · unfold VR at hv hw; subst hv; subst hw
        exact binIX_ok hx
      · cases hx
    · split at hx
      · unfold VR at hv hw; obtain ⟨s, rfl, rfl⟩ := hv; obtain ⟨s', rfl, rfl⟩ := hw
        exact binSX_ok hx
      · cases hx
    · split at hx
      · rename_i a b
        cases ho : eqOk P 1 t with
        | false => rw [ho] at hx; cases hx
        | true =>
          rw [ho] at hx
          obtain ⟨r, hr, hz⟩ := notB_some hx
          have he := eqX_ok _ _ _ _ _ _ _ hr hv hw
          unfold VR at hv hw; subst hv; subst hw
          rcases hz with ⟨rfl, rfl⟩ | ⟨rfl, rfl⟩
          · exact ⟨_, by unfold VR; rfl, fun F hF => by unfold binK; simp only []; rw [ho, he]; exact hF⟩
          · exact ⟨_, by unfold VR; rfl, fun F hF => by unfold binK; simp only []; rw [ho, he]; exact hF⟩
      · cases hx
    · split at hx
      · rename_i l m
        cases ho : eqOk P 8 t && !P.eqGuardType P.depth t with
        | false => rw [ho] at hx; cases hx
        | true =>
          rw [ho] at hx
          obtain ⟨r, hr, hz⟩ := notB_some hx
          have he := eqX_ok _ _ _ _ _ _ _ hr hv hw
          unfold VR at hv hw; obtain ⟨vs, rfl, _⟩ := hv; obtain ⟨ws, rfl, _⟩ := hw
          rcases hz with ⟨rfl, rfl⟩ | ⟨rfl, rfl⟩
          · exact ⟨_, by unfold VR; rfl, fun F hF => by unfold binK; simp only []; rw [ho, he]; exact hF⟩
          · exact ⟨_, by unfold VR; rfl, fun F hF => by unfold binK; simp only []; rw [ho, he]; exact hF⟩
      · cases hx
    · cases hp : isPtr x && isPtr y with
      | true =>
        rw [hp] at hx
        simp only [cond_true] at hx
        simp only [Bool.and_eq_true] at hp
        split at hx
        · rename_i e hu
          cases ho : (P.info? e).isSome && Nat.blt 0 (P.cellsOf e) with
          | false => rw [ho] at hx; cases hx
          | true =>
            rw [ho] at hx
            obtain ⟨r, hr, hz⟩ := notB_some hx
            obtain ⟨p, rfl⟩ := isPtr_ok hp.1 hv
            obtain ⟨q, rfl⟩ := isPtr_ok hp.2 hw
            rcases hz with ⟨rfl, rfl⟩ | ⟨rfl, rfl⟩
            · exact ⟨_, by unfold VR; rfl, fun F hF => by unfold binK; simp only []; rw [hu]; simp only []; rw [ho]; exact peqX_ok (F := fun b => F (.bool b)) hh hr hv hw hF⟩
            · exact ⟨_, by unfold VR; rfl, fun F hF => by unfold binK; simp only []; rw [hu]; simp only []; rw [ho]; exact peqX_ok (F := fun b => F (.bool !b)) hh hr hv hw hF⟩
        · cases hx
      | false =>
        rw [hp] at hx
        simp only [cond_false] at hx
        split at hx
        · split at hx
          · rename_i e hu
            obtain ⟨r, hr, hz⟩ := notB_some hx
            obtain ⟨p, n, c, rfl, rfl⟩ := isSlc_ok hr hv
            unfold VR at hw; subst hw
            rcases hz with ⟨rfl, rfl⟩ | ⟨rfl, rfl⟩
            · exact ⟨_, by unfold VR; rfl, fun F hF => by unfold binK; simp only []; rw [hu]; exact hF⟩
            · exact ⟨_, by unfold VR; rfl, fun F hF => by unfold binK; simp only []; rw [hu]; exact hF⟩
          · cases hx
        · cases hx
end
end Go.Ix

/-
  The operations that only compute or read, each of them: what the small machine gives stands for what the machine gives.
-/
set_option linter.unusedSimpArgs false
set_option linter.unusedVariables false
namespace Go.Ix
open Go Go.Hw
section
variable {P : Program} {E : Nat → Bool} {G : Nat} {h0 : Hp} {σ : Sig} {H : CH} {h : Hp} {env : CE} {ρ : Env}
def bytesX : List CV → Option (List Nat)
  | [] => some []
  | .int .u8 n :: l => match bytesX l with
    | some r => some (n.toNat % 256 :: r)
    | none => none
  | _ => none
theorem bytesX_ok : ∀ {l : List CV} {r : List Nat} {vs : List Value}, bytesX l = some r → VRs σ l vs → ∃ u : List UInt8, cbytes vs = some u ∧ u.map UInt8.toNat = r := by
  intro l
  induction l with
  | nil => intro r vs hx hv; cases hx; unfold VRs at hv; subst hv; exact ⟨[], rfl, rfl⟩
  | cons x l ih =>
    intro r vs hx hv
    unfold VRs at hv; obtain ⟨v, vs, rfl, hx1, hv⟩ := hv
    cases x <;> first | (simp [bytesX] at hx; done) | skip
    rename_i k n
    cases k <;> first | (simp [bytesX] at hx; done) | skip
    simp only [bytesX] at hx
    split at hx
    · rename_i r' hr
      cases hx
      obtain ⟨u, h1, h2⟩ := ih hr hv
      unfold VR at hx1; subst hx1
      refine ⟨UInt8.ofNat n.toNat :: u, by simp only [cbytes]; rw [h1], ?_⟩
      simp [h2]
    · cases hx
def cvX (P : Program) (H : CH) (s d : TypeId) (x : CV) : Option CV :=
  match P.underlying d with
  | some (.int k) => match x with
    | .int _ n => bif (P.underlying s).isSome then some (wr k n) else none
    | _ => none
  | some .string => match x with
    | .str l => bif (P.underlying s).isSome then some (.str l) else none
    | .snil => match P.underlying s with
      | some (.slice e) => match P.underlying e with
        | some (.int .u8) => some (.str [])
        | _ => none
      | _ => none
    | .slc b o n _ => match P.underlying s with
      | some (.slice e) => match P.underlying e with
        | some (.int .u8) => match rdC H b o n with
          | some l => match bytesX l with
            | some r => some (.str r)
            | none => none
          | none => none
        | _ => none
      | _ => none
    | .slz _ _ _ => match P.underlying s with
      | some (.slice e) => match P.underlying e with
        | some (.int .u8) => some (.str [])
        | _ => none
      | _ => none
    | _ => none
  | _ => none
theorem cvX_ok (hh : HR P G h0 σ H h) {s d : TypeId} {x y : CV} {v : Value} (hx : cvX P H s d x = some y) (hv : VR σ x v) : ∃ w, VR σ y w ∧ ∀ K : Value → Hp → Prop, K w h → cvK P s d v h K := by
  unfold cvX at hx
  unfold cvK
  split at hx
  · rename_i k hu
    split at hx
    · obtain ⟨hb, rfl⟩ := condN hx
      unfold VR at hv; subst hv
      exact ⟨_, by unfold wr VR; rfl, fun K hK => by rw [hu]; simp only []; rw [hb]; exact hK⟩
    · cases hx
  · rename_i hu
    split at hx
    · obtain ⟨hb, rfl⟩ := condN hx
      unfold VR at hv; obtain ⟨t, rfl, rfl⟩ := hv
      exact ⟨_, by unfold VR; exact ⟨t, rfl, rfl⟩, fun K hK => by rw [hu]; simp only []; rw [hb]; exact hK⟩
    · split at hx
      · rename_i e hs
        split at hx
        · rename_i he
          cases hx
          unfold VR at hv; subst hv
          exact ⟨.string .empty, by unfold VR; exact ⟨_, rfl, rfl⟩, fun K hK => by rw [hu]; simp only []; rw [hs]; simp only []; rw [he]; exact hK⟩
        · cases hx
      · cases hx
    · split at hx
      · rename_i e hs
        split at hx
        · rename_i he
          split at hx
          · rename_i l hl
            split at hx
            · rename_i r hr
              cases hx
              obtain ⟨p, c', hp, rfl⟩ := slc_ok hv
              obtain ⟨vs, h1, h2, h3⟩ := rdC_rdN hh hl hp
              obtain ⟨u, h4, h5⟩ := bytesX_ok hr h1
              refine ⟨.string ⟨⟨u⟩⟩, by unfold VR; exact ⟨_, rfl, h5⟩, fun K hK => ?_⟩
              rw [hu]; simp only []; rw [hs]; simp only []; rw [he]; simp only []
              unfold b2s; simp only []; rw [h3]; simp only []; rw [h4]; exact hK
            · cases hx
          · cases hx
        · cases hx
      · cases hx
    · split at hx
      · rename_i e hs
        split at hx
        · rename_i he
          cases hx
          unfold VR at hv; obtain ⟨p, c, _, rfl, _⟩ := hv
          exact ⟨.string .empty, by unfold VR; exact ⟨_, rfl, rfl⟩, fun K hK => by rw [hu]; simp only []; rw [hs]; simp only []; rw [he]; exact hK⟩
        · cases hx
      · cases hx
    · cases hx
  · cases hx
theorem some1 {x : Operand} {v : Value} (hv : ev ρ x = some v) : (ev ρ x).isSome = true ∧ evD ρ x = v := by rw [hv]; exact ⟨rfl, by simp [evD, hv]⟩
def evCs (G : Nat) (env : CE) : List Operand → Option (List CV)
  | [] => some []
  | x :: l => match evC G env x, evCs G env l with
    | some c, some r => some (c :: r)
    | _, _ => none
theorem evCs_ok (he : ER σ env ρ) (hh : HR P G h0 σ H h) : ∀ {l : List Operand} {r : List CV}, evCs G env l = some r → ∃ vs, VRs σ r vs ∧ okAll ρ l = true ∧ l.map (evD ρ) = vs ∧ ∀ (acc : List Value) (F : List Value → Prop), F (acc.reverse ++ vs) → mvs ρ l acc F := by
  intro l
  induction l with
  | nil => intro r hr; cases hr; exact ⟨[], by unfold VRs; rfl, rfl, rfl, fun acc F hF => by simpa [mvs] using hF⟩
  | cons x l ih =>
    intro r hr
    simp only [evCs] at hr
    split at hr
    · rename_i c r' hc hr'
      cases hr
      obtain ⟨v, hv, hvr⟩ := evC_ok hc he hh
      obtain ⟨vs, h1, h2, h3, h4⟩ := ih hr'
      refine ⟨v :: vs, by unfold VRs; exact ⟨v, vs, rfl, hvr, h1⟩, by simp [okAll, (some1 hv).1, h2], by simp [(some1 hv).2, h3], fun acc F hF => ?_⟩
      unfold mvs
      exact mv_ok hv (h4 _ _ (by simpa using hF))
    · cases hr
def evO (G : Nat) (env : CE) : Option Operand → Option (Option CV)
  | none => some none
  | some x => match evC G env x with
    | some c => some (some c)
    | none => none
theorem evO_ok (he : ER σ env ρ) (hh : HR P G h0 σ H h) {x : Option Operand} {c : Option CV} (hc : evO G env x = some c) : ∃ v : Option Value, oR σ c v ∧ ∀ F : Option Value → Prop, F v → mvo ρ x F := by
  cases x with
  | none => cases hc; exact ⟨none, trivial, fun F hF => hF⟩
  | some x =>
    simp only [evO] at hc
    split at hc
    · rename_i c' hc'
      cases hc
      obtain ⟨v, hv, hvr⟩ := evC_ok hc' he hh
      exact ⟨some v, hvr, fun F hF => mv_ok hv hF⟩
    · cases hc
def unX (op : UnOp) (x : CV) : Option CV :=
  match op, x with
  | .neg, .int k n => some (wr k (0 - n))
  | .xor, .int k n => some (wr k (BitVec.ofInt k.bits (if k.signed then -1 else k.max) ^^^ BitVec.ofInt k.bits n).toNat)
  | .not, .bool b => some (.bool !b)
  | _, _ => none
theorem unX_ok {op : UnOp} {x y : CV} {v : Value} (hx : unX op x = some y) (hv : VR σ x v) : ∃ w, VR σ y w ∧ ∀ K : Value → Hp → Prop, K w h → swp P (Op.unary op v) h K := by
  unfold unX at hx
  split at hx
  · cases hx; unfold VR at hv; subst hv; exact ⟨_, by unfold wr VR; rfl, fun K hK => hK⟩
  · cases hx; unfold VR at hv; subst hv; exact ⟨_, by unfold wr VR; rfl, fun K hK => hK⟩
  · cases hx; unfold VR at hv; subst hv; exact ⟨_, by unfold VR; rfl, fun K hK => hK⟩
  · cases hx
def fdX (P : Program) (t : TypeId) (x : CV) (f : Nat) : Option CV :=
  match P.underlying t with
  | some (.struct fs) => match fs.toList[f]? with
    | some fl => match x with
      | .agg cs => bif (P.underlying fl.type).isSome && (P.info? fl.type).isSome then prtX P fl.type cs fl.offset else none
      | _ => none
    | none => none
  | _ => none
theorem fdX_ok {t : TypeId} {x y : CV} {f : Nat} {v : Value} (hx : fdX P t x f = some y) (hv : VR σ x v) : ∃ w, VR σ y w ∧ ∀ K : Value → Hp → Prop, K w h → swp P (Instr.field t v f) h K := by
  unfold fdX at hx
  split at hx
  · rename_i fs hu
    split at hx
    · rename_i fl hf
      split at hx
      · rename_i cs
        cases hb : (P.underlying fl.type).isSome && (P.info? fl.type).isSome with
        | false => rw [hb] at hx; cases hx
        | true =>
          rw [hb] at hx
          simp only [Bool.and_eq_true] at hb
          unfold VR at hv; obtain ⟨vs, rfl, hvs⟩ := hv
          obtain ⟨w, h1, h2⟩ := prtX_ok (show prtX P fl.type cs fl.offset = some y from hx) hvs
          refine ⟨w, h2, fun K hK => ?_⟩
          unfold Instr.field
          rw [swp_bind']
          refine underlying_swp hu ?_
          have hf' : fs[f]? = some fl := by simpa using hf
          simp only [hf', swp_bind']
          change swp P (part fl.type ⟨vs⟩ fl.offset) h _
          exact part_swp hb.1 hb.2 h1 hK
      · cases hx
    · cases hx
  · cases hx
def fitX : CT → CV → Bool
  | .int k, .int k' _ => kindEq k' k
  | .bool, .bool _ => true
  | .str, .str _ => true
  | .ptr, .pnil => true
  | .ptr, .ptr _ _ => true
  | .slice, .snil => true
  | .slice, .slc _ _ _ _ => true
  | .slice, .slz _ _ _ => true
  | .map, .mnil => true
  | .map, .map _ => true
  | .any, _ => true
  | _, _ => false
theorem fitX_ok {c : CT} {y : CV} {w : Value} (hf : fitX c y = true) (hv : VR σ y w) {F : Value → Prop} (hF : F w) : xC c (some w) F := by
  unfold fitX at hf
  split at hf <;> first | exact (Bool.noConfusion hf) | skip
  · unfold VR at hv; subst hv; show bif kindEq _ _ then _ else False; rw [hf]; rw [← kindEq_eq hf]; exact hF
  · unfold VR at hv; subst hv; exact hF
  · unfold VR at hv; obtain ⟨s, rfl, _⟩ := hv; exact hF
  · unfold VR at hv; subst hv; exact hF
  · unfold VR at hv; obtain ⟨p, _, rfl⟩ := hv; exact hF
  · unfold VR at hv; subst hv; exact hF
  · rename_i b o n c
    cases c with
    | none => unfold VR at hv; obtain ⟨p, c, _, rfl, _⟩ := hv; exact hF
    | some c => unfold VR at hv; obtain ⟨p, _, rfl⟩ := hv; exact hF
  · unfold VR at hv; obtain ⟨p, c, _, rfl, _⟩ := hv; exact hF
  · unfold VR at hv; subst hv; exact hF
  · unfold VR at hv; obtain ⟨p, _, rfl⟩ := hv; exact hF
  · exact hF
def exX (P : Program) (t : TypeId) (x : CV) (i : Nat) : Option CV := match x with
  | .tup l => match l[i]? with
    | some y => bif fitX (ctOf P t) y then some y else none
    | none => none
  | _ => none
theorem exX_ok {t : TypeId} {x y : CV} {i : Nat} {v : Value} (hx : exX P t x i = some y) (hv : VR σ x v) : ∃ w, VR σ y w ∧ ∀ K : Value → Hp → Prop, K w h → exK P t v i fun w => K w h := by
  unfold exX at hx
  split at hx
  · split at hx
    · rename_i z hz
      cases hf : fitX (ctOf P t) z with
      | false => rw [hf] at hx; cases hx
      | true =>
        rw [hf] at hx
        cases hx
        unfold VR at hv; obtain ⟨vs, rfl, hvs⟩ := hv
        obtain ⟨w, h1, h2⟩ := hvs.get hz
        refine ⟨w, h2, fun K hK => ?_⟩
        unfold exK
        simp only [h1]
        exact fitX_ok hf h2 hK
    · cases hx
  · cases hx
def miX (P : Program) (t : TypeId) (x : CV) : Option CV := match P.underlying t with
  | some (.interface _) => none
  | some _ => some (.ifc t x)
  | none => none
theorem miX_ok {t : TypeId} {x y : CV} {v : Value} (hx : miX P t x = some y) (hv : VR σ x v) : ∃ w, VR σ y w ∧ ∀ K : Value → Hp → Prop, K w h → swp P (Instr.makeInterface t v) h K := by
  unfold miX at hx
  split at hx
  · cases hx
  · rename_i d hn hu
    cases hx
    refine ⟨.iface t v, by unfold VR; exact ⟨v, rfl, hv⟩, fun K hK => ?_⟩
    unfold Instr.makeInterface
    rw [swp_bind']
    refine underlying_swp hu ?_
    cases d <;> first | exact hK | exact absurd rfl (hn _)
  · cases hx
def cellsX : CV → List CV
  | .agg l => l
  | x => [x]
theorem cellsX_ok {x : CV} {v : Value} (hv : VR σ x v) : VRs σ (cellsX x) (vcells v) := by
  have one : ∀ (x : CV), (∀ l, x ≠ .agg l) → VR σ x v → VRs σ [x] [v] := fun x _ h => by
    unfold VRs; exact ⟨v, [], rfl, h, by unfold VRs; rfl⟩
  cases x
  case agg l => unfold VR at hv; obtain ⟨vs, rfl, hvs⟩ := hv; exact hvs
  case slc b o n c =>
    have := one _ (by intro l e; cases e) hv
    obtain ⟨p, c', _, rfl⟩ := slc_ok hv; exact this
  all_goals
    have := one _ (by intro l e; cases e) hv
    unfold VR at hv
    first
      | (subst hv; exact this)
      | (obtain ⟨_, rfl, _⟩ := hv; exact this)
      | (obtain ⟨_, _, rfl⟩ := hv; exact this)
      | (obtain ⟨_, _, rfl, _⟩ := hv; exact this)
      | (obtain ⟨_, _, _, rfl, _⟩ := hv; exact this)
def fillX (place : Nat → Option (Nat × Nat)) (cs : List CV) : List (Nat × CV) → Option (List CV)
  | [] => some cs
  | (i, x) :: r => match place i with
    | none => none
    | some (off, size) => bif Nat.beq (cellsX x).length size && Nat.ble (off + size) cs.length then fillX place (cs.take off ++ (cellsX x ++ cs.drop (off + size))) r else none
def psR (σ : Sig) : List (Nat × CV) → List (Nat × Value) → Prop
  | [], l => l = []
  | (i, x) :: r, l => ∃ v m, l = (i, v) :: m ∧ VR σ x v ∧ psR σ r m
theorem setL_get (off : Nat) : ∀ (l : List Value) (k : Nat) (cells : Array Value) (i : Nat), off + k + l.length ≤ cells.size →
    ((l.zipIdx k).foldl (fun (cs : Array Value) (p : Value × Nat) => cs.setIfInBounds (off + p.2) p.1) cells)[i]? = if off + k ≤ i ∧ i < off + k + l.length then l[i - (off + k)]? else cells[i]? := by
  intro l
  induction l with
  | nil => intro k cells i _; simp; omega
  | cons v l ih =>
    intro k cells i hs
    simp only [List.length_cons] at hs
    rw [List.zipIdx_cons, List.foldl_cons, ih (k + 1) _ i (by simp; omega)]
    simp only [List.length_cons, Array.getElem?_setIfInBounds]
    by_cases h1 : off + (k + 1) ≤ i ∧ i < off + (k + 1) + l.length
    · rw [if_pos h1, if_pos (by omega)]
      obtain ⟨m, hm⟩ : ∃ m, i - (off + k) = m + 1 := ⟨i - (off + k) - 1, by omega⟩
      rw [hm, List.getElem?_cons_succ]; congr 1; omega
    · rw [if_neg h1]
      by_cases h2 : off + k = i
      · subst h2
        rw [if_pos rfl, if_pos (by omega), if_pos (by omega)]
        simp
      · rw [if_neg h2, if_neg (by omega)]
theorem setL_size (off : Nat) : ∀ (l : List Value) (k : Nat) (cells : Array Value),
    ((l.zipIdx k).foldl (fun (cs : Array Value) (p : Value × Nat) => cs.setIfInBounds (off + p.2) p.1) cells).size = cells.size := by
  intro l
  induction l with
  | nil => intro k cells; rfl
  | cons v l ih => intro k cells; rw [List.zipIdx_cons, List.foldl_cons, ih]; simp
theorem fillX_ok {place : Nat → Option (Nat × Nat)} : ∀ {ps : List (Nat × CV)} {qs : List (Nat × Value)} {cs r : List CV} {cells : Array Value}, fillX place cs ps = some r → psR σ ps qs → VRs σ cs cells.toList →
    ∃ out, Instr.fill place cells qs = some out ∧ VRs σ r out.toList := by
  intro ps
  induction ps with
  | nil => intro qs cs r cells hf hp hc; cases hf; unfold psR at hp; subst hp; exact ⟨cells, rfl, hc⟩
  | cons p ps ih =>
    intro qs cs r cells hf hp hc
    obtain ⟨i, x⟩ := p
    unfold psR at hp; obtain ⟨v, m, rfl, hx, hp⟩ := hp
    simp only [fillX] at hf
    unfold Instr.fill
    split at hf
    · cases hf
    · rename_i off size hpl
      rw [hpl]; simp only []
      cases hb : Nat.beq (cellsX x).length size && Nat.ble (off + size) cs.length with
      | false => rw [hb] at hf; cases hf
      | true =>
        rw [hb] at hf
        simp only [Bool.and_eq_true] at hb
        have h1 := Nat.eq_of_beq_eq_true hb.1
        have h2 := Nat.le_of_ble_eq_true hb.2
        have hcx := cellsX_ok hx
        have hvl : v.cells.toList = vcells v := vcells_eq v
        have hsz : v.cells.size = size := by
          have := hcx.len
          rw [← hvl] at this; simp at this; omega
        have hcl : cells.size = cs.length := by have := hc.len; simpa using this
        have hcond : ¬ (v.cells.size ≠ size || off + v.cells.size > cells.size) = true := by
          simp; omega
        rw [if_neg hcond]
        refine ih hf hp ?_
        have e : v.cells.zipIdx.foldl (fun (cs : Array Value) (x : Value × Nat) => match x with | (c, j) => cs.setIfInBounds (off + j) c) cells = ((vcells v).zipIdx 0).foldl (fun (cs : Array Value) (p : Value × Nat) => cs.setIfInBounds (off + p.2) p.1) cells := by
          rw [← hvl, ← Array.foldl_toList, Array.toList_zipIdx]
        rw [e]
        have hvlen : (vcells v).length = size := by rw [← hvl]; simpa using hsz
        refine .of (by simp [setL_size]; omega) fun j y hy => ?_
        rw [Array.getElem?_toList, setL_get off _ 0 _ _ (by omega)]
        rw [Nat.add_zero, hvlen]
        by_cases g1 : j < off
        · rw [if_neg (by omega)]
          rw [List.getElem?_append_left (by simp; omega), List.getElem?_take, if_pos g1] at hy
          have := hc.get hy
          simpa using this
        · rw [List.getElem?_append_right (by simp; omega)] at hy
          have hto : (List.take off cs).length = off := by simp; omega
          rw [hto] at hy
          by_cases g2 : j < off + size
          · rw [if_pos (by omega)]
            rw [List.getElem?_append_left (by omega)] at hy
            exact hcx.get hy
          · rw [if_neg (by omega)]
            rw [List.getElem?_append_right (by omega), List.getElem?_drop, h1] at hy
            have := hc.get hy
            have e2 : off + size + (j - off - size) = j := by omega
            rw [e2] at this
            simpa using this
def zX (P : Program) (t : TypeId) : Option (List CV) := match P.info? t with
  | some i => match i.zero with
    | some v => ofVs (vcells v)
    | none => none
  | none => none
theorem zX_ok {t : TypeId} {l : List CV} (hz : zX P t = some l) : VRs σ l (zc P t) ∧ zOk P t = true ∧ (P.info? t).isSome = true := by
  unfold zX at hz
  unfold zc zOk
  split at hz
  · rename_i i hi
    rw [hi]; simp only []
    split at hz
    · rename_i v hv
      rw [hv]; exact ⟨ofVs_ok hz, rfl, rfl⟩
    · cases hz
  · cases hz
def infOk (P : Program) : List Field → Bool
  | [] => true
  | f :: l => (P.info? f.type).isSome && infOk P l
theorem places_swp {K : List (Nat × Nat) → Hp → Prop} : ∀ {l : List Field}, infOk P l = true → K (l.map fun f => (f.offset, P.cellsOf f.type)) h →
    swp P (l.mapM (m := Sem) fun f => do pure (f.offset, ← Go.sizeOf f.type)) h K := by
  intro l
  induction l generalizing K with
  | nil => intro _ hk; exact hk
  | cons f l ih =>
    intro hi hk
    simp only [infOk, Bool.and_eq_true] at hi
    rw [List.mapM_cons]
    simp only [swp_bind']
    refine sizeOf_swp hi.1 ?_
    rw [swp_pure]
    exact ih (K := fun r h' => swp P (pure ((f.offset, P.cellsOf f.type) :: r)) h' K) hi.2 hk
def plX (l : List Field) (P : Program) (i : Nat) : Option (Nat × Nat) := match l[i]? with
  | some f => some (f.offset, P.cellsOf f.type)
  | none => none
def buX (P : Program) (t : TypeId) (ps : List (Nat × CV)) : Option CV :=
  match zX P t with
  | some z => match P.underlying t with
    | some (.struct fs) => bif infOk P fs.toList then (match fillX (plX fs.toList P) z ps with
      | some r => some (.agg r)
      | none => none) else none
    | some (.array _ e) => bif (P.info? e).isSome then (match fillX (fun i => some (i * P.cellsOf e, P.cellsOf e)) z ps with
      | some r => some (.agg r)
      | none => none) else none
    | _ => none
  | none => none
theorem buX_ok {t : TypeId} {ps : List (Nat × CV)} {qs : List (Nat × Value)} {y : CV} (hx : buX P t ps = some y) (hp : psR σ ps qs) : ∃ w, VR σ y w ∧ ∀ K : Value → Hp → Prop, K w h → swp P (Instr.build t ⟨qs⟩) h K := by
  unfold buX at hx
  split at hx
  · rename_i z hz
    obtain ⟨z1, z2, z3⟩ := zX_ok (σ := σ) hz
    split at hx
    · rename_i fs hu
      cases hb : infOk P fs.toList with
      | false => rw [hb] at hx; cases hx
      | true =>
        rw [hb] at hx
        simp only [cond_true] at hx
        split at hx
        · rename_i r hr
          cases hx
          obtain ⟨out, o1, o2⟩ := fillX_ok (cells := ⟨zc P t⟩) hr hp z1
          refine ⟨.agg ⟨out.toList⟩, by unfold VR; exact ⟨_, rfl, o2⟩, fun K hK => ?_⟩
          unfold Instr.build
          rw [swp_bind']
          refine zeroValue_swp z2 ?_
          intro v hv
          simp only [swp_bind']
          refine underlying_swp hu ?_
          simp only [swp_bind']
          rw [Array.mapM_eq_mapM_toList]
          change swp P (List.mapM (m := Sem) (fun f => do pure (f.offset, ← Go.sizeOf f.type)) fs.toList >>= fun a => pure a.toArray) h _
          rw [swp_bind']
          refine places_swp hb ?_
          rw [swp_pure, hv]
          have hpl : (fun x : Nat => (fs.toList.map fun f => (f.offset, P.cellsOf f.type)).toArray[x]?) = plX fs.toList P := by
            funext x
            unfold plX
            rw [List.getElem?_toArray, List.getElem?_map]
            cases fs.toList[x]? <;> rfl
          rw [hpl, o1]
          exact hK
        · cases hx
    · rename_i n e hu
      cases hb : (P.info? e).isSome with
      | false => rw [hb] at hx; cases hx
      | true =>
        rw [hb] at hx
        simp only [cond_true] at hx
        split at hx
        · rename_i r hr
          cases hx
          obtain ⟨out, o1, o2⟩ := fillX_ok (cells := ⟨zc P t⟩) hr hp z1
          refine ⟨.agg ⟨out.toList⟩, by unfold VR; exact ⟨_, rfl, o2⟩, fun K hK => ?_⟩
          unfold Instr.build
          rw [swp_bind']
          refine zeroValue_swp z2 ?_
          intro v hv
          simp only [swp_bind']
          refine underlying_swp hu ?_
          simp only [swp_bind']
          refine sizeOf_swp hb ?_
          rw [hv]
          simp only [o1]
          exact hK
        · cases hx
    · cases hx
  · cases hx
end
end Go.Ix

/-
  Maps that are read, lengths, the least and the greatest; then all operations that only compute or read, in one.
-/
set_option linter.unusedSimpArgs false
set_option linter.unusedVariables false
namespace Go.Ix
open Go Go.Hw
section
variable {P : Program} {E : Nat → Bool} {G : Nat} {h0 : Hp} {σ : Sig} {H : CH} {h : Hp} {env : CE} {ρ : Env}
def sameX : TypeDesc → CV → CV → Option Bool
  | .int _, .int k a, .int k' b => bif kindEq k k' then some (decide (a = b)) else none
  | .string, .str a, .str b => some (leq a b)
  | .bool, .bool a, .bool b => some (a == b)
  | _, _, _ => none
theorem sameX_ok {kd : TypeDesc} {x y : CV} {v w : Value} {b : Bool} (hx : sameX kd x y = some b) (hv : VR σ x v) (hw : VR σ y w) : Instr.sameNow kd v w = some b := by
  unfold sameX at hx
  split at hx
  · obtain ⟨hk, rfl⟩ := condN hx
    unfold VR at hv hw; subst hv; subst hw
    unfold Instr.sameNow
    simp only [kindEq_eq hk, if_true]; simp [BEq.beq]
  · cases hx; unfold VR at hv hw; obtain ⟨s, rfl, rfl⟩ := hv; obtain ⟨s', rfl, rfl⟩ := hw
    unfold Instr.sameNow; simp only []; rw [ba_beq]
  · cases hx; unfold VR at hv hw; subst hv; subst hw; unfold Instr.sameNow; rfl
  · cases hx
def findX (kd : TypeDesc) (k : CV) : List (CV × CV × Nat) → Nat → Option (Option (Nat × CV))
  | [], _ => some none
  | (a, v, _) :: l, i => match sameX kd k a with
    | some true => some (some (i, v))
    | some false => findX kd k l (i + 1)
    | none => none
def fR (σ : Sig) : Option (Nat × CV) → Option (Nat × Value) → Prop
  | none, none => True
  | some (i, x), some (j, v) => i = j ∧ VR σ x v
  | _, _ => False
theorem findX_ok {kd : TypeDesc} {k : CV} {w : Value} (hk : VR σ k w) : ∀ {es : List (CV × CV × Nat)} {l : List MapEntry} {i : Nat} {r : Option (Nat × CV)}, findX kd k es i = some r → entR σ es l →
    ∃ q, Instr.findNow kd w l i = some q ∧ fR σ r q := by
  intro es
  induction es with
  | nil => intro l i r hr he; cases hr; unfold entR at he; subst he; exact ⟨none, rfl, trivial⟩
  | cons e es ih =>
    intro l i r hr he
    obtain ⟨a, v, b⟩ := e
    unfold entR at he; obtain ⟨e', l, rfl, h1, h2, h3, h4⟩ := he
    simp only [findX] at hr
    unfold Instr.findNow
    split at hr
    · rename_i hs; cases hr
      rw [sameX_ok hs hk h1]; exact ⟨_, rfl, rfl, h2⟩
    · rename_i hs
      rw [sameX_ok hs hk h1]; exact ih hr h4
    · cases hr
def vkOk (P : Program) (t : TypeId) (x : CV) : Bool := match vtOf P t with
  | .c c => kOk c x
  | .agg cs => match x with
    | .agg l => ksOk cs l
    | _ => false
theorem kOk_on {c : CT} {x : CV} {v : Value} (hk : kOk c x = true) (hr : VR σ x v) {F : c.T → Prop} (hf : ∀ y : c.T, c.mk y = v → F y) : c.on (some v) F := by
  cases c <;> cases x <;> first | (simp [kOk] at hk; done) | skip
  case int.int k k' n =>
    unfold VR at hr; subst hr
    simp only [kOk] at hk
    simp only [CT.on, xI]
    rw [hk]; exact hf n (by rw [kindEq_eq hk]; rfl)
  case bool.bool => unfold VR at hr; subst hr; exact hf _ rfl
  case str.str => unfold VR at hr; obtain ⟨s, rfl, _⟩ := hr; exact hf _ rfl
  case ptr.pnil => unfold VR at hr; subst hr; exact hf _ rfl
  case ptr.ptr => unfold VR at hr; obtain ⟨p, _, rfl⟩ := hr; exact hf _ rfl
  case slice.snil => unfold VR at hr; subst hr; exact hf _ rfl
  case slice.slc b o n c => obtain ⟨p, c', _, rfl⟩ := slc_ok hr; exact hf _ rfl
  case slice.slz b o l => unfold VR at hr; obtain ⟨p, c, _, rfl, _⟩ := hr; exact hf _ rfl
  case map.mnil => unfold VR at hr; subst hr; exact hf _ rfl
  case map.map => unfold VR at hr; obtain ⟨p, _, rfl⟩ := hr; exact hf _ rfl
  all_goals exact hf _ rfl
theorem ksOk_on : ∀ {cs : List CT} {l : List CV} {vs : List Value} {F : TL cs → Prop}, ksOk cs l = true → VRs σ l vs → (∀ y : TL cs, TL.mk cs y = vs → F y) → TL.on cs vs F
  | [], l, vs, F, hk, hv, hf => by
    cases l with
    | nil => unfold VRs at hv; subst hv; exact hf () rfl
    | cons => cases hk
  | [c], l, vs, F, hk, hv, hf => by
    rcases l with _ | ⟨x, _ | ⟨y, l⟩⟩
    · cases hk
    · unfold VRs at hv; obtain ⟨v, r, rfl, h1, h2⟩ := hv
      unfold VRs at h2; subst h2
      simp only [ksOk, Bool.and_true] at hk
      exact kOk_on hk h1 fun y hy => hf y (by simp [TL.mk, hy])
    · simp [ksOk] at hk
  | c :: d :: cs, l, vs, F, hk, hv, hf => by
    cases l with
    | nil => cases hk
    | cons x l =>
      unfold VRs at hv; obtain ⟨v, r, rfl, h1, h2⟩ := hv
      simp only [ksOk, Bool.and_eq_true] at hk
      exact kOk_on hk.1 h1 fun y hy => ksOk_on (cs := d :: cs) hk.2 h2 fun z hz => hf (y, z) (by simp [TL.mk, hy, hz])
theorem vkOk_on {t : TypeId} {x : CV} {v : Value} (hk : vkOk P t x = true) (hr : VR σ x v) {F : Value → Prop} (hf : F v) : (vtOf P t).on (some v) fun y => F ((vtOf P t).mk y) := by
  unfold vkOk at hk
  generalize vtOf P t = vt at hk ⊢
  split at hk
  · exact kOk_on (F := fun y => F (CT.mk _ y)) hk hr fun y hy => by rw [hy]; exact hf
  · split at hk
    · unfold VR at hr; obtain ⟨vs, rfl, hvs⟩ := hr
      exact ksOk_on hk hvs fun y hy => by show F (.agg ⟨TL.mk _ y⟩); rw [hy]; exact hf
    · cases hk
def z1X (P : Program) (t : TypeId) : Option CV := match P.info? t with
  | some i => match i.zero with
    | some v => ofV v
    | none => none
  | none => none
theorem z1X_ok {t : TypeId} {x : CV} (hz : z1X P t = some x) : ∃ v, VR σ x v ∧ (∀ F : Value → Prop, F v → zv1 P t F) ∧ ∀ K : Value → Hp → Prop, K v h → swp P (zeroValue t) h K := by
  unfold z1X at hz
  split at hz
  · rename_i i hi
    split at hz
    · rename_i v hv
      refine ⟨v, ofV_ok hz, fun F hF => by unfold zv1; rw [hi]; simp only []; rw [hv]; exact hF, fun K hK => ?_⟩
      unfold zeroValue
      rw [swp_bind']
      refine typeInfo_swp hi ?_
      rw [hv]; exact hK
    · cases hz
  · cases hz
def lkE (P : Program) (et : TypeId) (ok : Bool) (kd : TypeDesc) (k : CV) (es : List (CV × CV × Nat)) : Option CV :=
  match findX kd k es 0, z1X P et with
  | some (some (_, v)), some _ => bif vkOk P et v then some (bif ok then .tup [v, .bool true] else v) else none
  | some none, some z => bif vkOk P et z then some (bif ok then .tup [z, .bool false] else z) else none
  | _, _ => none
def lkX (P : Program) (H : CH) (t : TypeId) (m k : CV) (ok : Bool) : Option CV :=
  match P.underlying t with
  | some (.map kt et) => match P.underlying kt with
    | some kd => bif plainKey kd then (match m with
      | .mnil => lkE P et ok kd k []
      | .map b => match H.t.get b with
        | some (.mp es _) => lkE P et ok kd k es
        | _ => none
      | _ => none) else none
    | none => none
  | _ => none
theorem lkE_ok {et : TypeId} {ok : Bool} {kd : TypeDesc} {k : CV} {w : Value} (hk : VR σ k w) {es : List (CV × CV × Nat)} {l : List MapEntry} (he : entR σ es l) {y : CV} (hx : lkE P et ok kd k es = some y) :
    ∃ u, VR σ y u ∧ ∀ F : Value → Prop, F u → keyAt kd w l (lkR P et ok F) := by
  unfold lkE at hx
  split at hx
  · rename_i i v z hf hz
    obtain ⟨hkk, rfl⟩ := condN hx
    obtain ⟨q, hq, hr⟩ := findX_ok hk hf he
    obtain ⟨zv, _, hz2, _⟩ := z1X_ok (σ := σ) (h := fun _ => none) hz
    cases q with
    | none => exact hr.elim
    | some q =>
      obtain ⟨j, u⟩ := q
      obtain ⟨_, hu⟩ := hr
      refine ⟨bif ok then .tuple ⟨[u, .bool true]⟩ else u, ?_, fun F hF => ?_⟩
      · cases ok
        · exact hu
        · simp only [cond_true]; unfold VR; refine ⟨_, rfl, ?_⟩
          unfold VRs; refine ⟨_, _, rfl, hu, ?_⟩
          unfold VRs; exact ⟨_, _, rfl, by unfold VR; rfl, by unfold VRs; rfl⟩
      · unfold keyAt; rw [hq]; simp only []
        unfold lkR
        refine hz2 _ ?_
        refine vkOk_on (F := fun x => F (bif ok then .tuple ⟨[x, .bool true]⟩ else x)) hkk hu ?_
        exact hF
  · rename_i z hf hz
    obtain ⟨hkk, rfl⟩ := condN hx
    obtain ⟨q, hq, hr⟩ := findX_ok hk hf he
    obtain ⟨zv, hzr, hz2, _⟩ := z1X_ok (σ := σ) (h := fun _ => none) hz
    cases q with
    | some q => obtain ⟨j, u⟩ := q; exact hr.elim
    | none =>
      refine ⟨bif ok then .tuple ⟨[zv, .bool false]⟩ else zv, ?_, fun F hF => ?_⟩
      · cases ok
        · exact hzr
        · simp only [cond_true]; unfold VR; refine ⟨_, rfl, ?_⟩
          unfold VRs; refine ⟨_, _, rfl, hzr, ?_⟩
          unfold VRs; exact ⟨_, _, rfl, by unfold VR; rfl, by unfold VRs; rfl⟩
      · unfold keyAt; rw [hq]; simp only []
        unfold lkR
        refine hz2 _ ?_
        refine vkOk_on (F := fun x => F (bif ok then .tuple ⟨[x, .bool false]⟩ else x)) hkk hzr ?_
        exact hF
  · cases hx
theorem mp_at (hh : HR P G h0 σ H h) {b : Nat} {es : List (CV × CV × Nat)} {c : Nat} (hg : H.t.get b = some (.mp es c)) {p : Pl} (hp : σ b = some p) : ∃ l : List MapEntry, h p.r = some (.map ⟨l⟩ c) ∧ entR σ es l := by
  obtain ⟨q, x, h1, h2, h3⟩ := hh.obj b _ hg
  rw [hp] at h1; cases h1
  unfold OR at h3
  obtain ⟨l, rfl, he, _⟩ := h3
  exact ⟨l, h2, he⟩
theorem lkX_ok (hh : HR P G h0 σ H h) {t : TypeId} {m k y : CV} {ok : Bool} {vm vk : Value} (hx : lkX P H t m k ok = some y) (hm : VR σ m vm) (hk : VR σ k vk) :
    ∃ u, VR σ y u ∧ ∀ F : Value → Prop, F u → lkK P t vm vk ok h F := by
  unfold lkX at hx
  unfold lkK
  split at hx
  · rename_i kt et hu
    rw [hu]; simp only []
    split at hx
    · rename_i kd hkd
      rw [hkd]; simp only []
      cases hp : plainKey kd with
      | false => rw [hp] at hx; cases hx
      | true =>
        rw [hp] at hx
        simp only [cond_true] at hx ⊢
        split at hx
        · unfold VR at hm; subst hm
          obtain ⟨u, h1, h2⟩ := lkE_ok hk (l := []) (by unfold entR; rfl) hx
          exact ⟨u, h1, fun F hF => h2 F hF⟩
        · rename_i b
          split at hx
          · rename_i es c hg
            unfold VR at hm; obtain ⟨p, hpb, rfl⟩ := hm
            obtain ⟨l, g1, g2⟩ := mp_at hh hg hpb
            obtain ⟨u, h1, h2⟩ := lkE_ok hk g2 hx
            refine ⟨u, h1, fun F hF => ?_⟩
            unfold xMap; simp only []; rw [g1]; exact h2 F hF
          · cases hx
        · cases hx
    · cases hx
  · cases hx
def lenX (P : Program) (H : CH) (t : TypeId) (x : CV) : Option Nat :=
  match P.underlying t with
  | some .string => match x with | .str l => some l.length | _ => none
  | some (.slice _) => match x with
    | .snil => some 0
    | .slc _ _ n _ => some n
    | .slz _ _ _ => some 0
    | _ => none
  | some (.array n _) => some n
  | some (.pointer e) => match P.underlying e with | some (.array n _) => some n | _ => none
  | some (.map _ _) => match x with
    | .mnil => some 0
    | .map b => match H.t.get b with
      | some (.mp es _) => some es.length
      | _ => none
    | _ => none
  | _ => none
theorem entR_len : ∀ {es : List (CV × CV × Nat)} {l : List MapEntry}, entR σ es l → l.length = es.length := by
  intro es
  induction es with
  | nil => intro l h; unfold entR at h; rw [h]; rfl
  | cons e es ih => intro l h; obtain ⟨a, b, c⟩ := e; unfold entR at h; obtain ⟨e, r, rfl, _, _, _, h⟩ := h; simp [ih h]
theorem lenX_ok (hh : HR P G h0 σ H h) {t : TypeId} {x : CV} {n : Nat} {v : Value} (hx : lenX P H t x = some n) (hv : VR σ x v) {F : Nat → Prop} (hF : F n) : lenK P t v h F := by
  unfold lenX at hx
  unfold lenK
  split at hx
  · rename_i hu; rw [hu]; simp only []
    split at hx
    · cases hx; unfold VR at hv; obtain ⟨s, rfl, rfl⟩ := hv; rw [bl_len] at hF; exact hF
    · cases hx
  · rename_i hu; rw [hu]; simp only []
    split at hx
    · cases hx; unfold VR at hv; subst hv; exact hF
    · cases hx; obtain ⟨p, c', _, rfl⟩ := slc_ok hv; exact hF
    · cases hx; unfold VR at hv; obtain ⟨p, c, _, rfl, _⟩ := hv; exact hF
    · cases hx
  · rename_i hu; rw [hu]; cases hx; exact hF
  · rename_i e hu; rw [hu]; simp only []
    split at hx
    · rename_i he; rw [he]; cases hx; exact hF
    · cases hx
  · rename_i hu; rw [hu]; simp only []
    split at hx
    · cases hx; unfold VR at hv; subst hv; exact hF
    · split at hx
      · rename_i hg
        cases hx; unfold VR at hv; obtain ⟨p, hp, rfl⟩ := hv
        obtain ⟨l, g1, g2⟩ := mp_at hh hg hp
        unfold xMap; simp only []; rw [g1]
        show F l.length
        rw [entR_len g2]; exact hF
      · cases hx
    · cases hx
  · cases hx
def mmX (f : Int → Int → Int) : Int → List CV → Option Int
  | a, [] => some a
  | a, .int _ b :: l => mmX f (f a b) l
  | _, _ => none
theorem mmX_ok {f : Int → Int → Int} {k : IntKind} : ∀ {l : List CV} {a r : Int} {vs : List Value}, mmX f a l = some r → VRs σ l vs → ∀ F : Value → Prop, F (.int k r) → mmK f k a vs F := by
  intro l
  induction l with
  | nil => intro a r vs hx hv F hF; cases hx; unfold VRs at hv; subst hv; exact hF
  | cons x l ih =>
    intro a r vs hx hv F hF
    unfold VRs at hv; obtain ⟨v, vs, rfl, h1, h2⟩ := hv
    cases x <;> first | (simp [mmX] at hx; done) | skip
    unfold VR at h1; subst h1
    exact ih hx h2 F hF
def mmsX (f : Int → Int → Int) (l : List CV) : Option CV := match l with
  | .int k a :: l => match mmX f a l with
    | some r => some (.int k r)
    | none => none
  | _ => none
theorem mmsX_ok {f : Int → Int → Int} {l : List CV} {vs : List Value} {y : CV} (hx : mmsX f l = some y) (hv : VRs σ l vs) : ∃ w, VR σ y w ∧ ∀ F : Value → Prop, F w → mmsK f vs F := by
  unfold mmsX at hx
  split at hx
  · split at hx
    · rename_i r hr
      cases hx
      unfold VRs at hv; obtain ⟨v, vs, rfl, h1, h2⟩ := hv
      unfold VR at h1; subst h1
      exact ⟨_, by unfold VR; rfl, fun F hF => mmX_ok hr h2 F hF⟩
    · cases hx
  · cases hx
def vbX (P : Program) (H : CH) (b : Builtin) (ts : List TypeId) (l : List CV) : Option CV :=
  match b, ts, l with
  | .len, t :: _, [x] => match lenX P H t x with
    | some n => some (.int .i64 n)
    | none => none
  | .cap, t :: _, [x] => match P.underlying t with
    | some (.slice _) => match x with
      | .snil => some (.int .i64 0)
      | .slc _ _ _ (some c) => some (.int .i64 c)
      | _ => none
    | _ => none
  | .min, _, l => mmsX mn l
  | .max, _, l => mmsX mx l
  | _, _, _ => none
theorem vbX_known {b : Builtin} {ts : List TypeId} {l : List CV} {y : CV} (hx : vbX P H b ts l = some y) : knownB b = true := by
  unfold vbX at hx
  split at hx <;> first | rfl | cases hx
theorem vbX_ok (hh : HR P G h0 σ H h) {b : Builtin} {ts : List TypeId} {l : List CV} {vs : List Value} {y : CV} (hx : vbX P H b ts l = some y) (hv : VRs σ l vs) : ∃ w, VR σ y w ∧ ∀ K : Value → Hp → Prop, K w h → bltK P b ts vs h K := by
  unfold vbX at hx
  split at hx
  · split at hx
    · rename_i n hn
      cases hx
      unfold VRs at hv; obtain ⟨v, r, rfl, h1, h2⟩ := hv
      unfold VRs at h2; subst h2
      refine ⟨.int .i64 n, by unfold VR; rfl, fun K hK => ?_⟩
      unfold bltK; exact lenX_ok hh hn h1 hK
    · cases hx
  · split at hx
    · rename_i hu
      unfold VRs at hv; obtain ⟨v, r, rfl, h1, h2⟩ := hv
      unfold VRs at h2; subst h2
      split at hx
      · cases hx; unfold VR at h1; subst h1
        exact ⟨_, by unfold VR; rfl, fun K hK => by unfold bltK; simp only []; rw [hu]; exact hK⟩
      · cases hx; unfold VR at h1; obtain ⟨p, _, rfl⟩ := h1
        exact ⟨_, by unfold VR; rfl, fun K hK => by unfold bltK; simp only []; rw [hu]; exact hK⟩
      · cases hx
    · cases hx
  · obtain ⟨w, h1, h2⟩ := mmsX_ok hx hv
    exact ⟨w, h1, fun K hK => by unfold bltK; exact h2 _ hK⟩
  · obtain ⟨w, h1, h2⟩ := mmsX_ok hx hv
    exact ⟨w, h1, fun K hK => by unfold bltK; exact h2 _ hK⟩
  · cases hx
def evPs (G : Nat) (env : CE) : List (Nat × Operand) → Option (List (Nat × CV))
  | [] => some []
  | (i, x) :: l => match evC G env x, evPs G env l with
    | some c, some r => some ((i, c) :: r)
    | _, _ => none
theorem evPs_ok (he : ER σ env ρ) (hh : HR P G h0 σ H h) : ∀ {l : List (Nat × Operand)} {r : List (Nat × CV)}, evPs G env l = some r → psR σ r (l.map fun (i, x) => (i, evD ρ x)) ∧ okAll ρ (l.map (·.2)) = true := by
  intro l
  induction l with
  | nil => intro r hr; cases hr; exact ⟨by unfold psR; rfl, rfl⟩
  | cons p l ih =>
    intro r hr
    obtain ⟨i, x⟩ := p
    simp only [evPs] at hr
    split at hr
    · rename_i c r' hc hr'
      cases hr
      obtain ⟨v, hv, hvr⟩ := evC_ok hc he hh
      obtain ⟨h1, h2⟩ := ih hr'
      refine ⟨?_, by simp [okAll, (some1 hv).1]; simpa using h2⟩
      unfold psR
      exact ⟨v, _, by simp [(some1 hv).2], hvr, h1⟩
    · cases hr
def taX (P : Program) (x : CV) (ty : TypeId) (ok : Bool) : Option CV :=
  match P.underlying ty with
  | some (.interface _) => none
  | some _ => match x with
    | .ifc t v => bif Nat.beq t ty then some (bif ok then .tup [v, .bool true] else v) else bif ok then (match z1X P ty with | some z => some (.tup [z, .bool false]) | none => none) else none
    | _ => none
  | none => none
theorem taX_ok {x y : CV} {xt ty : TypeId} {ok : Bool} {v : Value} (hx : taX P x ty ok = some y) (hv : VR σ x v) : ∃ w, VR σ y w ∧ ∀ K : Value → Hp → Prop, K w h → swp P (Instr.typeAssert v xt ty ok) h K := by
  unfold taX at hx
  split at hx
  · cases hx
  · rename_i d hn hu
    split at hx
    · rename_i t z
      unfold VR at hv; obtain ⟨w, rfl, hw⟩ := hv
      cases hb : Nat.beq t ty with
      | true =>
        rw [hb] at hx; cases hx
        have := Nat.eq_of_beq_eq_true hb; subst this
        refine ⟨bif ok then .tuple ⟨[w, .bool true]⟩ else w, ?_, fun K hK => ?_⟩
        · cases ok
          · exact hw
          · simp only [cond_true]; unfold VR; refine ⟨_, rfl, ?_⟩
            unfold VRs; refine ⟨_, _, rfl, hw, ?_⟩
            unfold VRs; exact ⟨_, _, rfl, by unfold VR; rfl, by unfold VRs; rfl⟩
        · unfold Instr.typeAssert
          simp only [swp_bind']
          refine underlying_swp hu ?_
          cases d <;> first | (simp only [if_true]; cases ok <;> exact hK) | exact absurd rfl (hn _)
      | false =>
        rw [hb] at hx
        have hne := Nat.ne_of_beq_eq_false hb
        cases ok with
        | false => cases hx
        | true =>
          simp only [cond_false, cond_true] at hx
          split at hx
          · rename_i z hz
            cases hx
            obtain ⟨zv, hzr, _, hzs⟩ := z1X_ok (σ := σ) (h := h) hz
            refine ⟨.tuple ⟨[zv, .bool false]⟩, ?_, fun K hK => ?_⟩
            · unfold VR; refine ⟨_, rfl, ?_⟩
              unfold VRs; refine ⟨_, _, rfl, hzr, ?_⟩
              unfold VRs; exact ⟨_, _, rfl, by unfold VR; rfl, by unfold VRs; rfl⟩
            · unfold Instr.typeAssert
              simp only [swp_bind']
              refine underlying_swp hu ?_
              cases d <;> first | (simp only [if_neg hne, if_true, swp_bind']; exact hzs _ hK) | exact absurd rfl (hn _)
          · cases hx
    · cases hx
  · cases hx
def vX (P : Program) (G : Nat) (H : CH) (env : CE) (o : Oper) : Option CV :=
  match o.op with
  | .move x => evC G env x
  | .assign x => evC G env x
  | .pick c a b => match evC G env c, evC G env a, evC G env b with
    | some (.bool c), some x, some y => some (bif c then x else y)
    | _, _, _ => none
  | .load t x => match evC G env x with
    | some (.ptr b o) => bif (P.underlying t).isSome then ldX P H t b o else none
    | _ => none
  | .nilCheck x => match evC G env x with
    | some x => nilX x
    | none => none
  | .fieldAddr s x f => match evC G env x with
    | some x => faX P s f x
    | none => none
  | .indexAddr t x i => match evC G env x, evC G env i with
    | some x, some i => iaX P t x i
    | _, _ => none
  | .index t x i => match evC G env x, evC G env i with
    | some x, some i => ixX P t x i
    | _, _ => none
  | .slice t x lo hi mx => match evC G env x, evO G env lo, evO G env hi, evO G env mx with
    | some x, some lo, some hi, some mx => slX P H t x lo hi mx
    | _, _, _, _ => none
  | .convert s d x => match evC G env x with
    | some x => cvX P H s d x
    | none => none
  | .binOp op t x y _ => match evC G env x, evC G env y with
    | some a, some b => binX P H op t (isC y) a b
    | _, _ => none
  | .lookup t m k ok => match evC G env m, evC G env k with
    | some m, some k => lkX P H t m k ok
    | _, _ => none
  | .unOp op _ x => match evC G env x with
    | some x => unX op x
    | none => none
  | .field t x f => match evC G env x with
    | some x => fdX P t x f
    | none => none
  | .extract x i => match evC G env x with
    | some x => exX P o.type x i
    | none => none
  | .makeInterface t x => match evC G env x with
    | some x => miX P t x
    | none => none
  | .build t ps => match evPs G env ps.toList with
    | some ps => buX P t ps
    | none => none
  | .typeAssert x _ t ok => match evC G env x with
    | some x => taX P x t ok
    | none => none
  | .makeFunc fn a b => match fn with
    | .func f => match evCs G env a.toList, evCs G env b.toList with
      | some a, some b => some (.fn f a b)
      | _, _ => none
    | _ => none
  | .call ⟨.builtin b, args, ts⟩ => match evCs G env args.toList with
    | some l => vbX P H b ts.toList l
    | none => none
  | _ => none
theorem some_any {o : Oper} {K : Value → Hp → Prop} {s : Sem Value} {l : List Operand} (hl : o.op.operands.toList = l) (hs : isSel o.op = false) (ho : okAll ρ l = true)
    (he : execOp (evD ρ) o = do let x ← s; pure (Next.value x)) (hk : swp P s h K) : someAny ρ P o h K := by
  unfold someAny
  rw [hl, ho, hs]
  show opS P o (evD ρ) h K
  unfold opS
  rw [he]
  exact vswp hk
theorem ok1 {x : Operand} {v : Value} (hv : ev ρ x = some v) : okAll ρ [x] = true := by simp [okAll, (some1 hv).1]
set_option maxRecDepth 2000 in
theorem vX_ok (he : ER σ env ρ) (hh : HR P G h0 σ H h) {o : Oper} {y : CV} (hx : vX P G H env o = some y) : ∃ v, VR σ y v ∧ ∀ K : Value → Hp → Prop, K v h → opK P E o ρ h K := by
  obtain ⟨dst, op, type, pos, after, guard⟩ := o
  unfold vX at hx
  cases op <;> simp only [] at hx <;> first | (cases hx; done) | skip
  case move x =>
    obtain ⟨v, hv, hr⟩ := evC_ok hx he hh
    exact ⟨v, hr, fun K hK => by unfold opK; exact mv_ok hv hK⟩
  case assign x =>
    obtain ⟨v, hv, hr⟩ := evC_ok hx he hh
    exact ⟨v, hr, fun K hK => by unfold opK; exact mv_ok hv hK⟩
  case pick c a b =>
    split at hx
    · rename_i c' x' y' hc ha hb
      cases hx
      obtain ⟨vc, h1, h2⟩ := evC_ok hc he hh
      obtain ⟨va, h3, h4⟩ := evC_ok ha he hh
      obtain ⟨vb, h5, h6⟩ := evC_ok hb he hh
      unfold VR at h2; subst h2
      refine ⟨bif c' then va else vb, by cases c' <;> assumption, fun K hK => ?_⟩
      unfold opK
      refine mv_ok h1 (mv_ok h3 (mv_ok h5 ?_))
      show bif c' then K va h else K vb h
      cases c' <;> exact hK
    · cases hx
  case load t x =>
    split at hx
    · rename_i b o hc
      obtain ⟨v, h1, h2⟩ := evC_ok hc he hh
      cases hu : (P.underlying t).isSome with
      | false => rw [hu] at hx; cases hx
      | true =>
        rw [hu] at hx
        unfold VR at h2; obtain ⟨p, hp, rfl⟩ := h2
        obtain ⟨w, h3, h4⟩ := ldX_ok hh (show ldX P H t b o = some y from hx) hp
        refine ⟨w, h3, fun K hK => ?_⟩
        unfold opK
        refine mv_ok h1 ?_
        rw [hu]
        exact h4 (fun x => K x h) hK
    · cases hx
  case nilCheck x =>
    split at hx
    · rename_i c hc
      obtain ⟨v, h1, h2⟩ := evC_ok hc he hh
      obtain ⟨h3, h4⟩ := nilX_ok hx h2
      exact ⟨v, h3, fun K hK => by unfold opK; exact mv_ok h1 (h4 (fun v => K v h) hK)⟩
    · cases hx
  case fieldAddr s x f =>
    split at hx
    · rename_i c hc
      obtain ⟨v, h1, h2⟩ := evC_ok hc he hh
      obtain ⟨w, h3, h4⟩ := faX_ok hx h2
      exact ⟨w, h3, fun K hK => by unfold opK; exact mv_ok h1 (h4 (fun v => K v h) hK)⟩
    · cases hx
  case indexAddr t x i =>
    split at hx
    · rename_i c ci hc hci
      obtain ⟨v, h1, h2⟩ := evC_ok hc he hh
      obtain ⟨vi, h1', h2'⟩ := evC_ok hci he hh
      obtain ⟨w, h3, h4⟩ := iaX_ok hx h2 h2'
      exact ⟨w, h3, fun K hK => by unfold opK; exact mv_ok h1 (mv_ok h1' (h4 (fun v => K v h) hK))⟩
    · cases hx
  case index t x i =>
    split at hx
    · rename_i c ci hc hci
      obtain ⟨v, h1, h2⟩ := evC_ok hc he hh
      obtain ⟨vi, h1', h2'⟩ := evC_ok hci he hh
      obtain ⟨w, h3, h4⟩ := ixX_ok hx h2 h2'
      exact ⟨w, h3, fun K hK => by unfold opK; exact mv_ok h1 (mv_ok h1' (h4 (fun v => K v h) hK))⟩
    · cases hx
  case slice t x lo hi mx =>
    split at hx
    · rename_i c cl ch cm hc hl hhi hm
      obtain ⟨v, h1, h2⟩ := evC_ok hc he hh
      obtain ⟨vl, l1, l2⟩ := evO_ok he hh hl
      obtain ⟨vh, i1, i2⟩ := evO_ok he hh hhi
      obtain ⟨vm, m1, m2⟩ := evO_ok he hh hm
      obtain ⟨w, h3, h4⟩ := slX_ok hh hx h2 l1 i1 m1
      exact ⟨w, h3, fun K hK => by unfold opK; exact mv_ok h1 (l2 _ (i2 _ (m2 _ (h4 (fun v => K v h) hK))))⟩
    · cases hx
  case convert s d x =>
    split at hx
    · rename_i c hc
      obtain ⟨v, h1, h2⟩ := evC_ok hc he hh
      obtain ⟨w, h3, h4⟩ := cvX_ok hh hx h2
      exact ⟨w, h3, fun K hK => by unfold opK; exact mv_ok h1 (h4 K hK)⟩
    · cases hx
  case binOp op t x y u =>
    split at hx
    · rename_i c ci hc hci
      obtain ⟨v, h1, h2⟩ := evC_ok hc he hh
      obtain ⟨vi, h1', h2'⟩ := evC_ok hci he hh
      obtain ⟨w, h3, h4⟩ := binX_ok hh hx h2 h2'
      exact ⟨w, h3, fun K hK => by unfold opK; exact mv_ok h1 (mv_ok h1' (h4 (fun v => K v h) hK))⟩
    · cases hx
  case lookup t m k ok =>
    split at hx
    · rename_i c ci hc hci
      obtain ⟨v, h1, h2⟩ := evC_ok hc he hh
      obtain ⟨vi, h1', h2'⟩ := evC_ok hci he hh
      obtain ⟨w, h3, h4⟩ := lkX_ok hh hx h2 h2'
      exact ⟨w, h3, fun K hK => by unfold opK; exact mv_ok h1 (mv_ok h1' (h4 (fun v => K v h) hK))⟩
    · cases hx
  case unOp op t x =>
    split at hx
    · rename_i c hc
      obtain ⟨v, h1, h2⟩ := evC_ok hc he hh
      obtain ⟨w, h3, h4⟩ := unX_ok (P := P) (h := h) hx h2
      refine ⟨w, h3, fun K hK => ?_⟩
      unfold opK
      exact some_any rfl rfl (ok1 h1) rfl (by rw [(some1 h1).2]; exact h4 K hK)
    · cases hx
  case field t x f =>
    split at hx
    · rename_i c hc
      obtain ⟨v, h1, h2⟩ := evC_ok hc he hh
      obtain ⟨w, h3, h4⟩ := fdX_ok (P := P) (h := h) hx h2
      refine ⟨w, h3, fun K hK => ?_⟩
      unfold opK
      exact some_any rfl rfl (ok1 h1) rfl (by rw [(some1 h1).2]; exact h4 K hK)
    · cases hx
  case extract x i =>
    split at hx
    · rename_i c hc
      obtain ⟨v, h1, h2⟩ := evC_ok hc he hh
      obtain ⟨w, h3, h4⟩ := exX_ok (P := P) (h := h) hx h2
      refine ⟨w, h3, fun K hK => ?_⟩
      unfold opK
      exact mv_ok h1 (h4 K hK)
    · cases hx
  case makeInterface t x =>
    split at hx
    · rename_i c hc
      obtain ⟨v, h1, h2⟩ := evC_ok hc he hh
      obtain ⟨w, h3, h4⟩ := miX_ok (P := P) (h := h) hx h2
      refine ⟨w, h3, fun K hK => ?_⟩
      unfold opK
      exact some_any rfl rfl (ok1 h1) rfl (by rw [(some1 h1).2]; exact h4 K hK)
    · cases hx
  case build t ps =>
    split at hx
    · rename_i c hc
      obtain ⟨h1, h2⟩ := evPs_ok he hh hc
      obtain ⟨w, h3, h4⟩ := buX_ok (P := P) (h := h) hx h1
      refine ⟨w, h3, fun K hK => ?_⟩
      unfold opK
      refine some_any (l := ps.toList.map (·.2)) (s := Instr.build t (ps.map fun (i, x) => (i, evD ρ x))) (by simp [Op.operands]) rfl h2 rfl ?_
      have e : (ps.map fun (p : Nat × Operand) => (p.1, evD ρ p.2)) = ⟨ps.toList.map fun (p : Nat × Operand) => (p.1, evD ρ p.2)⟩ := by apply Array.ext'; simp
      show swp P (Instr.build t (ps.map fun (p : Nat × Operand) => (p.1, evD ρ p.2))) h K
      rw [e]; exact h4 K hK
    · cases hx
  case typeAssert x xt t ok =>
    split at hx
    · rename_i c hc
      obtain ⟨v, h1, h2⟩ := evC_ok hc he hh
      obtain ⟨w, h3, h4⟩ := taX_ok (P := P) (h := h) (xt := xt) hx h2
      refine ⟨w, h3, fun K hK => ?_⟩
      unfold opK
      exact some_any rfl rfl (ok1 h1) rfl (by rw [(some1 h1).2]; exact h4 K hK)
    · cases hx
  case makeFunc fn a b =>
    split at hx
    · rename_i f
      split at hx
      · rename_i ca cb ha hb
        cases hx
        obtain ⟨va, a1, a2, a3, _⟩ := evCs_ok he hh ha
        obtain ⟨vb, b1, b2, b3, _⟩ := evCs_ok he hh hb
        refine ⟨.func (.func f) ⟨va⟩ ⟨vb⟩, by unfold VR; exact ⟨_, _, rfl, a1, b1⟩, fun K hK => ?_⟩
        unfold opK
        have oa : ∀ (l m : List Operand), okAll ρ (l ++ m) = (okAll ρ l && okAll ρ m) := fun l m => by
          induction l with
          | nil => simp [okAll]
          | cons x l ih => simp [okAll, ih, Bool.and_assoc]
        refine some_any (l := a.toList ++ b.toList) (s := Instr.makeFunc (.func f) (a.map (evD ρ)) (b.map (evD ρ))) (by simp [Op.operands]) rfl (by rw [oa, a2, b2]; rfl) rfl ?_
        have ea : a.map (evD ρ) = ⟨va⟩ := by apply Array.ext'; simp [a3]
        have eb : b.map (evD ρ) = ⟨vb⟩ := by apply Array.ext'; simp [b3]
        rw [ea, eb]; exact hK
      · cases hx
    · cases hx
  case call c =>
    obtain ⟨callee, args, ts⟩ := c
    cases callee with
    | value f => cases hx
    | invoke r m => cases hx
    | builtin b =>
      simp only [] at hx
      split at hx
      · rename_i l hl
        obtain ⟨vs, a1, a2, a3, a4⟩ := evCs_ok he hh hl
        obtain ⟨w, h3, h4⟩ := vbX_ok hh hx a1
        refine ⟨w, h3, fun K hK => ?_⟩
        unfold opK
        show bif knownB b then (mvs ρ args.toList [] fun vs => bltK P b ts.toList vs h K) else _
        rw [show knownB b = true from vbX_known hx]
        show mvs ρ args.toList [] fun vs => bltK P b ts.toList vs h K
        exact a4 [] _ (h4 K hK)
      · cases hx
end
end Go.Ix

/-
  What changes memory: blocks that are made, cells that are written.
-/
set_option linter.unusedSimpArgs false
set_option linter.unusedVariables false
namespace Go.Ix
open Go Go.Hw
section
variable {P : Program} {E : Nat → Bool} {G : Nat} {h0 : Hp} {σ σ' : Sig} {H : CH} {h : Hp} {env : CE} {ρ : Env}
theorem entR.mono (hs : Le σ σ') : ∀ {es : List (CV × CV × Nat)} {l : List MapEntry}, entR σ es l → entR σ' es l := by
  intro es
  induction es with
  | nil => intro l h; exact h
  | cons e es ih =>
    intro l h; obtain ⟨a, b, c⟩ := e
    unfold entR at h ⊢; obtain ⟨e, r, h1, h2, h3, h4, h5⟩ := h
    exact ⟨e, r, h1, h2.mono hs _ _, h3.mono hs _ _, h4, ih h5⟩
theorem OR.mono (hs : Le σ σ') {p : Pl} {o : CO} {x : Obj} (h : OR P h0 σ p o x) : OR P h0 σ' p o x := by
  cases o with
  | row own opn mk e cs =>
    unfold OR at h ⊢
    obtain ⟨vs, lo, hi, h1, h2, h3, h4, h5, h6⟩ := h
    exact ⟨vs, lo, hi, h1, h2, h3, h4, fun i c hc => let ⟨v, g1, g2⟩ := h5 i c hc; ⟨v, g1, g2.mono hs _ _⟩, h6⟩
  | tab cs => unfold OR at h ⊢; obtain ⟨vs, e, fr, h1, h2⟩ := h; exact ⟨vs, e, fr, h1, fun i c hc => let ⟨v, g1, g2⟩ := h2 i c hc; ⟨v, g1, g2.mono hs _ _⟩⟩
  | mp es c => unfold OR at h ⊢; obtain ⟨l, h1, h2, h3⟩ := h; exact ⟨l, h1, h2.mono hs, h3⟩
  | sit l n => exact h
  | mit m since seen last =>
    unfold OR at h ⊢
    obtain ⟨r, h1, h2, h3⟩ := h
    refine ⟨r, h1, ?_, h3⟩
    cases m <;> cases r <;> first | exact h2 | (obtain ⟨q, g1, g2⟩ := h2; exact ⟨q, hs _ _ g1, g2⟩)
def addB (H : CH) (o : CO) : CH := ⟨H.t.set H.nx (some o), H.nx + 1⟩
def plus (σ : Sig) (n : Nat) (p : Pl) : Sig := fun b => if b = n then some p else σ b
theorem plus_le {n : Nat} (hn : σ n = none) {p : Pl} : Le σ (plus σ n p) := by
  intro b q hq
  unfold plus
  by_cases e : b = n
  · subst e; rw [hn] at hq; cases hq
  · rw [if_neg e]; exact hq
theorem HR.add (hh : HR P G h0 σ H h) {b : Nat} (hb : h b = none) {o : CO} {x : Obj} {p : Pl} (hp : p.r = b) (ho : h0 b = none → OR P h0 (plus σ H.nx p) p o x) :
    Le σ (plus σ H.nx p) ∧ HR P G h0 (plus σ H.nx p) (addB H o) (upd h b x) := by
  have hl : Le σ (plus σ H.nx p) := plus_le (hh.fresh _ (Nat.le_refl _))
  have h0b : h0 b = none := by
    cases hx : h0 b with
    | none => rfl
    | some y => rw [hh.keep b y hx] at hb; cases hb
  refine ⟨hl, ?_, ?_, ?_, ?_, ?_⟩
  · intro b1 o1 hg
    simp only [addB, T.get_set] at hg
    by_cases e : b1 = H.nx
    · subst e
      rw [if_pos rfl] at hg; cases hg
      exact ⟨p, x, by simp [plus], by simp [upd, hp], ho h0b⟩
    · rw [if_neg e] at hg
      obtain ⟨q, y, g1, g2, g3⟩ := hh.obj b1 o1 hg
      have hne : q.r ≠ b := by intro e; rw [e, hb] at g2; cases g2
      exact ⟨q, y, hl _ _ g1, by simp [upd, hne, g2], g3.mono hl⟩
  · intro b1 b2 o1 o2 p1 p2 g1 g2 hne q1 q2
    simp only [addB, T.get_set] at g1 g2
    simp only [plus] at q1 q2
    by_cases e1 : b1 = H.nx
    · subst e1
      have e2 : ¬ b2 = H.nx := fun e => hne e.symm
      rw [if_neg e2] at g2 q2
      rw [if_pos rfl] at q1; cases q1
      obtain ⟨q, y, k1, k2, k3⟩ := hh.obj b2 o2 g2
      rw [q2] at k1; cases k1
      intro e; rw [← e, hp, hb] at k2; cases k2
    · rw [if_neg e1] at g1 q1
      by_cases e2 : b2 = H.nx
      · subst e2
        rw [if_pos rfl] at q2; cases q2
        obtain ⟨q, y, k1, k2, k3⟩ := hh.obj b1 o1 g1
        rw [q1] at k1; cases k1
        intro e; rw [e, hp, hb] at k2; cases k2
      · rw [if_neg e2] at g2 q2
        exact hh.inj b1 b2 o1 o2 p1 p2 g1 g2 hne q1 q2
  · intro b1 hb1
    simp only [addB] at hb1
    simp only [plus]
    rw [if_neg (by omega)]
    exact hh.fresh _ (by omega)
  · intro b1 y hy
    have := hh.keep b1 y hy
    have hne : b1 ≠ b := by rintro rfl; rw [hb] at this; cases this
    simp [upd, hne, this]
  · intro g hg
    obtain ⟨q, g1, g2⟩ := hh.glob g hg
    exact ⟨q, hl _ _ g1, g2⟩
def rowB (e : TypeId) (l : List CV) : CO := .row true false false e l
theorem OR_new {e : TypeId} {l : List CV} {vs : List Value} (hv : VRs σ l vs) {b : Nat} (hb : h0 b = none) : OR P h0 σ ⟨b, 0, l.length, P.cellsOf e⟩ (rowB e l) (.cells ⟨vs⟩ e) := by
  unfold rowB OR
  exact ⟨vs, 0, 0, rfl, by simp [hv.len], Nat.le_refl _, fun _ => rfl, fun i c hc => by simpa using hv.get hc, .inr rfl, fun _ => rfl, fun _ => hb, rfl⟩
theorem VRs.mono' (hs : Le σ σ') {l : List CV} {vs : List Value} (h : VRs σ l vs) : VRs σ' l vs := VRs.mono hs l vs h
theorem newRow_ok (hh : HR P G h0 σ H h) {e : TypeId} {l : List CV} {vs : List Value} (hv : VRs σ l vs) {K : Addr → Hp → Prop}
    (hK : ∀ σ' a h', Le σ σ' → VR σ' (.ptr H.nx 0) (.pointer (some a)) → (∀ n c, VR σ' (.slc H.nx 0 n (some c)) (.slice (some a) n c)) → HR P G h0 σ' (addB H (rowB e l)) h' → K a h') :
    ∀ b, h b = none → K ⟨b, 0, none⟩ (upd h b (.cells ⟨vs⟩ e)) := by
  intro b hb
  obtain ⟨hl, hn⟩ := hh.add (o := rowB e l) (x := .cells ⟨vs⟩ e) (p := ⟨b, 0, l.length, P.cellsOf e⟩) hb rfl fun h0b => OR_new (hv.mono' (plus_le (hh.fresh _ (Nat.le_refl _)))) h0b
  exact hK _ _ _ hl (by unfold VR; exact ⟨_, by simp [plus]; rfl, rfl⟩) (fun n c => by unfold VR; exact ⟨_, by simp [plus]; rfl, rfl⟩) hn
theorem upd_upd {b : Nat} {x y : Obj} : upd (upd h b x) b y = upd h b y := by
  funext c; simp only [upd]; split <;> rfl
theorem upd_same {b : Nat} {x : Obj} (hx : h b = some x) : upd h b x = h := by
  funext c; simp only [upd]; split
  · rename_i e; subst e; exact hx.symm
  · rfl
theorem wrL_row {r off : Nat} {e : TypeId} {lo hi : Nat} {F : Hp → Prop} : ∀ (l : List Value) (i : Nat) (h : Hp) (vs : List Value), h r = some (.cells ⟨vs⟩ e (lo, hi)) → off + i + l.length ≤ vs.length →
    (∀ v ∈ l, plain v = true) → (vs.length ≤ lo ∨ hi ≤ lo) → F (upd h r (.cells ⟨vs.take (off + i) ++ (l ++ vs.drop (off + i + l.length))⟩ e (lo, hi))) → wrL ⟨r, off, none⟩ i l h F := by
  intro l
  induction l with
  | nil =>
    intro i h vs hr hle _ _ hF
    unfold wrL
    have : vs.take (off + i) ++ ([] ++ vs.drop (off + i + ([] : List Value).length)) = vs := by simp
    rw [this, upd_same hr] at hF; exact hF
  | cons v l ih =>
    intro i h vs hr hle hp hz hF
    simp only [List.length_cons] at hle
    unfold wrL st
    rw [hp v (List.mem_cons_self ..)]
    have hadd : (⟨r, off, none⟩ : Addr).add i = ⟨r, off + i, none⟩ := by
      unfold Addr.add; by_cases e : i = 0
      · subst e; simp
      · simp [e]
    rw [hadd]
    have hc : cell h ⟨r, off + i, none⟩ = vs[off + i]? := by unfold cell; simp only [hr]; simp
    have hf : frz h ⟨r, off + i, none⟩ = false := by unfold frz; simp only [hr]; simp; omega
    refine ⟨⟨by rw [hc, List.getElem?_eq_getElem (by omega)]; rfl, hf⟩, ?_⟩
    have hs : setc h ⟨r, off + i, none⟩ v = upd h r (.cells ⟨vs.set (off + i) v⟩ e (lo, hi)) := by
      unfold setc; simp only [hr]; simp
    rw [hs]
    refine ih (i + 1) _ (vs.set (off + i) v) (by simp [upd]) (by simp; omega) (fun w hw => hp w (List.mem_cons_of_mem _ hw)) (by simpa using hz) ?_
    rw [upd_upd]
    have e1 : (vs.set (off + i) v).take (off + (i + 1)) = vs.take (off + i) ++ [v] := by
      apply List.ext_getElem?
      intro j
      rw [List.getElem?_take]
      by_cases hj : j < off + (i + 1)
      · rw [if_pos hj, List.getElem?_set]
        by_cases hj2 : j < off + i
        · rw [if_neg (by omega), List.getElem?_append_left (by simp; omega), List.getElem?_take, if_pos hj2]
        · have : j = off + i := by omega
          subst this
          rw [if_pos rfl, if_pos (by omega), List.getElem?_append_right (by simp; omega)]
          simp; rw [Nat.min_eq_left (by omega)]; simp
      · rw [if_neg hj, List.getElem?_eq_none]
        simp; omega
    have e2 : (vs.set (off + i) v).drop (off + (i + 1) + l.length) = vs.drop (off + i + (v :: l).length) := by
      apply List.ext_getElem?
      intro j
      rw [List.getElem?_drop, List.getElem?_drop, List.getElem?_set, if_neg (by omega)]
      congr 1; simp; omega
    rw [e1, e2, List.append_assoc, List.singleton_append, ← List.cons_append]
    exact hF
def plX1 : CV → Bool
  | .agg _ => false
  | .tup _ => false
  | _ => true
def plXs : List CV → Bool
  | [] => true
  | x :: l => plX1 x && plXs l
theorem plX1_ok {x : CV} {v : Value} (hx : plX1 x = true) (hr : VR σ x v) : plain v = true := by
  cases x <;> first | (simp [plX1] at hx; done) | skip
  case slc b o n c => obtain ⟨p, c', _, rfl⟩ := slc_ok hr; rfl
  all_goals
    unfold VR at hr
    first
      | (subst hr; rfl)
      | (obtain ⟨_, rfl, _⟩ := hr; rfl)
      | (obtain ⟨_, _, rfl⟩ := hr; rfl)
      | (obtain ⟨_, _, rfl, _⟩ := hr; rfl)
      | (obtain ⟨_, _, _, rfl, _⟩ := hr; rfl)
theorem plXs_ok : ∀ {l : List CV} {vs : List Value}, plXs l = true → VRs σ l vs → ∀ v ∈ vs, plain v = true := by
  intro l
  induction l with
  | nil => intro vs _ hr v hv; unfold VRs at hr; subst hr; cases hv
  | cons x l ih =>
    intro vs hp hr v hv
    simp only [plXs, Bool.and_eq_true] at hp
    unfold VRs at hr; obtain ⟨w, r, rfl, h1, h2⟩ := hr
    cases hv with
    | head => exact plX1_ok hp.1 h1
    | tail _ hm => exact ih hp.2 h2 v hm
theorem HR.chg (hh : HR P G h0 σ H h) {b : Nat} {o o' : CO} (hg : H.t.get b = some o) {p : Pl} (hp : σ b = some p) {x : Obj} (h0r : h0 p.r = none) (ho : OR P h0 σ p o' x) :
    HR P G h0 σ ⟨H.t.set b (some o'), H.nx⟩ (upd h p.r x) := by
  refine ⟨?_, ?_, hh.fresh, ?_, hh.glob⟩
  · intro b1 o1 hg1
    rw [T.get_set] at hg1
    by_cases e : b1 = b
    · subst e
      rw [if_pos rfl] at hg1; cases hg1
      exact ⟨p, x, hp, by simp [upd], ho⟩
    · rw [if_neg e] at hg1
      obtain ⟨q, y, g1, g2, g3⟩ := hh.obj b1 o1 hg1
      have hne : q.r ≠ p.r := hh.inj b1 b o1 o q p hg1 hg e g1 hp
      exact ⟨q, y, g1, by simp [upd, hne, g2], g3⟩
  · intro b1 b2 o1 o2 p1 p2 g1 g2 hne q1 q2
    rw [T.get_set] at g1 g2
    have has : ∀ (c : Nat) (oc : CO), (if c = b then some o' else H.t.get c) = some oc → ∃ oc', H.t.get c = some oc' := by
      intro c oc hc
      by_cases e : c = b
      · subst e; exact ⟨o, hg⟩
      · rw [if_neg e] at hc; exact ⟨oc, hc⟩
    obtain ⟨o1', g1'⟩ := has _ _ g1
    obtain ⟨o2', g2'⟩ := has _ _ g2
    exact hh.inj b1 b2 o1' o2' p1 p2 g1' g2' hne q1 q2
  · intro b1 y hy
    have hne : b1 ≠ p.r := by rintro rfl; rw [h0r] at hy; cases hy
    simp [upd, hne, hh.keep b1 y hy]
def wrX (H : CH) (b o : Nat) (l : List CV) : Option CH :=
  match H.t.get b with
  | some (.row true opn mk e cs) => bif Nat.ble (o + l.length) cs.length && plXs l then some ⟨H.t.set b (some (.row true opn mk e (cs.take o ++ (l ++ cs.drop (o + l.length))))), H.nx⟩ else none
  | _ => none
theorem wr_cells {cs l : List CV} {vs ws : List Value} {d o : Nat} (hle : o + l.length ≤ cs.length) (hd : d + cs.length ≤ vs.length) (hws : VRs σ l ws) (hc : ∀ (i : Nat) (c : CV), cs[i]? = some c → ∃ v, vs[d + i]? = some v ∧ VR σ c v) :
    ∀ (i : Nat) (c : CV), (cs.take o ++ (l ++ cs.drop (o + l.length)))[i]? = some c → ∃ v, (vs.take (d + o) ++ (ws ++ vs.drop (d + o + ws.length)))[d + i]? = some v ∧ VR σ c v := by
  intro i c hi
  have hwl := hws.len
  have t1 : (List.take o cs).length = o := by simp; omega
  have t2 : (List.take (d + o) vs).length = d + o := by simp; omega
  by_cases g1 : i < o
  · rw [List.getElem?_append_left (by omega), List.getElem?_take, if_pos g1] at hi
    rw [List.getElem?_append_left (by omega), List.getElem?_take, if_pos (by omega)]
    exact hc i c hi
  · rw [List.getElem?_append_right (by omega), t1] at hi
    rw [List.getElem?_append_right (by omega), t2]
    by_cases g2 : i < o + l.length
    · rw [List.getElem?_append_left (by omega)] at hi
      rw [List.getElem?_append_left (by omega)]
      have := hws.get hi
      have e : d + i - (d + o) = i - o := by omega
      rw [e]; exact this
    · rw [List.getElem?_append_right (by omega), List.getElem?_drop] at hi
      rw [List.getElem?_append_right (by omega), List.getElem?_drop]
      have e1 : o + l.length + (i - o - l.length) = i := by omega
      have e2 : d + o + ws.length + (d + i - (d + o) - ws.length) = d + i := by omega
      rw [e1] at hi; rw [e2]
      exact hc i c hi
theorem wrX_ok (hh : HR P G h0 σ H h) {b o : Nat} {l : List CV} {H' : CH} (hx : wrX H b o l = some H') {p : Pl} (hp : σ b = some p) {ws : List Value} (hw : VRs σ l ws) {F : Hp → Prop}
    (hF : ∀ h', HR P G h0 σ H' h' → F h') : wrL (p.at o) 0 ws h F := by
  unfold wrX at hx
  split at hx
  · rename_i opn mk e cs hg
    obtain ⟨hb, rfl⟩ := condN hx
    simp only [Bool.and_eq_true] at hb
    have hle := Nat.le_of_ble_eq_true hb.1
    obtain ⟨q, x, h1, h2, h3⟩ := hh.obj b _ hg
    rw [hp] at h1; cases h1
    unfold OR at h3
    obtain ⟨vs, lo, hi, rfl, k1, k2, k3, k4, k5, k6, k7, k8⟩ := h3
    have hwl := hw.len
    refine wrL_row (r := p.r) (off := p.d + o) ws 0 h vs h2 (by omega) (plXs_ok hb.2 hw) (k5.imp id Nat.le_of_eq) ?_
    rw [Nat.add_zero]
    refine hF _ (hh.chg hg hp (k7 rfl) ?_)
    unfold OR
    refine ⟨_, lo, hi, rfl, ?_, ?_, ?_, ?_, ?_, k6, k7, k8⟩
    · simp; omega
    · simp; omega
    · intro ho; have := k3 ho; simp; omega
    · exact wr_cells hle (by omega) hw k4
    · simp; omega
  · cases hx
end
end Go.Ix

/-
  The operations that change memory.
-/
set_option linter.unusedSimpArgs false
set_option linter.unusedVariables false
namespace Go.Ix
open Go Go.Hw
section
variable {P : Program} {E : Nat → Bool} {G : Nat} {h0 : Hp} {σ σ' : Sig} {H : CH} {h : Hp} {env : CE} {ρ : Env}
theorem VR_undef : VR σ (.tup []) undef := by unfold VR; exact ⟨[], rfl, by unfold VRs; rfl⟩
def stX (P : Program) (H : CH) (t : TypeId) (a x : CV) : Option CH :=
  match a with
  | .ptr b o => bif (P.info? t).isSome && Nat.beq (cellsX x).length (P.cellsOf t) then wrX H b o (cellsX x) else none
  | _ => none
theorem stX_ok (hh : HR P G h0 σ H h) {t : TypeId} {a x : CV} {H' : CH} {va vx : Value} (hx : stX P H t a x = some H') (ha : VR σ a va) (hv : VR σ x vx) {F : Hp → Prop} (hF : ∀ h', HR P G h0 σ H' h' → F h') : stK P t va vx h F := by
  unfold stX at hx
  split at hx
  · rename_i b o
    cases hb : (P.info? t).isSome && Nat.beq (cellsX x).length (P.cellsOf t) with
    | false => rw [hb] at hx; cases hx
    | true =>
      rw [hb] at hx
      unfold VR at ha; obtain ⟨p, hp, rfl⟩ := ha
      have hc := cellsX_ok hv
      unfold stK; simp only [nn]
      rw [hc.len, hb]
      exact wrX_ok hh (show wrX H b o (cellsX x) = some H' from hx) hp hc hF
  · cases hx
def repX (l : List CV) : Nat → List CV
  | 0 => []
  | n + 1 => l ++ repX l n
theorem repX_len (l : List CV) : ∀ n, (repX l n).length = n * l.length := by
  intro n
  induction n with
  | zero => simp [repX]
  | succ n ih => simp [repX, ih, Nat.succ_mul]; omega
theorem repX_get (l : List CV) : ∀ (n i : Nat), i < n * l.length → (repX l n)[i]? = l[i % l.length]? := by
  intro n
  induction n with
  | zero => intro i h; simp at h
  | succ n ih =>
    intro i h
    simp only [repX]
    by_cases g : i < l.length
    · rw [List.getElem?_append_left g, Nat.mod_eq_of_lt g]
    · rw [List.getElem?_append_right (by omega), ih _ (by rw [Nat.succ_mul] at h; omega)]
      congr 1
      rw [Nat.mod_eq_sub_mod (a := i) (by omega)]
theorem zeros_ok {e : TypeId} {l : List CV} (hz : VRs σ l (zc P e)) (n : Nat) : VRs σ (repX l n) (zeros P e n).toList := by
  have hl := hz.len
  refine .of (by rw [repX_len]; simp [zeros, Builtin.zeroCells, hl]) fun i x hx => ?_
  have hi : i < n * l.length := by have := (List.getElem?_eq_some_iff.1 hx).1; rw [repX_len] at this; exact this
  rw [repX_get _ _ _ hi] at hx
  obtain ⟨v, h1, h2⟩ := hz.get hx
  refine ⟨v, ?_, h2⟩
  have hpos : 0 < l.length := by
    rcases Nat.eq_zero_or_pos l.length with e | e
    · rw [e] at hi; simp at hi
    · exact e
  have hm : i % l.length < (zc P e).length := by rw [hl]; exact Nat.mod_lt _ hpos
  unfold zeros Builtin.zeroCells
  rw [Array.getElem?_toList, Array.getElem?_map, Array.getElem?_range]
  rw [if_pos (by simp [hl]; exact hi)]
  have e1 : ((⟨zc P e⟩ : Array Value)[i % l.length]!) = v := by
    rw [List.getElem?_eq_getElem hm] at h1
    simp only [Option.some.injEq] at h1
    rw [getElem!_pos _ _ (by simpa using hm)]
    exact h1
  show some ((⟨zc P e⟩ : Array Value)[i % (zc P e).length]!) = some v
  rw [hl, e1]
def allocX (P : Program) (H : CH) (e : TypeId) : Option (CV × CH) :=
  match zX P e with
  | some l => some (.ptr H.nx 0, addB H (rowB e l))
  | none => none
theorem alloc_ok (hh : HR P G h0 σ H h) {e : TypeId} {y : CV} {H' : CH} (hx : allocX P H e = some (y, H')) {K : Value → Hp → Prop} (hK : ∀ σ' v h', Le σ σ' → VR σ' y v → HR P G h0 σ' H' h' → K v h') : swp P (Instr.alloc e true (.tuple #[])) h K := by
  unfold allocX at hx
  split at hx
  · rename_i l hl
    cases hx
    obtain ⟨z1, z2, z3⟩ := zX_ok (σ := σ) hl
    unfold Instr.alloc
    rw [swp_bind']
    refine zeroValue_swp z2 ?_
    intro v hv
    simp only []
    rw [swp_bind']
    unfold newVar
    rw [hv, newRow_swp]
    exact newRow_ok (K := fun a h' => K (.pointer (some a)) h') hh z1 fun σ' a h' hl h1 h2 h3 => hK σ' _ h' hl h1 h3
  · cases hx
def boxX (H : CH) (e : TypeId) (x : CV) : CV × CH := (.ptr H.nx 0, addB H (rowB e (cellsX x)))
theorem box_ok (hh : HR P G h0 σ H h) {e : TypeId} {x : CV} {v : Value} (hv : VR σ x v) {K : Value → Hp → Prop} (hK : ∀ σ' v h', Le σ σ' → VR σ' (boxX H e x).1 v → HR P G h0 σ' (boxX H e x).2 h' → K v h') : swp P (Instr.box e v) h K := by
  unfold Instr.box
  rw [swp_bind']
  unfold newVar
  have e1 : v.cells = ⟨vcells v⟩ := by apply Array.ext'; rw [vcells_eq]
  rw [e1, newRow_swp]
  exact newRow_ok (K := fun a h' => K (.pointer (some a)) h') hh (cellsX_ok hv) fun σ' a h' hl h1 h2 h3 => hK σ' _ h' hl h1 h3
def bsX (P : Program) (H : CH) (t : TypeId) (len : Nat) (ps : List (Nat × CV)) : Option (CV × CH) :=
  match P.underlying t with
  | some (.slice e) => match zX P e with
    | some z => bif Nat.beq len 0 then (match ps with
        | [] => some (.slc H.nx 0 0 (some 0), addB H (rowB e []))
        | _ => none) else
      bif Nat.blt 0 (len * P.cellsOf e) && Nat.ble (len * P.cellsOf e) 16777216 && Nat.beq z.length (P.cellsOf e) then
        (match fillX (fun i => some (i * P.cellsOf e, P.cellsOf e)) (repX z len) ps with
        | some l => some (.slc H.nx 0 len (some len), addB H (rowB e l))
        | none => none) else none
    | none => none
  | _ => none
theorem bsX_ok (hh : HR P G h0 σ H h) {t : TypeId} {len : Nat} {ps : List (Nat × CV)} {qs : List (Nat × Value)} {y : CV} {H' : CH} (hx : bsX P H t len ps = some (y, H')) (hp : psR σ ps qs)
    {K : Value → Hp → Prop} (hK : ∀ σ' v h', Le σ σ' → VR σ' y v → HR P G h0 σ' H' h' → K v h') : swp P (Instr.buildSlice t len ⟨qs⟩) h K := by
  unfold bsX at hx
  split at hx
  · rename_i e hu
    split at hx
    · rename_i z hz
      cases hl0 : Nat.beq len 0 with
      | true =>
        rw [hl0] at hx
        have := Nat.eq_of_beq_eq_true hl0; subst this
        simp only [cond_true] at hx
        split at hx
        · cases hx
          unfold psR at hp; subst hp
          obtain ⟨z1, z2, z3⟩ := zX_ok (σ := σ) hz
          unfold Instr.buildSlice
          rw [swp_bind']
          refine underlying_swp hu ?_
          simp only [swp_bind']
          refine sizeOf_swp z3 ?_
          rw [if_neg (by omega)]
          rw [if_pos (by omega), swp_bind', swp_pure]


          have e1 : (Array.range (0 * P.cellsOf e)).map (fun i => (#[] : Array Value)[i % (#[] : Array Value).size]!) = #[] := by rw [Nat.zero_mul]; simp
          rw [e1]
          change swp P (newRow e #[] >>= fun a => pure (Value.slice (some a) 0 0)) h K
          rw [swp_bind', newRow_swp]
          exact newRow_ok (l := []) (vs := []) (K := fun a h' => K (.slice (some a) 0 0) h') hh (by unfold VRs; rfl) fun σ' a h' hl h1 h2 h3 => hK σ' _ h' hl (h2 _ _) h3
        · cases hx
      | false =>
      rw [hl0] at hx
      simp only [cond_false] at hx
      cases hb : Nat.blt 0 (len * P.cellsOf e) && Nat.ble (len * P.cellsOf e) 16777216 && Nat.beq z.length (P.cellsOf e) with
      | false => rw [hb] at hx; cases hx
      | true =>
        rw [hb] at hx
        simp only [cond_true] at hx
        simp only [Bool.and_eq_true] at hb
        have b1 : 0 < len * P.cellsOf e := by simpa [Nat.blt_eq] using hb.1.1
        have b2 := Nat.le_of_ble_eq_true hb.1.2
        have b3 := Nat.eq_of_beq_eq_true hb.2
        split at hx
        · rename_i l hl
          cases hx
          obtain ⟨z1, z2, z3⟩ := zX_ok (σ := σ) hz
          have hzl := z1.len
          obtain ⟨out, o1, o2⟩ := fillX_ok hl hp (zeros_ok z1 len)
          unfold Instr.buildSlice
          rw [swp_bind']
          refine underlying_swp hu ?_
          simp only [swp_bind']
          refine sizeOf_swp z3 ?_
          rw [if_neg (by omega)]
          rw [if_neg (by omega)]
          simp only [swp_bind']
          refine zeroValue_swp z2 ?_
          intro v hv
          rw [swp_pure, hv]
          have e1 : (Array.range (len * P.cellsOf e)).map (fun i => (⟨zc P e⟩ : Array Value)[i % (⟨zc P e⟩ : Array Value).size]!) = zeros P e len := by
            unfold zeros Builtin.zeroCells
            simp only [List.size_toArray, hzl, b3]
          rw [e1, o1]
          change swp P (newRow e out >>= fun a => pure (Value.slice (some a) len len)) h K
          rw [swp_bind', newRow_swp]
          exact newRow_ok (vs := out.toList) (K := fun a h' => K (.slice (some a) len len) h') hh o2 fun σ' a h' hl h1 h2 h3 => hK σ' _ h' hl (h2 _ _) h3
        · cases hx
    · cases hx
  · cases hx
def mkX (P : Program) (H : CH) (t : TypeId) (l c : CV) : Option (CV × CH) :=
  match P.underlying t with
  | some (.slice e) => match l, c with
    | .int _ l, .int _ c => match zX P e with
      | some z => bif Nat.beq (P.cellsOf e) z.length && (decide (0 ≤ l) && decide (l ≤ c) && decide (P.bytesOf e * c ≤ 2 ^ 48) && decide (c ≤ 9223372036854775807)) then
          some (.slc H.nx 0 l.toNat (some c.toNat), addB H (rowB e (repX z c.toNat))) else none
      | none => none
    | _, _ => none
  | _ => none
theorem mkX_ok (hh : HR P G h0 σ H h) {t : TypeId} {l c : CV} {vl vc : Value} {y : CV} {H' : CH} (hx : mkX P H t l c = some (y, H')) (hl : VR σ l vl) (hc : VR σ c vc) {K : Value → Hp → Prop} (hK : ∀ σ' v h', Le σ σ' → VR σ' y v → HR P G h0 σ' H' h' → K v h') :
    elT P t fun e => bif zOk P e && (P.info? e).isSome && Nat.beq (P.cellsOf e) (zc P e).length then
        match (generalizing := false) vl, vc with
        | .int _ l, .int _ c => mkK P e l c h fun r h' => K (.slice r.p r.n r.c) h'
        | _, _ => False
      else False := by
  unfold mkX at hx
  split at hx
  · rename_i e hu
    split at hx
    · rename_i k l k' c
      split at hx
      · rename_i z hz
        obtain ⟨hb, hxx⟩ := condN hx
        cases hxx
        rw [Bool.and_eq_true] at hb
        obtain ⟨z1, z2, z3⟩ := zX_ok (σ := σ) hz
        unfold VR at hl hc; subst hl; subst hc
        unfold elT; rw [hu]; simp only []
        rw [z2, z3, z1.len, hb.1]
        simp only [Bool.true_and, cond_true]
        unfold mkK
        rw [hb.2]
        simp only [cond_true]
        have := newRow_ok (vs := (zeros P e c.toNat).toList) (K := fun a h' => K (.slice (some a) l.toNat c.toNat) h') hh (zeros_ok z1 c.toNat) fun σ' a h' hl h1 h2 h3 => hK σ' _ h' hl (h2 _ _) h3
        exact this
      · cases hx
    · cases hx
  · cases hx
def bCV (l : List Nat) : List CV := l.map fun b : Nat => CV.int .u8 (Int.ofNat b)
def s2bX (P : Program) (H : CH) (s d : TypeId) (x : CV) : Option (CV × CH) :=
  match P.underlying d with
  | some (.slice e) => match x with
    | .slc b o n c => match P.underlying e with
      | some (.int .u8) => bif Nat.beq s d then (match H.t.get b with
        | some (.row true opn _ e' cs) => some (.slc b o n c, ⟨H.t.set b (some (.row true opn true e' cs)), H.nx⟩)
        | _ => none) else none
      | _ => none
    | .str l => match P.underlying e with
      | some (.int .u8) => bif (P.underlying s).isSome && Nat.beq (P.cellsOf e) 1 then some (.slc H.nx 0 l.length none, addB H (.row true true true e (bCV l))) else none
      | _ => none
    | _ => none
  | _ => none
theorem bcells_ok (s : ByteArray) : VRs σ (bCV (bl s)) (bcells s) := by
  unfold bl bcells bCV
  generalize s.data.toList = l
  induction l with
  | nil => unfold VRs; rfl
  | cons b l ih => simp only [List.map_cons]; unfold VRs; exact ⟨_, _, rfl, by unfold VR; rfl, ih⟩
theorem s2bX_ok (hh : HR P G h0 σ H h) {s d : TypeId} {x : CV} {v : Value} {y : CV} {H' : CH} (hx : s2bX P H s d x = some (y, H')) (hv : VR σ x v) {K : Value → Hp → Prop} (hK : ∀ σ' v h', Le σ σ' → VR σ' y v → HR P G h0 σ' H' h' → K v h') : cvK P s d v h K := by
  unfold s2bX at hx
  split at hx
  · rename_i e hu
    split at hx
    · rename_i b o n c
      split at hx
      · rename_i he
        cases hb : Nat.beq s d with
        | false => rw [hb] at hx; cases hx
        | true =>
          rw [hb] at hx
          simp only [cond_true] at hx
          split at hx
          · rename_i opn mk e' cs hg
            cases hx
            have hv' := hv
            obtain ⟨p, c', hp, rfl⟩ := slc_ok hv
            obtain ⟨q, x, h1, h2, h3⟩ := hh.obj b _ hg
            rw [hp] at h1; cases h1
            unfold OR at h3
            obtain ⟨vs, lo, hi, rfl, k1, k2, k3, k4, k5, k6, k7, k8⟩ := h3
            unfold cvK; rw [hu]; simp only [nn]; rw [he]; simp only []; rw [hb]
            simp only [cond_true]
            unfold mkSh
            have hs : shp h (p.at o).block = some (e', vs.length) := by unfold shp; rw [at_blk, h2]; rfl
            rw [hs]; simp only []
            have hf : frzn h ⟨(p.at o).block, vs.length, none⟩ 1 = upd h p.r (.cells ⟨vs⟩ e' (if lo == hi then (vs.length, vs.length + 1) else (min lo vs.length, max hi (vs.length + 1)))) := by
              unfold frzn
              simp only [at_blk, h2]; rfl
            rw [hf]
            refine hK σ _ _ (Le.refl σ) hv' (hh.chg hg hp (k7 rfl) ?_)
            unfold OR
            by_cases e1 : lo = hi
            · subst e1
              exact ⟨vs, vs.length, vs.length + 1, by simp, k1, k2, k3, k4, .inl (Nat.le_refl _), (fun e => by cases e), k7, k8⟩
            · refine ⟨vs, min lo vs.length, max hi (vs.length + 1), by simp [e1], k1, k2, k3, k4, .inl ?_, (fun e => by cases e), k7, k8⟩
              rcases k5 with k5 | k5
              · rw [Nat.min_eq_right k5]; exact Nat.le_refl _
              · exact absurd k5.symm e1
          · cases hx
      · cases hx
    · rename_i l
      split at hx
      · rename_i he
        obtain ⟨hb, hxx⟩ := condN hx
        cases hxx
        simp only [Bool.and_eq_true] at hb
        have h1c := Nat.eq_of_beq_eq_true hb.2
        unfold VR at hv; obtain ⟨t, rfl, rfl⟩ := hv
        unfold cvK; rw [hu]; simp only []; rw [he]; simp only []; rw [hb.1]
        simp only [cond_true]
        unfold s2b
        intro c b hc hb0
        have hlen : (bcells t).length = t.size := by simp [bcells]
        obtain ⟨hl, hn⟩ := hh.add (o := .row true true true e (bCV (bl t))) (x := .cells ⟨bcells t ++ List.replicate (c - t.size) (.int .u8 0)⟩ e (c, c + 1)) (p := ⟨b, 0, c, P.cellsOf e⟩) hb0 rfl fun h0b => by
          unfold OR
          refine ⟨_, c, c + 1, rfl, by simp [hlen]; omega, by simp [bCV, bl_len]; omega, (fun e => by cases e), (fun i x hi => ?_), Or.inl (by simp [hlen]; omega), (fun e => by cases e), (fun _ => h0b), rfl⟩
          obtain ⟨w, hw, hr⟩ := (bcells_ok (σ := plus σ H.nx ⟨b, 0, c, P.cellsOf e⟩) t).get hi
          refine ⟨w, ?_, hr⟩
          show (bcells t ++ List.replicate (c - t.size) (.int .u8 0))[0 + i]? = some w
          rw [Nat.zero_add, List.getElem?_append_left (by have := (List.getElem?_eq_some_iff.1 hw).1; omega)]
          exact hw
        refine hK _ _ _ hl ?_ hn
        unfold VR
        exact ⟨_, c, by simp [plus]; rfl, by rw [bl_len]; rfl, by simp [h1c], by simp [h1c], by rw [bl_len]; exact hc⟩
      · cases hx
    · cases hx
  · cases hx
end
end Go.Ix

/-
  append, copy; maps that are written; a string that is walked; then all effects in one.
-/
set_option linter.unusedSimpArgs false
set_option linter.unusedVariables false
namespace Go.Ix
open Go Go.Hw
section
variable {P : Program} {E : Nat → Bool} {G : Nat} {h0 : Hp} {σ σ' : Sig} {H : CH} {h : Hp} {env : CE} {ρ : Env}
def lnX : CV → Option Nat
  | .snil => some 0
  | .slc _ _ n _ => some n
  | .slz _ _ _ => some 0
  | .str l => some l.length
  | _ => none
def srX (H : CH) (sz k : Nat) : CV → Option (List CV)
  | .snil => some []
  | .slz _ _ _ => bif Nat.beq k 0 then some [] else none
  | .slc b o _ _ => rdC H b o (k * sz)
  | .str l => some ((bCV l).take k)
  | _ => none
theorem lnX_ok {y : CV} {v : Value} {n : Nat} (hx : lnX y = some n) (hv : VR σ y v) {F : Nat → Prop} (hF : F n) : lnK v F := by
  cases y <;> simp [lnX] at hx
  · subst hx; unfold VR at hv; obtain ⟨s, rfl, rfl⟩ := hv; rw [bl_len] at hF; exact hF
  · subst hx; unfold VR at hv; subst hv; exact hF
  · subst hx; obtain ⟨p, c, _, rfl⟩ := slc_ok hv; exact hF
  · subst hx; unfold VR at hv; obtain ⟨p, c, _, rfl, _⟩ := hv; exact hF
theorem srX_ok (hh : HR P G h0 σ H h) {sz k : Nat} {y : CV} {v : Value} {l : List CV} (hx : srX H sz k y = some l) (hv : VR σ y v) : ∃ ws, VRs σ l ws ∧ ∀ F : List Value → Prop, F ws → srcK h sz k v F := by
  cases y <;> simp [srX] at hx
  · subst hx; unfold VR at hv; obtain ⟨s, rfl, rfl⟩ := hv
    exact ⟨_, (bcells_ok s).take k, fun F hF => hF⟩
  · subst hx; unfold VR at hv; subst hv; exact ⟨[], by unfold VRs; rfl, fun F hF => hF⟩
  · obtain ⟨p, c, hp, rfl⟩ := slc_ok hv
    obtain ⟨ws, h1, h2, h3⟩ := rdC_rdN hh hx hp
    exact ⟨ws, h1, fun F hF => by unfold srcK; simp only []; rw [h3]; exact hF⟩
  · obtain ⟨hk, rfl⟩ := condN hx
    have := Nat.eq_of_beq_eq_true hk; subst this
    unfold VR at hv; obtain ⟨p, c, _, rfl, _⟩ := hv
    exact ⟨[], by unfold VRs; rfl, fun F hF => by unfold srcK; simp only []; rw [Nat.zero_mul]; exact hF⟩
theorem HR.del (hh : HR P G h0 σ H h) (b : Nat) : HR P G h0 σ ⟨H.t.set b none, H.nx⟩ h := by
  refine ⟨?_, ?_, hh.fresh, hh.keep, hh.glob⟩
  · intro b1 o1 hg
    rw [T.get_set] at hg
    split at hg
    · cases hg
    · exact hh.obj b1 o1 hg
  · intro b1 b2 o1 o2 p1 p2 g1 g2
    rw [T.get_set] at g1 g2
    split at g1
    · cases g1
    · split at g2
      · cases g2
      · exact hh.inj b1 b2 o1 o2 p1 p2 g1 g2
def movB (H : CH) (b : Nat) (o : CO) : CH := ⟨(H.t.set b none).set H.nx (some o), H.nx + 1⟩
theorem HR.move (hh : HR P G h0 σ H h) {b : Nat} {o o' : CO} (hg : H.t.get b = some o) {p p' : Pl} (hp : σ b = some p) (hr : p'.r = p.r) (h0r : h0 p.r = none) {x : Obj} (ho : OR P h0 (plus σ H.nx p') p' o' x) :
    Le σ (plus σ H.nx p') ∧ HR P G h0 (plus σ H.nx p') (movB H b o') (upd h p.r x) := by
  have hl : Le σ (plus σ H.nx p') := plus_le (hh.fresh _ (Nat.le_refl _))
  have hne : b ≠ H.nx := by rintro rfl; rw [hh.fresh _ (Nat.le_refl _)] at hp; cases hp
  have has : ∀ (c : Nat) (oc : CO), c ≠ H.nx → (movB H b o').t.get c = some oc → c ≠ b ∧ H.t.get c = some oc := by
    intro c oc hc hgc
    simp only [movB, T.get_set] at hgc
    rw [if_neg hc] at hgc
    by_cases e : c = b
    · rw [if_pos e] at hgc; cases hgc
    · rw [if_neg e] at hgc; exact ⟨e, hgc⟩
  refine ⟨hl, ?_, ?_, ?_, ?_, ?_⟩
  · intro b1 o1 hg1
    by_cases e : b1 = H.nx
    · subst e
      simp only [movB, T.get_set, if_true] at hg1; cases hg1
      exact ⟨p', x, by simp [plus], by simp [upd, hr], ho⟩
    · obtain ⟨g1, g2⟩ := has _ _ e hg1
      obtain ⟨q, y, k1, k2, k3⟩ := hh.obj b1 o1 g2
      have hrr : q.r ≠ p.r := hh.inj b1 b o1 o q p g2 hg g1 k1 hp
      exact ⟨q, y, hl _ _ k1, by simp [upd, hrr, k2], k3.mono hl⟩
  · intro b1 b2 o1 o2 p1 p2 g1 g2 hn q1 q2
    by_cases e1 : b1 = H.nx
    · subst e1
      have e2 : ¬ b2 = H.nx := fun e => hn e.symm
      obtain ⟨k1, k2⟩ := has _ _ e2 g2
      simp only [plus] at q1 q2
      rw [if_neg e2] at q2
      simp only [if_true] at q1; cases q1
      rw [hr]
      exact hh.inj b b2 o o2 p p2 hg k2 (fun e => k1 e.symm) hp q2
    · obtain ⟨k1, k2⟩ := has _ _ e1 g1
      simp only [plus] at q1 q2
      rw [if_neg e1] at q1
      by_cases e2 : b2 = H.nx
      · subst e2
        rw [if_pos rfl] at q2; cases q2
        rw [hr]
        exact hh.inj b1 b o1 o p1 p k2 hg k1 q1 hp
      · obtain ⟨k3, k4⟩ := has _ _ e2 g2
        rw [if_neg e2] at q2
        exact hh.inj b1 b2 o1 o2 p1 p2 k2 k4 hn q1 q2
  · intro b1 hb1
    simp only [movB] at hb1
    simp only [plus]
    rw [if_neg (by omega)]
    exact hh.fresh _ (by omega)
  · intro b1 y hy
    have hne : b1 ≠ p.r := by rintro rfl; rw [h0r] at hy; cases hy
    simp [upd, hne, hh.keep b1 y hy]
  · intro g hg
    obtain ⟨q, g1, g2⟩ := hh.glob g hg
    exact ⟨q, hl _ _ g1, g2⟩
def growOk (P : Program) (e n k : Nat) (old l : List CV) : Bool :=
  Nat.blt 0 (P.cellsOf e) && Nat.ble (2 * (n + k) * P.bytesOf e) 281474976710656 && (Nat.beq old.length (n * P.cellsOf e) && Nat.beq l.length (k * P.cellsOf e)) && (match zX P e with
    | some z => Nat.beq z.length (P.cellsOf e)
    | none => false)
theorem growOk_ok {e n k : Nat} {old l : List CV} (hg : growOk P e n k old l = true) : 0 < P.cellsOf e ∧ 2 * (n + k) * P.bytesOf e ≤ 281474976710656 ∧ old.length = n * P.cellsOf e ∧ l.length = k * P.cellsOf e ∧ (zc P e).length = P.cellsOf e := by
  unfold growOk at hg
  simp only [Bool.and_eq_true] at hg
  obtain ⟨⟨⟨g1, g2⟩, g3, g4⟩, g5⟩ := hg
  refine ⟨by simpa [Nat.blt_eq] using g1, Nat.le_of_ble_eq_true g2, Nat.eq_of_beq_eq_true g3, Nat.eq_of_beq_eq_true g4, ?_⟩
  split at g5
  · rename_i z hz
    obtain ⟨z1, _, _⟩ := zX_ok (σ := fun _ => none) hz
    rw [z1.len]; exact Nat.eq_of_beq_eq_true g5
  · cases g5
theorem grow_ok (hh : HR P G h0 σ H h) {e n k : Nat} {old l : List CV} {vo vl : List Value} (hg : growOk P e n k old l = true) (ho : VRs σ old vo) (hl : VRs σ l vl) {mk : Bool} {F : Sl → Hp → Prop}
    (hF : ∀ σ' s h', Le σ σ' → VR σ' (.slc H.nx 0 (n + k) none) s.v → HR P G h0 σ' (addB H (.row true true mk e (old ++ l))) h' → F s h') :
    ∀ c b, n + k ≤ c → h b = none → F ⟨some ⟨b, 0, none⟩, n + k, c⟩ (upd h b (.cells (⟨vo ++ vl⟩ ++ zeros P e (c - (n + k))) e)) := by
  intro c b hc hb
  obtain ⟨g1, g2, g3, g4, g5⟩ := growOk_ok hg
  have hzl : (zeros P e (c - (n + k))).toList.length = (c - (n + k)) * P.cellsOf e := by simp [zeros, Builtin.zeroCells, g5]
  have e1 : (⟨vo ++ vl⟩ ++ zeros P e (c - (n + k)) : Array Value) = ⟨(vo ++ vl) ++ (zeros P e (c - (n + k))).toList⟩ := by apply Array.ext'; simp
  have hol : (old ++ l).length = (n + k) * P.cellsOf e := by rw [List.length_append, g3, g4, Nat.add_mul]
  have hle : (n + k) * P.cellsOf e ≤ c * P.cellsOf e := Nat.mul_le_mul_right _ hc
  rw [e1]
  obtain ⟨hle', hn⟩ := hh.add (o := .row true true mk e (old ++ l)) (x := .cells ⟨(vo ++ vl) ++ (zeros P e (c - (n + k))).toList⟩ e) (p := ⟨b, 0, c * P.cellsOf e, P.cellsOf e⟩) hb rfl fun h0b => by
    unfold OR
    refine ⟨_, 0, 0, rfl, ?_, by rw [hol]; exact hle, (fun e => by cases e), (fun i x hi => ?_), Or.inr rfl, (fun _ => rfl), (fun _ => h0b), rfl⟩
    · rw [List.length_append, List.length_append, hzl, ho.len, hl.len, g3, g4, Nat.sub_mul, Nat.zero_add, ← Nat.add_mul]
      show _ = c * P.cellsOf e
      omega
    · obtain ⟨w, hw, hr⟩ := ((ho.app hl).mono' (plus_le (p := ⟨b, 0, c * P.cellsOf e, P.cellsOf e⟩) (hh.fresh _ (Nat.le_refl _)))).get hi
      refine ⟨w, ?_, hr⟩
      show ((vo ++ vl) ++ (zeros P e (c - (n + k))).toList)[0 + i]? = some w
      rw [Nat.zero_add, List.getElem?_append_left (List.getElem?_eq_some_iff.1 hw).1]
      exact hw
  refine hF _ _ _ hle' ?_ hn
  unfold VR Sl.v
  exact ⟨_, c, by simp [plus]; rfl, rfl, by simp, g1, hc⟩
def growX (P : Program) (H : CH) (e n k : Nat) (old l : List CV) : Option (CV × CH) :=
  bif growOk P e n k old l then some (.slc H.nx 0 (n + k) none, addB H (.row true true false e (old ++ l))) else none
def pastX (P : Program) (H : CH) (e b o n k : Nat) (l : List CV) : Option (CV × CH) :=
  match H.t.get b with
  | some (.row true opn mk e' cs) => bif Nat.beq e e' then
      (bif Nat.ble (o + (n + k) * P.cellsOf e) cs.length then (bif Nat.beq l.length (k * P.cellsOf e) then (match wrX H b (o + n * P.cellsOf e) l with
        | some H' => some (.slc b o (n + k) none, H')
        | none => none) else none)
      else bif Nat.ble (o + n * P.cellsOf e) cs.length && (growOk P e n k ((cs.drop o).take (n * P.cellsOf e)) l && plXs l) then
        some (.slc H.nx 0 (n + k) none, movB H b (.row true true mk e ((cs.drop o).take (n * P.cellsOf e) ++ l)))
      else none) else none
  | _ => none
def apX (P : Program) (H : CH) (e : TypeId) (s y : CV) : Option (CV × CH) :=
  match lnX y with
  | some k => match srX H (P.cellsOf e) k y with
    | some l => match s with
      | .snil => bif Nat.beq k 0 then some (.snil, H) else growX P H e 0 k [] l
      | .slc b o n (some c) =>
        bif Nat.ble (n + k) c then (bif Nat.beq k 0 && Nat.beq l.length 0 then some (.slc b o n (some c), H) else match wrX H b (o + n * P.cellsOf e) l with
          | some H' => some (.slc b o (n + k) (some c), H')
          | none => none)
        else match rdC H b o (n * P.cellsOf e) with
          | some old => growX P H e n k old l
          | none => none
      | .slc b o n none => bif Nat.beq k 0 then (bif Nat.beq l.length 0 then some (.slc b o n none, H) else none) else pastX P H e b o n k l
      | _ => none
    | none => none
  | none => none
theorem cap48 {e n k c : Nat} (hc : c < n + k) (hg : 2 * (n + k) * P.bytesOf e ≤ 281474976710656) : Builtin.nextslicecap (n + k) c * P.bytesOf e ≤ 2 ^ 48 :=
  Nat.le_trans (Nat.mul_le_mul_right _ (nextcap_le _ _ hc)) hg
theorem growX_ok (hh : HR P G h0 σ H h) {e n k c : Nat} {old l : List CV} {y : CV} {v : Value} {H' : CH} {sp : Option Addr} {vo vl : List Value} (hx : growX P H e n k old l = some (y, H')) (ho : VRs σ old vo) (hl : VRs σ l vl)
    (hso : ∀ F : List Value → Prop, F vo → srcK h (P.cellsOf e) n (.slice sp n c) F) (hsl : ∀ F : List Value → Prop, F vl → srcK h (P.cellsOf e) k v F) (hc : c < n + k) {F : Sl → Hp → Prop}
    (hF : ∀ σ' s h', Le σ σ' → VR σ' y s.v → HR P G h0 σ' H' h' → F s h') :
    Builtin.nextslicecap (n + k) c * P.bytesOf e ≤ 2 ^ 48 ∧ srcK h (P.cellsOf e) n (.slice sp n c) fun old => srcK h (P.cellsOf e) k v fun l =>
      ∀ c b, n + k ≤ c → h b = none → F ⟨some ⟨b, 0, none⟩, n + k, c⟩ (upd h b (.cells (⟨old ++ l⟩ ++ zeros P e (c - (n + k))) e)) := by
  unfold growX at hx
  obtain ⟨hb, hxx⟩ := condN hx
  cases hxx
  obtain ⟨g1, g2, g3, g4, g5⟩ := growOk_ok hb
  exact ⟨cap48 hc g2, hso _ (hsl _ (grow_ok hh hb ho hl hF))⟩
theorem pastX_ok (hh : HR P G h0 σ H h) {e b o n k : Nat} {l : List CV} {y : CV} {v : Value} {H' : CH} {vl : List Value} (hx : pastX P H e b o n k l = some (y, H')) (hl : VRs σ l vl) (hsl : ∀ F : List Value → Prop, F vl → srcK h (P.cellsOf e) k v F)
    (hln : ∀ F : Nat → Prop, F k → lnK v F) {p : Pl} {c : Nat} (hp : σ b = some p) (hc : o + c * p.sz = p.m) (hsz : 0 < p.sz) (hnc : n ≤ c) {F : Sl → Hp → Prop}
    (hF : ∀ σ' s h', Le σ σ' → VR σ' y s.v → HR P G h0 σ' H' h' → F s h') : apK P e ⟨some (p.at o), n, c⟩ v h F := by
  unfold pastX at hx
  split at hx
  · rename_i opn mk e' cs hg
    obtain ⟨hps, hcl⟩ := row_sz hh hg hp
    cases hbe : Nat.beq e e' with
    | false => rw [hbe] at hx; cases hx
    | true =>
      rw [hbe] at hx
      have := Nat.eq_of_beq_eq_true hbe; subst this
      simp only [cond_true] at hx
      unfold apK
      refine hln _ ?_
      cases hb : Nat.ble (o + (n + k) * P.cellsOf e) cs.length with
      | true =>
        rw [hb] at hx
        simp only [cond_true] at hx
        have hb := Nat.le_of_ble_eq_true hb
        have hin : n + k ≤ c := by
          rw [hps] at hc
          have : (n + k) * P.cellsOf e ≤ c * P.cellsOf e := by omega
          exact Nat.le_of_mul_le_mul_right this (by omega)
        obtain ⟨hll, hx⟩ : Nat.beq l.length (k * P.cellsOf e) = true ∧ (match wrX H b (o + n * P.cellsOf e) l with | some H' => some (CV.slc b o (n + k) none, H') | none => none) = some (y, H') := by
          cases hq : Nat.beq l.length (k * P.cellsOf e) with
          | false => rw [hq] at hx; cases hx
          | true => rw [hq] at hx; exact ⟨rfl, hx⟩
        split at hx
        · rename_i H1 hw
          cases hx
          refine ⟨fun _ => hsl _ ?_, fun h => absurd h (by simp; omega)⟩
          simp only []
          rw [at_add]
          refine wrX_ok hh hw hp hl fun h' hh' => ?_
          refine hF σ _ h' (Le.refl σ) ?_ hh'
          unfold VR Sl.v
          exact ⟨p, c, hp, rfl, hc, hsz, hin⟩
        · cases hx
      | false =>
        rw [hb] at hx
        simp only [cond_false] at hx
        obtain ⟨hb2, hxx⟩ := condN hx
        cases hxx
        simp only [Bool.and_eq_true] at hb2
        obtain ⟨hb1, hgr, hpl⟩ := hb2
        have hb1 := Nat.le_of_ble_eq_true hb1
        obtain ⟨g1, g2, g3, g4, g5⟩ := growOk_ok hgr
        obtain ⟨q, x, k1, k2, k3⟩ := hh.obj b _ hg
        rw [hp] at k1; cases k1
        unfold OR at k3
        obtain ⟨vs, lo, hi, rfl, r1, r2, r3, r4, r5, r6, r7, r8⟩ := k3
        have hrd : rdC H b o (n * P.cellsOf e) = some ((cs.drop o).take (n * P.cellsOf e)) := by
          unfold rdC; rw [hg]; simp only [csOf]
          have : Nat.ble (o + n * P.cellsOf e) cs.length = true := Nat.ble_eq_true_of_le hb1
          rw [this]; rfl
        obtain ⟨vo, o1, o2, o3⟩ := rdC_rdN hh hrd hp
        refine ⟨fun hin => ?_, fun hout => ?_⟩
        · -- within the room
          refine hsl _ ?_
          simp only [] at hin ⊢
          rw [at_add]
          have hvl := hl.len
          have hroom : (n + k) * P.cellsOf e ≤ c * P.cellsOf e := Nat.mul_le_mul_right _ hin
          rw [hps] at hc
          have hexp : (n + k) * P.cellsOf e = n * P.cellsOf e + k * P.cellsOf e := Nat.add_mul ..
          refine wrL_row (r := p.r) (off := p.d + (o + n * P.cellsOf e)) vl 0 h vs k2 (by omega) (plXs_ok hpl hl) (r5.imp id Nat.le_of_eq) ?_
          rw [Nat.add_zero]
          obtain ⟨hle', hn⟩ := hh.move (o' := .row true true mk e ((cs.drop o).take (n * P.cellsOf e) ++ l)) (p' := ⟨p.r, p.d + o, p.m - o, p.sz⟩) (x := .cells ⟨vs.take (p.d + (o + n * P.cellsOf e)) ++ (vl ++ vs.drop (p.d + (o + n * P.cellsOf e) + vl.length))⟩ e (lo, hi)) hg hp rfl (r7 rfl) (by
            unfold OR
            have hlen : (vs.take (p.d + (o + n * P.cellsOf e)) ++ (vl ++ vs.drop (p.d + (o + n * P.cellsOf e) + vl.length))).length = vs.length := by simp; omega
            refine ⟨_, lo, hi, rfl, by rw [hlen]; show _ = p.d + o + (p.m - o); omega, ?_, (fun e => by cases e), (fun i x hi => ?_), ?_, r6, (fun _ => r7 rfl), r8⟩
            · show _ ≤ p.m - o
              rw [List.length_append, g3, g4]; omega
            · show ∃ v, (vs.take (p.d + (o + n * P.cellsOf e)) ++ (vl ++ vs.drop (p.d + (o + n * P.cellsOf e) + vl.length)))[p.d + o + i]? = some v ∧ _
              have hvt : (vs.take (p.d + (o + n * P.cellsOf e))).length = p.d + (o + n * P.cellsOf e) := by simp; omega
              by_cases gi : i < n * P.cellsOf e
              · rw [List.getElem?_append_left (by omega)] at hi
                rw [List.getElem?_append_left (by omega), List.getElem?_take, if_pos (by omega)]
                rw [List.getElem?_take, if_pos gi, List.getElem?_drop] at hi
                obtain ⟨w, hw, hr⟩ := r4 _ _ hi
                exact ⟨w, by rw [← hw]; congr 1; omega, hr.mono (plus_le (hh.fresh _ (Nat.le_refl _))) _ _⟩
              · rw [List.getElem?_append_right (by omega)] at hi
                have hil := (List.getElem?_eq_some_iff.1 hi).1
                rw [List.getElem?_append_right (by omega), List.getElem?_append_left (by omega)]
                obtain ⟨w, hw, hr⟩ := (hl.mono' (plus_le (p := ⟨p.r, p.d + o, p.m - o, p.sz⟩) (hh.fresh _ (Nat.le_refl _)))).get hi
                exact ⟨w, by rw [← hw]; congr 1; omega, hr⟩
            · rw [hlen]; exact r5)
          refine hF _ _ _ hle' ?_ hn
          unfold VR Sl.v
          refine ⟨⟨p.r, p.d + o, p.m - o, p.sz⟩, c, by simp [plus], by simp [Pl.at], ?_, hsz, hin⟩
          show 0 + c * p.sz = p.m - o
          rw [hps]; omega
        · -- beyond it
          refine ⟨cap48 hout g2, ?_⟩
          have hold : ∀ F : List Value → Prop, F vo → srcK h (P.cellsOf e) n (.slice (some (p.at o)) n c) F := fun F hF => by unfold srcK; simp only []; rw [o3]; exact hF
          exact hold _ (hsl _ (grow_ok (hh.del b) hgr o1 hl hF))
  · cases hx
theorem apX_ok (hh : HR P G h0 σ H h) {e : TypeId} {s y z : CV} {H' : CH} {p : Option Addr} {n c : Nat} {vy : Value} (hx : apX P H e s y = some (z, H')) (hs : VR σ s (.slice p n c)) (hy : VR σ y vy) {F : Sl → Hp → Prop}
    (hF : ∀ σ' s h', Le σ σ' → VR σ' z s.v → HR P G h0 σ' H' h' → F s h') : apK P e ⟨p, n, c⟩ vy h F := by
  unfold apX at hx
  split at hx
  · rename_i k hk
    split at hx
    · rename_i l hl
      obtain ⟨vl, l1, l2⟩ := srX_ok hh hl hy
      split at hx
      · -- nil
        unfold VR at hs; cases hs
        unfold apK
        refine lnX_ok hk hy ?_
        cases hb : Nat.beq k 0 with
        | true =>
          rw [hb] at hx; cases hx
          have := Nat.eq_of_beq_eq_true hb; subst this
          refine ⟨fun _ => l2 _ ?_, fun h => absurd h (by simp)⟩
          exact hF σ _ h (Le.refl σ) (by unfold VR; rfl) hh
        | false =>
          rw [hb] at hx
          have hk0 := Nat.ne_of_beq_eq_false hb
          refine ⟨fun h => absurd h (by simp; omega), fun hc => ?_⟩
          exact growX_ok (sp := none) hh hx (vo := []) (by unfold VRs; rfl) l1 (fun F hF => hF) l2 hc hF
      · rename_i b o n' c'
        unfold VR at hs; obtain ⟨p', hp, hs⟩ := hs; cases hs
        unfold apK
        refine lnX_ok hk hy ?_
        cases hb : Nat.ble (n + k) c with
        | true =>
          rw [hb] at hx
          have hb := Nat.le_of_ble_eq_true hb
          simp only [cond_true] at hx
          refine ⟨fun _ => l2 _ ?_, fun h => absurd h (by simp; omega)⟩
          simp only []
          cases hz : Nat.beq k 0 && Nat.beq l.length 0 with
          | true =>
            rw [hz] at hx; cases hx
            simp only [Bool.and_eq_true] at hz
            have := Nat.eq_of_beq_eq_true hz.1; subst this
            have h0 := l1.len
            rw [Nat.eq_of_beq_eq_true hz.2] at h0
            have := List.length_eq_zero_iff.1 h0; subst this
            unfold wrL
            exact hF σ _ h (Le.refl σ) (by unfold VR Sl.v; exact ⟨p', hp, rfl⟩) hh
          | false =>
            rw [hz] at hx
            simp only [cond_false] at hx
            split at hx
            · rename_i H1 hw
              cases hx
              rw [at_add]
              refine wrX_ok hh hw hp l1 fun h' hh' => ?_
              exact hF σ _ h' (Le.refl σ) (by unfold VR Sl.v; exact ⟨p', hp, rfl⟩) hh'
            · cases hx
        | false =>
          rw [hb] at hx
          simp only [cond_false] at hx
          have hnc : ¬ n + k ≤ c := by
            intro hle
            have := Nat.ble_eq_true_of_le hle
            rw [this] at hb; cases hb
          split at hx
          · rename_i old ho
            obtain ⟨vo, o1, o2, o3⟩ := rdC_rdN hh ho hp
            refine ⟨fun h => absurd h (by simp; omega), fun hc => ?_⟩
            exact growX_ok hh hx o1 l1 (fun F hF => by unfold srcK; simp only []; rw [o3]; exact hF) l2 hc hF
          · cases hx
      · rename_i b o n'
        unfold VR at hs; obtain ⟨p', c', hp, hs, h1, h2, h3⟩ := hs; cases hs
        cases hb : Nat.beq k 0 with
        | true =>
          rw [hb] at hx
          simp only [cond_true] at hx
          have := Nat.eq_of_beq_eq_true hb; subst this
          obtain ⟨hz, hxx⟩ := condN hx
          cases hxx
          unfold apK
          refine lnX_ok hk hy ?_
          refine ⟨fun _ => l2 _ ?_, fun h => absurd h (by simp; omega)⟩
          have h0 := l1.len
          rw [Nat.eq_of_beq_eq_true hz] at h0
          have := List.length_eq_zero_iff.1 h0; subst this
          simp only []
          unfold wrL
          exact hF σ _ h (Le.refl σ) (by unfold VR Sl.v; exact ⟨p', c, hp, rfl, h1, h2, h3⟩) hh
        | false =>
          rw [hb] at hx
          exact pastX_ok hh hx l1 l2 (fun F hF => lnX_ok hk hy hF) hp h1 h2 h3 hF
      · cases hx
    · cases hx
  · cases hx
end
end Go.Ix

/-
  copy, maps that are written, a string that is walked; all effects in one.
-/
set_option linter.unusedSimpArgs false
set_option linter.unusedVariables false
namespace Go.Ix
open Go Go.Hw
section
variable {P : Program} {E : Nat → Bool} {G : Nat} {h0 : Hp} {σ σ' : Sig} {H : CH} {h : Hp} {env : CE} {ρ : Env}
def cpX (P : Program) (H : CH) (e : TypeId) (s y : CV) : Option (CV × CH) :=
  match lnX y with
  | some m => match s with
    | .snil => match srX H (P.cellsOf e) (Nat.min m 0) y with
      | some _ => some (.int .i64 0, H)
      | none => none
    | .slc b o n _ => match srX H (P.cellsOf e) (Nat.min m n) y with
      | some l => match wrX H b o l with
        | some H' => some (.int .i64 (Nat.min m n : Nat), H')
        | none => none
      | none => none
    | _ => none
  | none => none
theorem cpX_ok (hh : HR P G h0 σ H h) {e : TypeId} {s y z : CV} {H' : CH} {p : Option Addr} {n c : Nat} {vy : Value} (hx : cpX P H e s y = some (z, H')) (hs : VR σ s (.slice p n c)) (hy : VR σ y vy) {F : Nat → Hp → Prop}
    (hF : ∀ r h', VR σ z (.int .i64 (r : Nat)) → HR P G h0 σ H' h' → F r h') : cpK P e ⟨p, n, c⟩ vy h F := by
  unfold cpX at hx
  split at hx
  · rename_i m hm
    unfold cpK
    refine lnX_ok hm hy ?_
    split at hx
    · split at hx
      · rename_i l hl
        cases hx
        unfold VR at hs; cases hs
        obtain ⟨vl, l1, l2⟩ := srX_ok hh hl hy
        refine l2 _ ?_
        refine hF _ h ?_ hh
        unfold VR
        have : Nat.min m 0 = 0 := Nat.min_eq_right (Nat.zero_le _)
        simp only [this]; rfl
      · cases hx
    · rename_i b o n' c'
      split at hx
      · rename_i l hl
        split at hx
        · rename_i H1 hw
          cases hx
          obtain ⟨p', c'', hp, hs⟩ := slc_ok hs
          cases hs
          obtain ⟨vl, l1, l2⟩ := srX_ok hh hl hy
          refine l2 _ ?_
          simp only []
          exact wrX_ok hh hw hp l1 fun h' hh' => hF _ h' (by unfold VR; rfl) hh'
        · cases hx
      · cases hx
    · cases hx
  · cases hx
def setE (k x : CV) : List (CV × CV × Nat) → Nat → List (CV × CV × Nat)
  | [], _ => []
  | (_, _, b) :: l, 0 => (k, x, b) :: l
  | e :: l, i + 1 => e :: setE k x l i
def muX (P : Program) (H : CH) (t : TypeId) (m k x : CV) : Option CH :=
  match P.underlying t with
  | some (.map kt et) => match P.underlying kt with
    | some kd => bif plainKey kd then (match m with
      | .map b => match H.t.get b with
        | some (.mp es c) => match findX kd k es 0 with
          | some none => some ⟨H.t.set b (some (.mp (es ++ [(k, x, c)]) (c + 1))), H.nx⟩
          | some (some (i, _)) => some ⟨H.t.set b (some (.mp (setE k x es i) c)), H.nx⟩
          | none => none
        | _ => none
      | _ => none) else none
    | none => none
  | _ => none
theorem entR_app {k x : CV} {c : Nat} {vk vx : Value} (hk : VR σ k vk) (hx : VR σ x vx) : ∀ {es : List (CV × CV × Nat)} {l : List MapEntry}, entR σ es l → entR σ (es ++ [(k, x, c)]) (l ++ [{ key := vk, val := vx, born := c }]) := by
  intro es
  induction es with
  | nil => intro l h; unfold entR at h; subst h; exact ⟨_, [], rfl, hk, hx, rfl, by unfold entR; rfl⟩
  | cons e es ih =>
    intro l h
    obtain ⟨a, b, d⟩ := e
    unfold entR at h; obtain ⟨e, r, rfl, h1, h2, h3, h4⟩ := h
    exact ⟨e, _, rfl, h1, h2, h3, ih h4⟩
theorem entR_set {k x : CV} {vk vx : Value} (hk : VR σ k vk) (hx : VR σ x vx) : ∀ {es : List (CV × CV × Nat)} {l : List MapEntry} {i : Nat}, entR σ es l → entR σ (setE k x es i) (l.modify i fun e => { e with key := vk, val := vx }) := by
  intro es
  induction es with
  | nil => intro l i h; unfold entR at h; subst h; cases i <;> (unfold setE entR; simp)
  | cons e es ih =>
    intro l i h
    obtain ⟨a, b, d⟩ := e
    unfold entR at h; obtain ⟨e, r, rfl, h1, h2, h3, h4⟩ := h
    cases i with
    | zero => simp only [setE, List.modify_zero_cons]; exact ⟨_, r, rfl, hk, hx, h3, h4⟩
    | succ i => simp only [setE, List.modify_succ_cons]; exact ⟨e, _, rfl, h1, h2, h3, ih h4⟩
theorem muX_ok (hh : HR P G h0 σ H h) {t : TypeId} {m k x : CV} {H' : CH} {vm vk vx : Value} (hu : muX P H t m k x = some H') (hm : VR σ m vm) (hk : VR σ k vk) (hx : VR σ x vx) {F : Hp → Prop} (hF : ∀ h', HR P G h0 σ H' h' → F h') :
    muK P t vm vk vx h F := by
  unfold muX at hu
  unfold muK
  split at hu
  · rename_i kt et ht
    rw [ht]; simp only []
    split at hu
    · rename_i kd hkd
      rw [hkd]; simp only []
      cases hp : plainKey kd with
      | false => rw [hp] at hu; cases hu
      | true =>
        rw [hp] at hu
        simp only [cond_true] at hu ⊢
        split at hu
        · rename_i b
          split at hu
          · rename_i es c hg
            unfold VR at hm; obtain ⟨p, hpb, rfl⟩ := hm
            obtain ⟨q, y, k1, k2, k3⟩ := hh.obj b _ hg
            rw [hpb] at k1; cases k1
            unfold OR at k3
            obtain ⟨l, rfl, he, h0r⟩ := k3
            unfold xMapO; simp only []; rw [k2]; simp only []
            split at hu
            · rename_i hf
              cases hu
              obtain ⟨r, g1, g2⟩ := findX_ok hk hf he
              unfold keyAt
              simp only []
              rw [g1]
              cases r with
              | some r => obtain ⟨j, u⟩ := r; exact g2.elim
              | none =>
                refine hF _ (hh.chg hg hpb h0r ?_)
                unfold mset OR
                exact ⟨_, by simp only []; rw [List.push_toArray], entR_app hk hx he, h0r⟩
            · rename_i i w hf
              cases hu
              obtain ⟨r, g1, g2⟩ := findX_ok hk hf he
              unfold keyAt
              simp only []
              rw [g1]
              cases r with
              | none => exact g2.elim
              | some r =>
                obtain ⟨j, u⟩ := r
                obtain ⟨rfl, _⟩ := g2
                refine hF _ (hh.chg hg hpb h0r ?_)
                unfold mset OR
                refine ⟨(l.modify i fun e => { e with key := vk, val := vx }), ?_, entR_set hk hx he, h0r⟩
                simp only [Obj.map.injEq, and_true]
                apply Array.ext'; simp
            · cases hu
          · cases hu
        · cases hu
    · cases hu
  · cases hu
def delE : List (CV × CV × Nat) → Nat → List (CV × CV × Nat)
  | [], _ => []
  | _ :: l, 0 => l
  | e :: l, i + 1 => e :: delE l i
theorem entR_del : ∀ {es : List (CV × CV × Nat)} {l : List MapEntry} {i : Nat}, entR σ es l → entR σ (delE es i) (l.eraseIdx i) := by
  intro es
  induction es with
  | nil => intro l i h; unfold entR at h; subst h; cases i <;> (unfold delE entR; simp)
  | cons e es ih =>
    intro l i h
    obtain ⟨a, b, d⟩ := e
    unfold entR at h; obtain ⟨e, r, rfl, h1, h2, h3, h4⟩ := h
    cases i with
    | zero => simp only [delE, List.eraseIdx_cons_zero]; exact h4
    | succ i => simp only [delE, List.eraseIdx_cons_succ]; exact ⟨e, _, rfl, h1, h2, h3, ih h4⟩
def mdX (P : Program) (H : CH) (t : TypeId) (m k : CV) : Option CH :=
  match P.underlying t with
  | some (.map kt et) => match P.underlying kt with
    | some kd => bif plainKey kd then (match m with
      | .mnil => some H
      | .map b => match H.t.get b with
        | some (.mp es c) => match findX kd k es 0 with
          | some none => some ⟨H.t.set b (some (.mp es c)), H.nx⟩
          | some (some (i, _)) => some ⟨H.t.set b (some (.mp (delE es i) c)), H.nx⟩
          | none => none
        | _ => none
      | _ => none) else none
    | none => none
  | _ => none
theorem mdX_ok (hh : HR P G h0 σ H h) {t : TypeId} {m k : CV} {H' : CH} {vm vk : Value} (hu : mdX P H t m k = some H') (hm : VR σ m vm) (hk : VR σ k vk) {F : Hp → Prop} (hF : ∀ h', HR P G h0 σ H' h' → F h') :
    mdK P t vm vk h F := by
  unfold mdX at hu
  unfold mdK
  split at hu
  · rename_i kt et ht
    rw [ht]; simp only []
    split at hu
    · rename_i kd hkd
      rw [hkd]; simp only []
      cases hp : plainKey kd with
      | false => rw [hp] at hu; cases hu
      | true =>
        rw [hp] at hu
        simp only [cond_true] at hu ⊢
        split at hu
        · cases hu; unfold VR at hm; subst hm; exact hF _ hh
        · rename_i b
          split at hu
          · rename_i es c hg
            unfold VR at hm; obtain ⟨p, hpb, rfl⟩ := hm
            obtain ⟨q, y, k1, k2, k3⟩ := hh.obj b _ hg
            rw [hpb] at k1; cases k1
            unfold OR at k3
            obtain ⟨l, rfl, he, h0r⟩ := k3
            simp only []
            unfold xMapO; simp only []; rw [k2]; simp only []
            split at hu
            · rename_i hf
              cases hu
              obtain ⟨r, g1, g2⟩ := findX_ok hk hf he
              unfold keyAt
              simp only []
              rw [g1]
              cases r with
              | some r => obtain ⟨j, u⟩ := r; exact g2.elim
              | none =>
                refine hF _ (hh.chg hg hpb h0r ?_)
                unfold mdel OR
                exact ⟨_, rfl, he, h0r⟩
            · rename_i i w hf
              cases hu
              obtain ⟨r, g1, g2⟩ := findX_ok hk hf he
              unfold keyAt
              simp only []
              rw [g1]
              cases r with
              | none => exact g2.elim
              | some r =>
                obtain ⟨j, u⟩ := r
                obtain ⟨rfl, _⟩ := g2
                refine hF _ (hh.chg hg hpb h0r ?_)
                unfold mdel OR
                refine ⟨l.eraseIdx i, ?_, entR_del he, h0r⟩
                simp only [Obj.map.injEq, and_true]
                apply Array.ext'
                simp only [Array.eraseIdxIfInBounds]
                split
                · simp
                · rename_i hn; simp at hn; simp [List.eraseIdx_of_length_le hn]
            · cases hu
          · cases hu
        · cases hu
    · cases hu
  · cases hu
def mmpX (H : CH) : CV × CH := (.map H.nx, addB H (.mp [] 0))
theorem newObj_swp {o : Obj} {K : Nat → Hp → Prop} : swp P (newObj o) h K = ∀ b, h b = none → K b (upd h b o) := rfl
theorem mmpX_ok (hh : HR P G h0 σ H h) {t : TypeId} {K : Value → Hp → Prop} (hK : ∀ σ' v h', Le σ σ' → VR σ' (mmpX H).1 v → HR P G h0 σ' (mmpX H).2 h' → K v h') : swp P (Instr.makeMap t none) h K := by
  unfold Instr.makeMap
  simp only [swp_bind']
  rw [newObj_swp]
  intro b hb
  obtain ⟨hl, hn⟩ := hh.add (o := .mp [] 0) (x := .map #[] 0) (p := ⟨b, 0, 0, 0⟩) hb rfl fun h0b => by unfold OR; exact ⟨[], rfl, by unfold entR; rfl, h0b⟩
  exact hK _ _ _ hl (by unfold mmpX VR; exact ⟨_, by simp [plus]; rfl, rfl⟩) hn
def rgX (P : Program) (H : CH) (t : TypeId) (x : CV) : Option (CV × CH) :=
  match P.underlying t, x with
  | some .string, .str l => some (.ptr H.nx 0, addB H (.sit l 0))
  | some (.map _ _), .map m => match H.t.get m with
    | some (.mp es c) => some (.ptr H.nx 0, addB H (.mit (some m) c [] c))
    | _ => none
  | _, _ => none
theorem rgX_ok (hh : HR P G h0 σ H h) {t : TypeId} {x y : CV} {v : Value} {H' : CH} (hx : rgX P H t x = some (y, H')) (hv : VR σ x v) {K : Value → Hp → Prop} (hK : ∀ σ' v h', Le σ σ' → VR σ' y v → HR P G h0 σ' H' h' → K v h') :
    rgK P t v h fun p h' => K (.pointer p) h' := by
  unfold rgX at hx
  split at hx
  · rename_i l hu
    cases hx
    unfold VR at hv; obtain ⟨s, rfl, rfl⟩ := hv
    unfold rgK
    rw [hu]
    simp only []
    intro b hb
    obtain ⟨hl, hn⟩ := hh.add (o := .sit (bl s) 0) (x := .stringIter s 0) (p := ⟨b, 0, 0, 0⟩) hb rfl fun h0b => by unfold OR; exact ⟨s, rfl, rfl, h0b, rfl⟩
    exact hK _ _ _ hl (by unfold VR; exact ⟨_, by simp [plus]; rfl, rfl⟩) hn
  · rename_i m hu
    split at hx
    · rename_i es c hg
      cases hx
      unfold VR at hv; obtain ⟨p, hp, rfl⟩ := hv
      obtain ⟨l, g1, g2⟩ := mp_at hh hg hp
      unfold rgK
      rw [hu]
      simp only []
      unfold rgM
      simp only [g1]
      intro b hb
      obtain ⟨hl, hn⟩ := hh.add (o := .mit (some m) c [] c) (x := .mapIter (some p.r) c #[] c) (p := ⟨b, 0, 0, 0⟩) hb rfl fun h0b => by
        unfold OR; exact ⟨_, rfl, ⟨p, plus_le (hh.fresh _ (Nat.le_refl _)) _ _ hp, rfl⟩, h0b, rfl⟩
      exact hK _ _ _ hl (by unfold VR; exact ⟨_, by simp [plus]; rfl, rfl⟩) hn
    · cases hx
  · cases hx
def nxX (H : CH) (x : CV) : Option (CV × CH) :=
  match x with
  | .ptr b 0 => match H.t.get b with
    | some (.sit l n) => match l[n]? with
      | some c => bif Nat.blt c 128 then some (.tup [.bool true, .int .i64 (n : Nat), .int .i32 (c : Nat)], ⟨H.t.set b (some (.sit l (n + 1))), H.nx⟩) else none
      | none => some (.tup [.bool false], H)
    | _ => none
  | _ => none
theorem nxX_ok (hh : HR P G h0 σ H h) {x y : CV} {v : Value} {H' : CH} (hx : nxX H x = some (y, H')) (hv : VR σ x v) {K : Value → Hp → Prop} (hK : ∀ v h', VR σ y v → HR P G h0 σ H' h' → K v h') : ∃ p, v = .pointer p ∧ nxS h p (fun i c h' => K (.tuple ⟨[.bool true, goInt i, .int .i32 c]⟩) h') fun h' => K (.tuple ⟨[.bool false]⟩) h' := by
  unfold nxX at hx
  split at hx
  · rename_i b
    split at hx
    · rename_i l n hg
      unfold VR at hv; obtain ⟨p, hp, rfl⟩ := hv
      obtain ⟨q, z, k1, k2, k3⟩ := hh.obj b _ hg
      rw [hp] at k1; cases k1
      unfold OR at k3
      obtain ⟨s, rfl, rfl, h0r, hd⟩ := k3
      have hat : p.at 0 = ⟨p.r, 0, none⟩ := by simp [Pl.at, hd]
      rw [hat]
      refine ⟨_, rfl, ?_⟩
      unfold nxS
      simp only [k2]
      split at hx
      · rename_i c hc
        obtain ⟨hb, hxx⟩ := condN hx
        cases hxx
        have hb : c < 128 := by simpa [Nat.blt_eq] using hb
        obtain ⟨hlt, hgc⟩ := bl_get hc
        rw [decide_eq_true hlt, cond_true]
        have hdec : Utf8.decode s n = (c, 1) := by
          unfold Utf8.decode
          have : (s.get! (n + 0)).toNat = c := by
            rw [Nat.add_zero, ← hgc]
            rfl
          simp only [this]
          rw [if_pos hb]
        rw [hdec]
        dsimp only
        refine hK _ _ ?_ (hh.chg hg hp h0r (by unfold OR; exact ⟨s, rfl, rfl, h0r, hd⟩))
        unfold VR
        refine ⟨_, rfl, ?_⟩
        unfold VRs; refine ⟨_, _, rfl, by unfold VR; rfl, ?_⟩
        unfold VRs; refine ⟨_, _, rfl, by unfold VR; rfl, ?_⟩
        unfold VRs; refine ⟨_, _, rfl, by unfold VR; rfl, ?_⟩
        unfold VRs; rfl
      · rename_i hc
        cases hx
        have hge : ¬ n < s.size := by
          intro hlt
          rw [List.getElem?_eq_none_iff, bl_len] at hc; omega
        rw [decide_eq_false hge, cond_false]
        refine hK _ _ ?_ hh
        unfold VR
        refine ⟨_, rfl, ?_⟩
        unfold VRs; refine ⟨_, _, rfl, by unfold VR; rfl, ?_⟩
        unfold VRs; rfl
    · cases hx
  · cases hx
end
end Go.Ix

/-
  All effects in one.
-/
set_option linter.unusedSimpArgs false
set_option linter.unusedVariables false
namespace Go.Ix
open Go Go.Hw
section
variable {P : Program} {E : Nat → Bool} {G : Nat} {h0 : Hp} {σ σ' : Sig} {H : CH} {h : Hp} {env : CE} {ρ : Env}
def bltX (P : Program) (H : CH) (b : Builtin) (ts : List TypeId) (l : List CV) : Option (CV × CH) :=
  match b, ts, l with
  | .append, t :: u :: _, [s, y] => match P.underlying t with
    | some (.slice e) => bif bytes0 P e && notIntT P u then apX P H e s y else none
    | _ => none
  | .copy, t :: _, [s, y] => match P.underlying t with
    | some (.slice e) => bif (P.info? e).isSome then cpX P H e s y else none
    | _ => none
  | .delete, t :: _, [m, k] => match mdX P H t m k with
    | some H' => some (.tup [], H')
    | none => none
  | .clear, t :: _, [m] => match P.underlying t with
    | some (.map _ _) => match m with
      | .mnil => some (.tup [], H)
      | .map b => match H.t.get b with
        | some (.mp _ c) => some (.tup [], ⟨H.t.set b (some (.mp [] c)), H.nx⟩)
        | _ => none
      | _ => none
    | _ => none
  | _, _, _ => none
theorem isSl {s : CV} {v : Value} {P : Program} {H : CH} {e : TypeId} {y z : CV} {H' : CH} (hx : apX P H e s y = some (z, H') ∨ cpX P H e s y = some (z, H')) (hs : VR σ s v) : ∃ p n c, v = .slice p n c := by
  cases s
  case snil => unfold VR at hs; exact ⟨_, _, _, hs⟩
  case slc => obtain ⟨p, c, _, rfl⟩ := slc_ok hs; exact ⟨_, _, _, rfl⟩
  all_goals
    exfalso
    rcases hx with hx | hx
    · unfold apX at hx
      split at hx
      · split at hx <;> cases hx
      · cases hx
    · unfold cpX at hx
      split at hx <;> cases hx
theorem bltX_known {b : Builtin} {ts : List TypeId} {l : List CV} {y : CV} {H' : CH} (hx : bltX P H b ts l = some (y, H')) : knownB b = true := by
  unfold bltX at hx
  split at hx <;> first | rfl | cases hx
theorem bltX_ok (hh : HR P G h0 σ H h) {b : Builtin} {ts : List TypeId} {l : List CV} {vs : List Value} {y : CV} {H' : CH} (hx : bltX P H b ts l = some (y, H')) (hv : VRs σ l vs) {K : Value → Hp → Prop}
    (hK : ∀ σ' v h', Le σ σ' → VR σ' y v → HR P G h0 σ' H' h' → K v h') : bltK P b ts vs h K := by
  unfold bltX at hx
  split at hx
  · split at hx
    · rename_i e hu
      cases hb : bytes0 P e && notIntT P _ with
      | false => rw [hb] at hx; cases hx
      | true =>
        rw [hb] at hx
        unfold VRs at hv; obtain ⟨v, r, rfl, h1, h2⟩ := hv
        unfold VRs at h2; obtain ⟨w, r, rfl, h2, h3⟩ := h2
        unfold VRs at h3; subst h3
        unfold bltK; simp only []
        unfold elT; rw [hu]; simp only []; rw [hb]
        obtain ⟨p, n, c, rfl⟩ := isSl (.inl hx) h1
        exact apX_ok hh hx h1 h2 fun σ' s h' hl hr hh' => hK σ' _ h' hl hr hh'
    · cases hx
  · split at hx
    · rename_i e hu
      cases hb : (P.info? e).isSome with
      | false => rw [hb] at hx; cases hx
      | true =>
        rw [hb] at hx
        unfold VRs at hv; obtain ⟨v, r, rfl, h1, h2⟩ := hv
        unfold VRs at h2; obtain ⟨w, r, rfl, h2, h3⟩ := h2
        unfold VRs at h3; subst h3
        unfold bltK; simp only []
        unfold elT; rw [hu]; simp only []; rw [hb]
        obtain ⟨p, n, c, rfl⟩ := isSl (.inr hx) h1
        exact cpX_ok hh hx h1 h2 fun r h' hr hh' => hK σ _ h' (Le.refl σ) hr hh'
    · cases hx
  · split at hx
    · rename_i H1 hm
      cases hx
      unfold VRs at hv; obtain ⟨v, r, rfl, h1, h2⟩ := hv
      unfold VRs at h2; obtain ⟨w, r, rfl, h2, h3⟩ := h2
      unfold VRs at h3; subst h3
      unfold bltK; simp only []
      exact mdX_ok hh hm h1 h2 fun h' hh' => hK σ _ h' (Le.refl σ) VR_undef hh'
    · cases hx
  · split at hx
    · rename_i hu
      unfold VRs at hv; obtain ⟨v, r, rfl, h1, h2⟩ := hv
      unfold VRs at h2; subst h2
      unfold bltK; simp only []; rw [hu]; simp only []
      split at hx
      · cases hx; unfold VR at h1; subst h1; exact hK σ _ h (Le.refl σ) VR_undef hh
      · rename_i b
        split at hx
        · rename_i es c hg
          cases hx
          unfold VR at h1; obtain ⟨p, hp, rfl⟩ := h1
          obtain ⟨q, z, k1, k2, k3⟩ := hh.obj b _ hg
          rw [hp] at k1; cases k1
          unfold OR at k3
          obtain ⟨l, rfl, he, h0r⟩ := k3
          simp only []; unfold clM; simp only [k2]
          exact hK σ _ _ (Le.refl σ) VR_undef (hh.chg hg hp h0r (by unfold OR; exact ⟨[], rfl, by unfold entR; rfl, h0r⟩))
        · cases hx
      · cases hx
    · cases hx
  · cases hx
def eX (P : Program) (G : Nat) (H : CH) (env : CE) (o : Oper) : Option (CV × CH) :=
  match o.op with
  | .store t a x => match evC G env a, evC G env x with
    | some a, some x => match stX P H t a x with
      | some H' => some (.tup [], H')
      | none => none
    | _, _ => none
  | .alloc e => allocX P H e
  | .box e x => match evC G env x with
    | some x => some (boxX H e x)
    | none => none
  | .buildSlice t n ps => match evPs G env ps.toList with
    | some ps => bsX P H t n ps
    | none => none
  | .makeSlice t l c => match evC G env l, evC G env c with
    | some l, some c => mkX P H t l c
    | _, _ => none
  | .convert s d x => match evC G env x with
    | some x => s2bX P H s d x
    | none => none
  | .mapUpdate t m k x => match evC G env m, evC G env k, evC G env x with
    | some m, some k, some x => match muX P H t m k x with
      | some H' => some (.tup [], H')
      | none => none
    | _, _, _ => none
  | .insert t m k x => match evC G env m, evC G env k, evC G env x with
    | some m, some k, some x => match muX P H t m k x with
      | some H' => some (.tup [], H')
      | none => none
    | _, _, _ => none
  | .makeMap t none => some (mmpX H)
  | .range t x => match evC G env x with
    | some x => rgX P H t x
    | none => none
  | .next x true => match evC G env x with
    | some x => nxX H x
    | none => none
  | .call ⟨.builtin b, args, ts⟩ => match evCs G env args.toList with
    | some l => bltX P H b ts.toList l
    | none => none
  | _ => none
theorem some_unit {o : Oper} {K : Value → Hp → Prop} {s : Sem Unit} {l : List Operand} (hl : o.op.operands.toList = l) (hs : isSel o.op = false) (ho : okAll ρ l = true)
    (he : execOp (evD ρ) o = do s; pure Next.skip) (hk : swp P s h fun _ h' => K undef h') : someAny ρ P o h K := by
  unfold someAny
  rw [hl, ho, hs]
  show opS P o (evD ρ) h K
  unfold opS
  rw [he]
  exact uswp hk
theorem eX_ok (he : ER σ env ρ) (hh : HR P G h0 σ H h) {o : Oper} {y : CV} {H' : CH} (hx : eX P G H env o = some (y, H')) {K : Value → Hp → Prop} (hK : ∀ σ' v h', Le σ σ' → VR σ' y v → HR P G h0 σ' H' h' → K v h') : opK P E o ρ h K := by
  obtain ⟨dst, op, type, pos, after, guard⟩ := o
  unfold eX at hx
  cases op <;> simp only [] at hx <;> first | (cases hx; done) | skip
  case store t a x =>
    split at hx
    · rename_i ca cx ha hxx
      split at hx
      · rename_i H1 hs
        cases hx
        obtain ⟨va, a1, a2⟩ := evC_ok ha he hh
        obtain ⟨vx, x1, x2⟩ := evC_ok hxx he hh
        unfold opK
        refine mv_ok a1 (mv_ok x1 ?_)
        exact stX_ok (F := fun h' => K undef h') hh hs a2 x2 fun h' hh' => hK σ _ h' (Le.refl σ) VR_undef hh'
      · cases hx
    · cases hx
  case alloc e =>
    unfold opK
    exact some_any (l := []) rfl rfl rfl rfl (alloc_ok hh hx hK)
  case box e x =>
    split at hx
    · rename_i c hc
      cases hx
      obtain ⟨v, h1, h2⟩ := evC_ok hc he hh
      unfold opK
      exact some_any rfl rfl (ok1 h1) rfl (by rw [(some1 h1).2]; exact box_ok hh h2 hK)
    · cases hx
  case buildSlice t n ps =>
    split at hx
    · rename_i c hc
      obtain ⟨h1, h2⟩ := evPs_ok he hh hc
      unfold opK
      have e0 : execOp (evD ρ) ⟨dst, .buildSlice t n ps, type, pos, after, guard⟩ = (Instr.buildSlice t n (ps.map fun (p : Nat × Operand) => (p.1, evD ρ p.2)) >>= fun x => pure (Next.value x)) :=
        congrArg (fun q => Instr.buildSlice t n q >>= fun x => pure (Next.value x)) rfl
      refine some_any (l := ps.toList.map (·.2)) (s := Instr.buildSlice t n (ps.map fun (p : Nat × Operand) => (p.1, evD ρ p.2))) (by simp [Op.operands]) rfl h2 e0 ?_
      have e : (ps.map fun (p : Nat × Operand) => (p.1, evD ρ p.2)) = ⟨ps.toList.map fun (p : Nat × Operand) => (p.1, evD ρ p.2)⟩ := by apply Array.ext'; simp
      show swp P (Instr.buildSlice t n (ps.map fun (p : Nat × Operand) => (p.1, evD ρ p.2))) h K
      rw [e]; exact bsX_ok hh hx h1 hK
    · cases hx
  case makeSlice t l c =>
    split at hx
    · rename_i cl cc hl hc
      obtain ⟨vl, l1, l2⟩ := evC_ok hl he hh
      obtain ⟨vc, c1, c2⟩ := evC_ok hc he hh
      unfold opK
      exact mv_ok l1 (mv_ok c1 (mkX_ok hh hx l2 c2 hK))
    · cases hx
  case convert s d x =>
    split at hx
    · rename_i c hc
      obtain ⟨v, h1, h2⟩ := evC_ok hc he hh
      unfold opK
      exact mv_ok h1 (s2bX_ok hh hx h2 hK)
    · cases hx
  case mapUpdate t m k x =>
    split at hx
    · rename_i cm ck cx hm hk hxx
      split at hx
      · rename_i H1 hu
        cases hx
        obtain ⟨vm, m1, m2⟩ := evC_ok hm he hh
        obtain ⟨vk, k1, k2⟩ := evC_ok hk he hh
        obtain ⟨vx, x1, x2⟩ := evC_ok hxx he hh
        unfold opK
        refine mv_ok m1 (mv_ok k1 (mv_ok x1 ?_))
        exact muX_ok (F := fun h' => K undef h') hh hu m2 k2 x2 fun h' hh' => hK σ _ h' (Le.refl σ) VR_undef hh'
      · cases hx
    · cases hx
  case insert t m k x =>
    split at hx
    · rename_i cm ck cx hm hk hxx
      split at hx
      · rename_i H1 hu
        cases hx
        obtain ⟨vm, m1, m2⟩ := evC_ok hm he hh
        obtain ⟨vk, k1, k2⟩ := evC_ok hk he hh
        obtain ⟨vx, x1, x2⟩ := evC_ok hxx he hh
        unfold opK
        refine some_unit (l := [m, k, x]) (s := Instr.mapUpdate t (evD ρ m) (evD ρ k) (evD ρ x)) rfl rfl (by simp [okAll, (some1 m1).1, (some1 k1).1, (some1 x1).1]) rfl ?_
        rw [(some1 m1).2, (some1 k1).2, (some1 x1).2]
        exact muK_swp (K := fun _ h' => K undef h') (muX_ok (F := fun h' => K undef h') hh hu m2 k2 x2 fun h' hh' => hK σ _ h' (Le.refl σ) VR_undef hh')
      · cases hx
    · cases hx
  case makeMap t r =>
    cases r with
    | some r => cases hx
    | none =>
      cases hx
      unfold opK
      exact some_any (l := []) rfl rfl rfl rfl (mmpX_ok hh hK)
  case range t x =>
    split at hx
    · rename_i c hc
      obtain ⟨v, h1, h2⟩ := evC_ok hc he hh
      unfold opK
      exact mv_ok h1 (rgX_ok hh hx h2 hK)
    · cases hx
  case next x b =>
    cases b with
    | false => cases hx
    | true =>
      simp only [] at hx
      split at hx
      · rename_i c hc
        obtain ⟨v, h1, h2⟩ := evC_ok hc he hh
        unfold opK
        obtain ⟨p, rfl, hn⟩ := nxX_ok (K := K) hh hx h2 fun v h' hv hh' => hK σ v h' (Le.refl σ) hv hh'
        exact mv_ok h1 hn
      · cases hx
  case call c =>
    obtain ⟨callee, args, ts⟩ := c
    cases callee with
    | value f => cases hx
    | invoke r m => cases hx
    | builtin b =>
      simp only [] at hx
      split at hx
      · rename_i l hl
        obtain ⟨vs, a1, a2, a3, a4⟩ := evCs_ok he hh hl
        unfold opK
        show bif knownB b then (mvs ρ args.toList [] fun vs => bltK P b ts.toList vs h K) else _
        rw [show knownB b = true from bltX_known hx]
        show mvs ρ args.toList [] fun vs => bltK P b ts.toList vs h K
        exact a4 [] _ (bltX_ok hh hx a1 hK)
      · cases hx
end
end Go.Ix

/-
  Functions of the library without a body that the machine knows by name.
-/
set_option linter.unusedSimpArgs false
set_option linter.unusedVariables false
namespace Go.Ix
open Go Go.Hw
inductive ExK where
  | ib | ns
def exOf (P : Program) (g : Nat) : Option ExK := match P.funcs[g]? with
  | some fn => match fn.body with
    | some _ => none
    | none => bif fn.origin == "" && !(fn.name == "runtime.NumGoroutine") then
        (bif fn.name == "internal/bytealg.IndexByte" then some .ib else bif fn.name == "internal/bytealg.IndexByteString" then some .ib else bif fn.name == "internal/abi.NoEscape" then some .ns else none) else none
  | none => none
def byX (H : CH) : CV → Option (List Nat)
  | .str l => some l
  | .snil => some []
  | .slz _ _ _ => some []
  | .slc b o n _ => match rdC H b o n with
    | some l => bytesX l
    | none => none
  | _ => none
def idxX (c : Nat) : List Nat → Nat → Option Nat
  | [], _ => none
  | x :: l, i => bif Nat.beq x c then some i else idxX c l (i + 1)
def extX (k : ExK) (H : CH) (args : List CV) : Option CV :=
  match k with
  | .ib => match args with
    | [b, .int .u8 c] => match byX H b with
      | some l => match idxX (c.toNat % 256) l 0 with
        | some i => some (.int .i64 (Int.ofNat i))
        | none => some (.int .i64 (-1))
      | none => none
    | _ => none
  | .ns => match args with
    | [x] => some x
    | _ => none
section
variable {P : Program} {G : Nat} {h0 : Hp} {σ : Sig} {H : CH} {h : Hp}
theorem loadBytes_swp : ∀ {n : Nat} {l : List CV} {r : List Nat} {vs : List Value} {a : Addr} {acc : ByteArray} {K : ByteArray → Hp → Prop}, bytesX l = some r → VRs σ l vs → vs.length = n →
    (∀ (j : Nat) (v : Value), vs[j]? = some v → cell h (a.add j) = some v) → (∀ s, bl s = bl acc ++ r → K s h) → swp P (Extern.Bytes.loadBytes a n acc) h K := by
  intro n
  induction n with
  | zero =>
    intro l r vs a acc K hb hv hn hc hK
    have := List.length_eq_zero_iff.1 hn; subst this
    have hl : l = [] := by have := hv.len; simp at this; exact List.length_eq_zero_iff.1 this.symm
    subst hl
    cases hb
    exact hK acc (by simp)
  | succ n ih =>
    intro l r vs a acc K hb hv hn hc hK
    cases l with
    | nil => unfold VRs at hv; subst hv; simp at hn
    | cons x l =>
      unfold VRs at hv; obtain ⟨v, vs, rfl, hx, hv⟩ := hv
      cases x <;> first | (simp [bytesX] at hb; done) | skip
      rename_i k m
      cases k <;> first | (simp [bytesX] at hb; done) | skip
      simp only [bytesX] at hb
      split at hb
      · rename_i r' hr
        cases hb
        unfold VR at hx; subst hx
        unfold Extern.Bytes.loadBytes
        rw [swp_bind']
        refine ⟨_, by simpa [Addr.add] using hc 0 _ rfl, ?_⟩
        refine ih hr hv (by simpa using hn) ?_ ?_
        · intro j v hj
          have := hc (j + 1) v (by simpa using hj)
          rw [← this]
          congr 1
          unfold Addr.add
          by_cases e : j = 0
          · subst e; simp
          · simp [e]; omega
        · intro s hs
          refine hK s ?_
          rw [hs]
          simp [bl]
      · cases hb
theorem bytesOf_ok (hh : HR P G h0 σ H h) {x : CV} {l : List Nat} {v : Value} (hx : byX H x = some l) (hv : VR σ x v) {K : ByteArray → Hp → Prop} (hK : ∀ s, bl s = l → K s h) : swp P (Extern.Bytes.bytesOf v) h K := by
  cases x <;> simp [byX] at hx
  · subst hx; unfold VR at hv; obtain ⟨s, rfl, rfl⟩ := hv; exact hK s rfl
  · subst hx; unfold VR at hv; subst hv; exact hK _ rfl
  · split at hx
    · rename_i m hm
      obtain ⟨p, c, hp, rfl⟩ := slc_ok hv
      obtain ⟨vs, h1, h2, h3⟩ := rdC_ok hh hm hp
      unfold Extern.Bytes.bytesOf
      refine loadBytes_swp hx h1 h2 ?_ ?_
      · intro j v hj; rw [at_add]; exact h3 j v hj
      · intro s hs; exact hK s (by rw [hs]; rfl)
    · cases hx
  · subst hx; unfold VR at hv; obtain ⟨p, c, hp, rfl, hc, hsz, hl⟩ := hv
    unfold Extern.Bytes.bytesOf
    exact hK _ rfl
theorem idxX_ok (c : UInt8) (f : Nat → UInt8) : ∀ (u : List UInt8) (k : Nat), (∀ (j : Nat) (x : UInt8), u[j]? = some x → f (k + j) = x) → (List.range' k u.length).find? (fun i => f i == c) = idxX c.toNat (u.map UInt8.toNat) k := by
  intro u
  induction u with
  | nil => intro k _; rfl
  | cons x u ih =>
    intro k hf
    simp only [List.length_cons, List.range'_succ, List.map_cons, idxX]
    have h0 : f k = x := by simpa using hf 0 x rfl
    rw [List.find?_cons, h0]
    have e : (x == c) = Nat.beq x.toNat c.toNat := by
      cases hb : Nat.beq x.toNat c.toNat with
      | true => have := UInt8.toNat_inj.1 (Nat.eq_of_beq_eq_true hb); simp [this]
      | false => have : x ≠ c := by (rintro rfl; exact Nat.ne_of_beq_eq_false hb rfl)
                 simp [this]
    rw [e]
    cases Nat.beq x.toNat c.toNat with
    | true => rfl
    | false =>
      simp only [cond_false]
      exact ih (k + 1) fun j y hy => by
        have := hf (j + 1) y (by simpa using hy)
        rw [← this]; congr 1; omega
theorem ib_ok (hh : HR P G h0 σ H h) {args : List CV} {vs : List Value} {y : CV} (hx : extX .ib H args = some y) (hv : VRs σ args vs) : ∃ v, VR σ y v ∧ ∀ K : Value → Hp → Prop, K v h → swp P (Extern.BytealgIndexByte.indexByte ⟨vs⟩) h K := by
  unfold extX at hx
  simp only [] at hx
  split at hx
  · rename_i b c
    split at hx
    · rename_i l hl
      unfold VRs at hv; obtain ⟨v1, r, rfl, h1, hv⟩ := hv
      unfold VRs at hv; obtain ⟨v2, r, rfl, h2, hv⟩ := hv
      unfold VRs at hv; subst hv
      unfold VR at h2; subst h2
      have key : ∀ s : ByteArray, bl s = l → (List.range s.size).find? (fun i => s[i]! == c.toNat.toUInt8) = idxX (c.toNat % 256) l 0 := by
        intro s hs
        subst hs
        have := idxX_ok c.toNat.toUInt8 (fun i => s[i]!) s.data.toList 0 (by
          intro j x hj
          rw [Nat.zero_add]
          have hlt := (List.getElem?_eq_some_iff.1 hj).1
          rw [List.getElem?_eq_getElem hlt] at hj
          simp only [Option.some.injEq] at hj
          rw [← hj]
          have : j < s.size := by simpa using hlt
          rw [getElem!_pos s j this]
          simp [ByteArray.getElem_eq_getElem_data])
        rw [List.range_eq_range', ← (show c.toNat.toUInt8.toNat = c.toNat % 256 from by simp [Nat.toUInt8])]
        simpa [bl] using this
      split at hx
      · rename_i i hi
        cases hx
        refine ⟨.int .i64 (Int.ofNat i), by unfold VR; rfl, fun K hK => ?_⟩
        refine Eq.mpr (swp_bind' (Extern.Bytes.bytesOf v1) (fun b => do let c ← Extern.Bytes.asByte (.int .u8 c); match (List.range b.size).find? fun i => b[i]! == c with | some i => pure (goInt i) | none => pure (goInt (-1))) h K) ?_
        refine bytesOf_ok hh hl h1 fun s hs => ?_
        change swp P (match (List.range s.size).find? fun i => s[i]! == c.toNat.toUInt8 with | some i => pure (goInt i) | none => pure (goInt (-1))) h K
        rw [key s hs, hi]
        exact hK
      · rename_i hi
        cases hx
        refine ⟨.int .i64 (-1), by unfold VR; rfl, fun K hK => ?_⟩
        refine Eq.mpr (swp_bind' (Extern.Bytes.bytesOf v1) (fun b => do let c ← Extern.Bytes.asByte (.int .u8 c); match (List.range b.size).find? fun i => b[i]! == c with | some i => pure (goInt i) | none => pure (goInt (-1))) h K) ?_
        refine bytesOf_ok hh hl h1 fun s hs => ?_
        change swp P (match (List.range s.size).find? fun i => s[i]! == c.toNat.toUInt8 with | some i => pure (goInt i) | none => pure (goInt (-1))) h K
        rw [key s hs, hi]
        exact hK
    · cases hx
  · cases hx
theorem und (fn : Func) (n : String) (hn : fn.name = n) (e : Array Value → Sem Value) (h1 : Extern.allNextRows.lookup n = none) (h2 : Extern.allGenericRows.lookup n = none) (h3 : Extern.allTypedRows.lookup n = none)
    (h4 : Extern.allRows.lookup n = some e) (ho : fn.origin = "") (h5 : Extern.allNextRows.lookup "" = none) : Extern.findNext fn = none ∧ Extern.find fn = some e := by
  unfold Extern.findNext Extern.find
  simp only [hn, ho, h1, h2, h3, h4, h5]
  exact ⟨rfl, rfl⟩
theorem ext_fn {g : Nat} {k : ExK} (hk : exOf P g = some k) : ∃ fn, P.funcs[g]? = some fn ∧ fn.body = none ∧ (fn.name == "runtime.NumGoroutine") = false ∧ Extern.findNext fn = none ∧
    Extern.find fn = some (match k with | .ib => Extern.BytealgIndexByte.indexByte | .ns => Extern.AbiNoEscape.same) := by
  unfold exOf at hk
  split at hk
  · rename_i fn hfn
    split at hk
    · cases hk
    · rename_i hb
      cases hc : fn.origin == "" && !(fn.name == "runtime.NumGoroutine") with
      | false => rw [hc] at hk; cases hk
      | true =>
        rw [hc] at hk
        simp only [cond_true] at hk
        simp only [Bool.and_eq_true, Bool.not_eq_true', beq_iff_eq] at hc
        have ho := hc.1
        refine ⟨fn, hfn, hb, by simpa using hc.2, ?_⟩
        cases h1 : fn.name == "internal/bytealg.IndexByte" with
        | true =>
          rw [h1] at hk; cases hk
          exact und fn _ (by simpa using h1) _ (by kernel_rfl) (by kernel_rfl) (by kernel_rfl) (by kernel_rfl) ho (by kernel_rfl)
        | false =>
          rw [h1] at hk
          cases h2 : fn.name == "internal/bytealg.IndexByteString" with
          | true =>
            rw [h2] at hk; cases hk
            exact und fn _ (by simpa using h2) _ (by kernel_rfl) (by kernel_rfl) (by kernel_rfl) (by kernel_rfl) ho (by kernel_rfl)
          | false =>
            rw [h2] at hk
            cases h3 : fn.name == "internal/abi.NoEscape" with
            | true =>
              rw [h3] at hk; cases hk
              exact und fn _ (by simpa using h3) _ (by kernel_rfl) (by kernel_rfl) (by kernel_rfl) (by kernel_rfl) ho (by kernel_rfl)
            | false => rw [h3] at hk; cases hk
  · cases hk
theorem ext_ok (hh : HR P G h0 σ H h) {g : Nat} {k : ExK} (hk : exOf P g = some k) {args : List CV} {vs : List Value} {y : CV} (hx : extX k H args = some y) (hv : VRs σ args vs) :
    ∃ v, VR σ y v ∧ ∀ K : Value → Hp → Prop, K v h → swp P (callFunc g ⟨vs⟩) h (nextK P K) := by
  obtain ⟨fn, h1, h2, h3, h4, h5⟩ := ext_fn hk
  have key : ∀ (e : Array Value → Sem Value), Extern.find fn = some e → ∀ K : Value → Hp → Prop, swp P (e ⟨vs⟩) h K → swp P (callFunc g ⟨vs⟩) h (nextK P K) := by
    intro e he K hK
    unfold callFunc
    simp only [swp_bind']
    change swp P (match P.funcs[g]? with | none => _ | some fn => _) h _
    rw [h1]
    simp only [h3, h2, h4, he, Bool.false_eq_true, if_false, Option.isNone_none, if_true]
    exact vswp hK
  cases k with
  | ib =>
    obtain ⟨v, g1, g2⟩ := ib_ok hh hx hv
    exact ⟨v, g1, fun K hK => key _ h5 K (g2 K hK)⟩
  | ns =>
    unfold extX at hx
    simp only [] at hx
    split at hx
    · cases hx
      unfold VRs at hv; obtain ⟨v, r, rfl, g1, hv⟩ := hv
      unfold VRs at hv; subst hv
      exact ⟨v, g1, fun K hK => key _ h5 K hK⟩
    · cases hx
end
end Go.Ix

/-
  Maps that are walked: every order is looked at.
-/
set_option linter.unusedSimpArgs false
set_option linter.unusedVariables false
namespace Go.Ix
open Go Go.Hw
def memN (n : Nat) : List Nat → Bool
  | [] => false
  | x :: l => Nat.beq n x || memN n l
def leftX (seen : List Nat) : List (CV × CV × Nat) → List (CV × CV × Nat)
  | [] => []
  | (k, v, b) :: l => bif memN b seen then leftX seen l else (k, v, b) :: leftX seen l
def allLt (n : Nat) : List (CV × CV × Nat) → Bool
  | [] => true
  | (_, _, b) :: l => Nat.blt b n && allLt n l
def anyLt (n : Nat) : List (CV × CV × Nat) → Bool
  | [] => false
  | (_, _, b) :: l => Nat.blt b n || anyLt n l
def nilB {α : Type} : List α → Bool
  | [] => true
  | _ => false
def outsX (H : CH) (b : Nat) (m since : Nat) (seen : List Nat) (c : Nat) : List (CV × CV × Nat) → List (CV × CH)
  | [] => []
  | (k, v, n) :: l => (.tup [.bool true, k, v], ⟨H.t.set b (some (.mit (some m) since (seen ++ [n]) c)), H.nx⟩) :: outsX H b m since seen c l
def mnX (H : CH) (x : CV) : Option (List (CV × CH)) :=
  match x with
  | .ptr b 0 => match H.t.get b with
    | some (.mit none _ _ _) => some [(.tup [.bool false], H)]
    | some (.mit (some m) since seen last) => match H.t.get m with
      | some (.mp es c) =>
        bif (nilB seen || nilB es || anyLt last es) && allLt since (leftX seen es) then
          (match leftX seen es with
          | [] => some [(.tup [.bool false], H)]
          | e :: l => some (outsX H b m since seen c (e :: l)))
        else none
      | _ => none
    | _ => none
  | _ => none
section
variable {P : Program} {G : Nat} {h0 : Hp} {σ : Sig} {H : CH} {h : Hp}
theorem memN_ok {n : Nat} : ∀ {l : List Nat}, memN n l = l.contains n := by
  intro l
  induction l with
  | nil => rfl
  | cons x l ih =>
    simp only [memN, List.contains_cons, ih]
    cases hb : Nat.beq n x with
    | true => rw [Nat.eq_of_beq_eq_true hb]; simp
    | false => have : (n == x) = false := by simpa using Nat.ne_of_beq_eq_false hb
               rw [this]
theorem entR_left {seen : List Nat} : ∀ {es : List (CV × CV × Nat)} {l : List MapEntry}, entR σ es l → entR σ (leftX seen es) (l.filter fun e => !seen.contains e.born) := by
  intro es
  induction es with
  | nil => intro l h; unfold entR at h; subst h; unfold leftX entR; rfl
  | cons e es ih =>
    intro l h
    obtain ⟨k, v, b⟩ := e
    unfold entR at h; obtain ⟨e, r, rfl, h1, h2, h3, h4⟩ := h
    unfold leftX
    rw [memN_ok, ← h3]
    cases hc : seen.contains e.born with
    | true => simp only [cond_true]; rw [List.filter_cons_of_neg (by show ¬ (!seen.contains e.born) = true; rw [hc]; decide)]; exact ih h4
    | false =>
      simp only [cond_false]
      rw [List.filter_cons_of_pos (by show (!seen.contains e.born) = true; rw [hc]; rfl)]
      exact ⟨e, _, rfl, h1, h2, rfl, ih h4⟩
theorem allLt_ok {n : Nat} : ∀ {es : List (CV × CV × Nat)} {l : List MapEntry}, entR σ es l → allLt n es = true → ∀ e ∈ l, e.born < n := by
  intro es
  induction es with
  | nil => intro l h _ e he; unfold entR at h; subst h; cases he
  | cons e es ih =>
    intro l h hl x hx
    obtain ⟨k, v, b⟩ := e
    unfold entR at h; obtain ⟨e, r, rfl, h1, h2, h3, h4⟩ := h
    simp only [allLt, Bool.and_eq_true] at hl
    cases hx with
    | head => rw [h3]; simpa [Nat.blt_eq] using hl.1
    | tail _ hm => exact ih h4 hl.2 x hm
theorem anyLt_ok {n : Nat} : ∀ {es : List (CV × CV × Nat)} {l : List MapEntry}, entR σ es l → anyLt n es = true → ∃ e ∈ l, e.born < n := by
  intro es
  induction es with
  | nil => intro l h hl; cases hl
  | cons e es ih =>
    intro l h hl
    obtain ⟨k, v, b⟩ := e
    unfold entR at h; obtain ⟨e, r, rfl, h1, h2, h3, h4⟩ := h
    simp only [anyLt, Bool.or_eq_true] at hl
    rcases hl with hl | hl
    · exact ⟨e, List.mem_cons_self .., by rw [h3]; simpa [Nat.blt_eq] using hl⟩
    · obtain ⟨x, hx, hlt⟩ := ih h4 hl
      exact ⟨x, List.mem_cons_of_mem _ hx, hlt⟩
theorem entR_get : ∀ {es : List (CV × CV × Nat)} {l : List MapEntry}, entR σ es l → ∀ {j : Nat} {e : MapEntry}, l[j]? = some e → ∃ k v, es[j]? = some (k, v, e.born) ∧ VR σ k e.key ∧ VR σ v e.val := by
  intro es
  induction es with
  | nil => intro l h j e he; unfold entR at h; subst h; simp at he
  | cons x es ih =>
    intro l h j e he
    obtain ⟨k, v, b⟩ := x
    unfold entR at h; obtain ⟨y, r, rfl, h1, h2, h3, h4⟩ := h
    cases j with
    | zero => simp at he; subst he; exact ⟨k, v, by simp [h3], h1, h2⟩
    | succ j => simp at he; obtain ⟨k', v', g1, g2⟩ := ih h4 he; exact ⟨k', v', by simpa using g1, g2⟩
theorem outsX_mem {b m since : Nat} {seen : List Nat} {c : Nat} : ∀ {es : List (CV × CV × Nat)} {j : Nat} {k v : CV} {n : Nat}, es[j]? = some (k, v, n) →
    (.tup [.bool true, k, v], ⟨H.t.set b (some (.mit (some m) since (seen ++ [n]) c)), H.nx⟩) ∈ outsX H b m since seen c es := by
  intro es
  induction es with
  | nil => intro j k v n h; simp at h
  | cons x es ih =>
    intro j k v n h
    obtain ⟨k', v', b'⟩ := x
    unfold outsX
    cases j with
    | zero => simp at h; obtain ⟨rfl, rfl, rfl⟩ := h; exact List.mem_cons_self ..
    | succ j => simp at h; exact List.mem_cons_of_mem _ (ih h)
theorem tup1_ok (b : Bool) : VR σ (.tup [.bool b]) (.tuple ⟨[.bool b]⟩) := by
  unfold VR; refine ⟨_, rfl, ?_⟩
  unfold VRs; refine ⟨_, _, rfl, by unfold VR; rfl, ?_⟩
  unfold VRs; rfl
theorem mnX_ok (hh : HR P G h0 σ H h) {x : CV} {v : Value} {l : List (CV × CH)} (hx : mnX H x = some l) (hv : VR σ x v) {K : Value → Hp → Prop}
    (hK : ∀ y H', (y, H') ∈ l → ∀ v h', VR σ y v → HR P G h0 σ H' h' → K v h') : ∃ p, v = .pointer p ∧ nxM h p fun b r h' => K (.tuple ⟨.bool b :: r⟩) h' := by
  unfold mnX at hx
  split at hx
  · rename_i b
    unfold VR at hv; obtain ⟨p, hp, rfl⟩ := hv
    refine ⟨_, rfl, ?_⟩
    split at hx
    · rename_i si se la hg
      cases hx
      obtain ⟨q, z, k1, k2, k3⟩ := hh.obj b _ hg
      rw [hp] at k1; cases k1
      unfold OR at k3
      obtain ⟨r, rfl, hr, h0r, hd⟩ := k3
      have hat : p.at 0 = ⟨p.r, 0, none⟩ := by simp [Pl.at, hd]
      rw [hat]
      cases r with
      | some r => exact hr.elim
      | none =>
        unfold nxM
        simp only [k2]
        exact hK _ _ (List.mem_singleton.2 rfl) _ h (tup1_ok false) hh
    · rename_i m since seen last hg
      split at hx
      · rename_i es c hm
        obtain ⟨q, z, k1, k2, k3⟩ := hh.obj b _ hg
        rw [hp] at k1; cases k1
        unfold OR at k3
        obtain ⟨r, rfl, hr, h0r, hd⟩ := k3
        have hat : p.at 0 = ⟨p.r, 0, none⟩ := by simp [Pl.at, hd]
        rw [hat]
        cases r with
        | none => exact hr.elim
        | some r =>
          obtain ⟨q, hq, rfl⟩ := hr
          obtain ⟨es', g1, g2⟩ := mp_at hh hm hq
          cases hc : (nilB seen || nilB es || anyLt last es) && allLt since (leftX seen es) with
          | false => rw [hc] at hx; cases hx
          | true =>
            rw [hc] at hx
            simp only [cond_true] at hx
            simp only [Bool.and_eq_true] at hc
            have hleft := entR_left (seen := seen) g2
            have hall := allLt_ok hleft hc.2
            have e1 : leftM ⟨seen⟩ ⟨es'⟩ = ⟨es'.filter fun e => !seen.contains e.born⟩ := by simp [leftM]
            have hno : (!(⟨seen⟩ : Array Nat).isEmpty && !(⟨es'⟩ : Array MapEntry).isEmpty && (⟨es'⟩ : Array MapEntry).all (·.born ≥ last)) = false := by
              cases h1 : nilB seen with
              | true => cases seen with
                | nil => rfl
                | cons => cases h1
              | false => cases h2 : nilB es with
                | true => cases es with
                  | nil => unfold entR at g2; subst g2; simp
                  | cons => cases h2
                | false =>
                  rw [h1, h2] at hc
                  obtain ⟨e, he, hlt⟩ := anyLt_ok g2 (by simpa using hc.1)
                  have : (⟨es'⟩ : Array MapEntry).all (·.born ≥ last) = false := by
                    rw [Bool.eq_false_iff]
                    intro ha
                    simp at ha
                    have := ha e he; omega
                  rw [this]; simp
            unfold nxM
            simp only [k2, g1]
            rw [e1]
            refine ⟨hno, fun e he => hall e (by simpa using he), ?_, ?_⟩
            · intro hnil
              have hl0 : (es'.filter fun e => !seen.contains e.born) = [] := by simpa using congrArg Array.toList hnil
              rw [hl0] at hleft
              have hln := entR_len hleft
              have hcons : leftX seen es = [] := List.length_eq_zero_iff.1 (by rw [List.length_nil] at hln; omega)
              rw [hcons] at hx
              cases hx
              exact hK _ _ (List.mem_singleton.2 rfl) _ h (tup1_ok false) hh
            · intro e he
              have he : e ∈ es'.filter fun e => !seen.contains e.born := by simpa using he
              obtain ⟨j, hj, rfl⟩ := List.getElem_of_mem he
              obtain ⟨k, w, f1, f2, f3⟩ := entR_get hleft (List.getElem?_eq_getElem hj)
              split at hx
              · rename_i hnil
                rw [hnil] at f1; simp at f1
              · rename_i e0 l0 hcons
                cases hx
                rw [hcons] at f1
                generalize es'.filter (fun e => !seen.contains e.born) = L at hj f2 f3 f1
                refine hK _ _ (outsX_mem f1) (.tuple ⟨[.bool true, L[j].key, L[j].val]⟩) _ ?_ (hh.chg hg hp h0r ?_)
                · unfold VR; refine ⟨_, rfl, ?_⟩
                  unfold VRs; refine ⟨_, _, rfl, by unfold VR; rfl, ?_⟩
                  unfold VRs; refine ⟨_, _, rfl, f2, ?_⟩
                  unfold VRs; refine ⟨_, _, rfl, f3, ?_⟩
                  unfold VRs; rfl
                · unfold OR
                  exact ⟨some q.r, by simp, ⟨q, hq, rfl⟩, h0r, hd⟩
      · cases hx
    · cases hx
  · cases hx
def lastN : List Nat → Option Nat
  | [] => none
  | [x] => some x
  | _ :: y :: l => lastN (y :: l)
def bornX (n : Nat) : List (CV × CV × Nat) → Option (CV × CV)
  | [] => none
  | (k, v, b) :: l => bif Nat.beq b n then some (k, v) else bornX n l
def entX (H : CH) (x : CV) : Option CV :=
  match x with
  | .ptr b 0 => match H.t.get b with
    | some (.mit (some m) _ seen last) => match lastN seen, H.t.get m with
      | some n, some (.mp es c) => bif Nat.beq c last then (match bornX n es with
        | some (k, v) => some (.tup [k, v])
        | none => none) else none
      | _, _ => none
    | _ => none
  | _ => none
theorem lastN_ok : ∀ {l : List Nat} {n : Nat}, lastN l = some n → (⟨l⟩ : Array Nat).back? = some n := by
  intro l n h
  have : l.getLast? = some n := by
    induction l with
    | nil => cases h
    | cons x l ih =>
      cases l with
      | nil => simpa [lastN] using h
      | cons y l => rw [List.getLast?_cons_cons]; exact ih h
  simpa using this
theorem bornX_ok {n : Nat} : ∀ {es : List (CV × CV × Nat)} {l : List MapEntry}, entR σ es l → ∀ {k v : CV}, bornX n es = some (k, v) → ∃ e, l.find? (·.born == n) = some e ∧ VR σ k e.key ∧ VR σ v e.val := by
  intro es
  induction es with
  | nil => intro l h k v hb; cases hb
  | cons x es ih =>
    intro l h k v hb
    obtain ⟨k', v', b⟩ := x
    unfold entR at h; obtain ⟨e, r, rfl, h1, h2, h3, h4⟩ := h
    simp only [bornX] at hb
    cases hq : Nat.beq b n with
    | true =>
      rw [hq] at hb; cases hb
      exact ⟨e, by rw [List.find?_cons_of_pos (by rw [h3]; simpa using Nat.eq_of_beq_eq_true hq)], h1, h2⟩
    | false =>
      rw [hq] at hb
      obtain ⟨e', g1, g2⟩ := ih h4 hb
      exact ⟨e', by rw [List.find?_cons_of_neg (by rw [h3]; simpa using Nat.ne_of_beq_eq_false hq)]; exact g1, g2⟩
theorem entX_ok (hh : HR P G h0 σ H h) {x y : CV} {v : Value} (hx : entX H x = some y) (hv : VR σ x v) : ∃ w p, v = .pointer p ∧ VR σ y w ∧ ∀ K : Value → Hp → Prop, K w h → enM h p fun a b => K (.tuple ⟨[a, b]⟩) h := by
  unfold entX at hx
  split at hx
  · rename_i b
    unfold VR at hv; obtain ⟨p, hp, rfl⟩ := hv
    split at hx
    · rename_i m since seen last hg
      split at hx
      · rename_i n es c hn hm
        cases hcl : Nat.beq c last with
        | false => rw [hcl] at hx; cases hx
        | true =>
          rw [hcl] at hx
          simp only [cond_true] at hx
          have hcl := Nat.eq_of_beq_eq_true hcl
          subst hcl
          split at hx
          · rename_i k u hb
            cases hx
            obtain ⟨q, z, k1, k2, k3⟩ := hh.obj b _ hg
            rw [hp] at k1; cases k1
            unfold OR at k3
            obtain ⟨r, rfl, hr, h0r, hd⟩ := k3
            have hat : p.at 0 = ⟨p.r, 0, none⟩ := by simp [Pl.at, hd]
            rw [hat]
            cases r with
            | none => exact hr.elim
            | some r =>
              obtain ⟨q, hq, rfl⟩ := hr
              obtain ⟨es', g1, g2⟩ := mp_at hh hm hq
              obtain ⟨e, f1, f2, f3⟩ := bornX_ok g2 hb
              refine ⟨.tuple ⟨[e.key, e.val]⟩, _, rfl, ?_, fun K hK => ?_⟩
              · unfold VR; refine ⟨_, rfl, ?_⟩
                unfold VRs; refine ⟨_, _, rfl, f2, ?_⟩
                unfold VRs; refine ⟨_, _, rfl, f3, ?_⟩
                unfold VRs; rfl
              · unfold enM
                have hf : (⟨es'⟩ : Array MapEntry).find? (·.born == n) = some e := by simpa using f1
                simp only [k2, lastN_ok hn, g1, hf]
                exact ⟨trivial, hK⟩
          · cases hx
      · cases hx
    · cases hx
  · cases hx
end
end Go.Ix

/-
  Two states of the small machine that are one but for the numbers of their blocks.
-/
set_option linter.unusedSimpArgs false
set_option linter.unusedVariables false
namespace Go.Ix
open Go Go.Hw
def pi : List (Nat × Nat × Nat) → Nat → Nat
  | [], b => b
  | (s, n, s') :: l, b => bif Nat.ble s b && Nat.blt b (s + n) then s' + (b - s) else pi l b
mutual
def CV.eqr (π : Nat → Nat) : CV → CV → Bool
  | .int k n, .int k' n' => kindEq k k' && decide (n = n')
  | .bool b, .bool b' => b == b'
  | .str l, .str l' => leq l l'
  | .pnil, .pnil => true
  | .ptr b o, .ptr b' o' => Nat.beq (π b) b' && Nat.beq o o'
  | .snil, .snil => true
  | .slc b o n c, .slc b' o' n' c' => Nat.beq (π b) b' && Nat.beq o o' && Nat.beq n n' && oeq c c'
  | .slz b o l, .slz b' o' l' => Nat.beq (π b) b' && Nat.beq o o' && Nat.beq l l'
  | .mnil, .mnil => true
  | .map b, .map b' => Nat.beq (π b) b'
  | .agg l, .agg l' => CV.eqrs π l l'
  | .tup l, .tup l' => CV.eqrs π l l'
  | .nili, .nili => true
  | .ifc t v, .ifc t' v' => Nat.beq t t' && CV.eqr π v v'
  | .fn f a b, .fn f' a' b' => Nat.beq f f' && CV.eqrs π a a' && CV.eqrs π b b'
  | .nilf, .nilf => true
  | _, _ => false
def CV.eqrs (π : Nat → Nat) : List CV → List CV → Bool
  | [], [] => true
  | x :: l, y :: m => CV.eqr π x y && CV.eqrs π l m
  | _, _ => false
end
section
variable {σ τ : Sig} {π : Nat → Nat}
mutual
theorem CV.eqr_VR (hp : ∀ b p, σ b = some p → τ (π b) = some p) : ∀ (x y : CV) (v : Value), CV.eqr π x y = true → VR σ x v → VR τ y v := by
  intro x y v h hv
  cases x <;> cases y <;> first | (simp [CV.eqr] at h; done) | skip
  case int.int k n k' n' => simp only [CV.eqr, Bool.and_eq_true, decide_eq_true_eq] at h; rw [← kindEq_eq h.1, ← h.2]; exact hv
  case bool.bool => simp [CV.eqr] at h; rw [← h]; exact hv
  case str.str => simp only [CV.eqr] at h; rw [← leq_eq h]; exact hv
  case pnil.pnil => exact hv
  case ptr.ptr =>
    simp only [CV.eqr, Bool.and_eq_true] at h
    rw [← Nat.eq_of_beq_eq_true h.1, ← Nat.eq_of_beq_eq_true h.2]
    unfold VR at hv ⊢; obtain ⟨p, h1, h2⟩ := hv; exact ⟨p, hp _ _ h1, h2⟩
  case snil.snil => exact hv
  case slc.slc b o n c b' o' n' c' =>
    simp only [CV.eqr, Bool.and_eq_true] at h
    rw [← Nat.eq_of_beq_eq_true h.1.1.1, ← Nat.eq_of_beq_eq_true h.1.1.2, ← Nat.eq_of_beq_eq_true h.1.2, ← oeq_eq h.2]
    cases c with
    | some c => unfold VR at hv ⊢; obtain ⟨p, h1, h2⟩ := hv; exact ⟨p, hp _ _ h1, h2⟩
    | none => unfold VR at hv ⊢; obtain ⟨p, c, h1, h2⟩ := hv; exact ⟨p, c, hp _ _ h1, h2⟩
  case slz.slz =>
    simp only [CV.eqr, Bool.and_eq_true] at h
    rw [← Nat.eq_of_beq_eq_true h.1.1, ← Nat.eq_of_beq_eq_true h.1.2, ← Nat.eq_of_beq_eq_true h.2]
    unfold VR at hv ⊢; obtain ⟨p, c, h1, h2⟩ := hv; exact ⟨p, c, hp _ _ h1, h2⟩
  case mnil.mnil => exact hv
  case map.map =>
    simp only [CV.eqr] at h
    rw [← Nat.eq_of_beq_eq_true h]
    unfold VR at hv ⊢; obtain ⟨p, h1, h2⟩ := hv; exact ⟨p, hp _ _ h1, h2⟩
  case agg.agg l m => simp only [CV.eqr] at h; unfold VR at hv ⊢; obtain ⟨vs, h1, h2⟩ := hv; exact ⟨vs, h1, CV.eqrs_VR hp l m vs h h2⟩
  case tup.tup l m => simp only [CV.eqr] at h; unfold VR at hv ⊢; obtain ⟨vs, h1, h2⟩ := hv; exact ⟨vs, h1, CV.eqrs_VR hp l m vs h h2⟩
  case nili.nili => exact hv
  case ifc.ifc t x t' x' =>
    simp only [CV.eqr, Bool.and_eq_true] at h
    rw [← Nat.eq_of_beq_eq_true h.1]
    unfold VR at hv ⊢; obtain ⟨w, h1, h2⟩ := hv; exact ⟨w, h1, CV.eqr_VR hp x x' w h.2 h2⟩
  case fn.fn f a b f' a' b' =>
    simp only [CV.eqr, Bool.and_eq_true] at h
    rw [← Nat.eq_of_beq_eq_true h.1.1]
    unfold VR at hv ⊢; obtain ⟨xs, ys, h1, h2, h3⟩ := hv
    exact ⟨xs, ys, h1, CV.eqrs_VR hp a a' xs h.1.2 h2, CV.eqrs_VR hp b b' ys h.2 h3⟩
  case nilf.nilf => exact hv
theorem CV.eqrs_VR (hp : ∀ b p, σ b = some p → τ (π b) = some p) : ∀ (l m : List CV) (vs : List Value), CV.eqrs π l m = true → VRs σ l vs → VRs τ m vs := by
  intro l m vs h hv
  cases l <;> cases m <;> first | (simp [CV.eqrs] at h; done) | skip
  case nil.nil => exact hv
  case cons.cons x l y m =>
    simp only [CV.eqrs, Bool.and_eq_true] at h
    unfold VRs at hv ⊢; obtain ⟨v, r, h1, h2, h3⟩ := hv
    exact ⟨v, r, h1, CV.eqr_VR hp x y v h.1 h2, CV.eqrs_VR hp l m r h.2 h3⟩
end
theorem CV.eqrs_get : ∀ {l m : List CV}, CV.eqrs π l m = true → l.length = m.length ∧ ∀ {i : Nat} {y : CV}, m[i]? = some y → ∃ x, l[i]? = some x ∧ CV.eqr π x y = true := by
  intro l
  induction l with
  | nil => intro m h; cases m with
    | nil => exact ⟨rfl, fun h => by simp at h⟩
    | cons => cases h
  | cons x l ih =>
    intro m h
    cases m with
    | nil => cases h
    | cons y m =>
      simp only [CV.eqrs, Bool.and_eq_true] at h
      obtain ⟨h1, h2⟩ := ih h.2
      refine ⟨by simp [h1], ?_⟩
      intro i z hz
      cases i with
      | zero => simp at hz; subst hz; exact ⟨x, rfl, h.1⟩
      | succ i => simp at hz; obtain ⟨u, g1, g2⟩ := h2 hz; exact ⟨u, by simpa using g1, g2⟩
def entEq (π : Nat → Nat) : List (CV × CV × Nat) → List (CV × CV × Nat) → Bool
  | [], [] => true
  | (k, v, b) :: l, (k', v', b') :: m => CV.eqr π k k' && CV.eqr π v v' && Nat.beq b b' && entEq π l m
  | _, _ => false
def COeq (π : Nat → Nat) : CO → CO → Bool
  | .row o p m e cs, .row o' p' m' e' cs' => (o == o') && (p == p') && (m == m') && Nat.beq e e' && CV.eqrs π cs cs'
  | .tab cs, .tab cs' => CV.eqrs π cs cs'
  | .mp es c, .mp es' c' => entEq π es es' && Nat.beq c c'
  | .sit l n, .sit l' n' => leq l l' && Nat.beq n n'
  | .mit m s e l, .mit m' s' e' l' => (match m, m' with | none, none => true | some b, some b' => Nat.beq (π b) b' | _, _ => false) && Nat.beq s s' && leq e e' && Nat.beq l l'
  | _, _ => false
theorem entEq_ok (hp : ∀ b p, σ b = some p → τ (π b) = some p) : ∀ {es fs : List (CV × CV × Nat)} {l : List MapEntry}, entEq π es fs = true → entR σ es l → entR τ fs l := by
  intro es
  induction es with
  | nil => intro fs l h he; cases fs with
    | nil => exact he
    | cons x fs => obtain ⟨a, b, c⟩ := x; cases h
  | cons x es ih =>
    intro fs l h he
    obtain ⟨k, v, b⟩ := x
    cases fs with
    | nil => cases h
    | cons y fs =>
      obtain ⟨k', v', b'⟩ := y
      simp only [entEq, Bool.and_eq_true] at h
      unfold entR at he ⊢
      obtain ⟨e, r, h1, h2, h3, h4, h5⟩ := he
      exact ⟨e, r, h1, CV.eqr_VR hp _ _ _ h.1.1.1 h2, CV.eqr_VR hp _ _ _ h.1.1.2 h3, by rw [h4]; exact Nat.eq_of_beq_eq_true h.1.2, ih h.2 h5⟩
theorem COeq_ok {P : Program} {h0 : Hp} (hp : ∀ b p, σ b = some p → τ (π b) = some p) {p : Pl} {o o' : CO} {x : Obj} (h : COeq π o o' = true) (ho : OR P h0 σ p o x) : OR P h0 τ p o' x := by
  cases o <;> cases o' <;> first | (simp [COeq] at h; done) | skip
  case row.row ow op mk e cs ow' op' mk' e' cs' =>
    simp only [COeq, Bool.and_eq_true, beq_iff_eq] at h
    obtain ⟨⟨⟨⟨rfl, rfl⟩, rfl⟩, he⟩, hcs⟩ := h
    have := Nat.eq_of_beq_eq_true he; subst this
    obtain ⟨hl, hg⟩ := CV.eqrs_get hcs
    unfold OR at ho ⊢
    obtain ⟨vs, lo, hi, h1, h2, h3, h4, h5, h6⟩ := ho
    refine ⟨vs, lo, hi, h1, h2, by omega, fun e => by rw [← hl]; exact h4 e, fun i c hc => ?_, h6⟩
    obtain ⟨u, g1, g2⟩ := hg hc
    obtain ⟨v, k1, k2⟩ := h5 i u g1
    exact ⟨v, k1, CV.eqr_VR hp _ _ _ g2 k2⟩
  case tab.tab cs cs' =>
    simp only [COeq] at h
    obtain ⟨hl, hg⟩ := CV.eqrs_get h
    unfold OR at ho ⊢
    obtain ⟨vs, e, fr, h1, h5⟩ := ho
    refine ⟨vs, e, fr, h1, fun i c hc => ?_⟩
    obtain ⟨u, g1, g2⟩ := hg hc
    obtain ⟨v, k1, k2⟩ := h5 i u g1
    exact ⟨v, k1, CV.eqr_VR hp _ _ _ g2 k2⟩
  case mp.mp es c es' c' =>
    simp only [COeq, Bool.and_eq_true] at h
    have := Nat.eq_of_beq_eq_true h.2; subst this
    unfold OR at ho ⊢
    obtain ⟨l, h1, h2, h3⟩ := ho
    exact ⟨l, h1, entEq_ok hp h.1 h2, h3⟩
  case sit.sit l n l' n' =>
    simp only [COeq, Bool.and_eq_true] at h
    rw [← leq_eq h.1, ← Nat.eq_of_beq_eq_true h.2]; exact ho
  case mit.mit m s e l m' s' e' l' =>
    simp only [COeq, Bool.and_eq_true] at h
    obtain ⟨⟨⟨hm, hs⟩, he⟩, hl⟩ := h
    rw [← Nat.eq_of_beq_eq_true hs, ← leq_eq he, ← Nat.eq_of_beq_eq_true hl]
    unfold OR at ho ⊢
    obtain ⟨r, h1, h2, h3⟩ := ho
    refine ⟨r, h1, ?_, h3⟩
    cases m <;> cases m' <;> cases r <;> first | (simp at hm; done) | exact h2 | skip
    obtain ⟨q, g1, g2⟩ := h2
    exact ⟨q, by rw [← Nat.eq_of_beq_eq_true hm]; exact hp _ _ g1, g2⟩
end
/-! trees -/
def allT {α : Type} (q : Nat → α → Bool) : T α → Nat → Nat → Bool
  | .leaf, _, _ => true
  | .node l v r, a, b => (match v with | some x => q b x | none => true) && (allT q l (2 * a) (a + b) && allT q r (2 * a) (2 * a + b))
theorem allT_get {α : Type} {q : Nat → α → Bool} : ∀ {t : T α} {a b k : Nat} {x : α}, allT q t a b = true → t.get k = some x → q (a * k + b) x = true := by
  intro t
  induction t with
  | leaf => intro a b k x _ h; cases h
  | node l v r ihl ihr =>
    intro a b k x h hg
    simp only [allT, Bool.and_eq_true] at h
    simp only [T.get] at hg
    cases h0 : Nat.beq k 0 with
    | true =>
      rw [h0] at hg
      have := Nat.eq_of_beq_eq_true h0; subst this
      simp only [cond_true] at hg
      rw [hg] at h
      simpa using h.1
    | false =>
      rw [h0] at hg
      have hk := Nat.ne_of_beq_eq_false h0
      simp only [cond_false] at hg
      cases h1 : Nat.beq (k % 2) 1 with
      | true =>
        rw [h1] at hg
        have := ihl h.2.1 hg
        have hk2 := Nat.eq_of_beq_eq_true h1
        have e : 2 * a * (k / 2) + (a + b) = a * k + b := by
          obtain ⟨m, rfl⟩ : ∃ m, k = 2 * m + 1 := ⟨k / 2, by omega⟩
          rw [show (2 * m + 1) / 2 = m by omega, Nat.mul_add, Nat.mul_one, Nat.mul_right_comm, Nat.mul_comm (2 * m) a, ← Nat.mul_assoc, Nat.mul_comm a 2]; omega
        rw [e] at this; exact this
      | false =>
        rw [h1] at hg
        have := ihr h.2.2 hg
        have hk2 := Nat.ne_of_beq_eq_false h1
        have e : 2 * a * (k / 2 - 1) + (2 * a + b) = a * k + b := by
          obtain ⟨m, rfl⟩ : ∃ m, k = 2 * m + 2 := ⟨k / 2 - 1, by omega⟩
          rw [show (2 * m + 2) / 2 - 1 = m by omega, Nat.mul_add, ← Nat.mul_assoc, Nat.mul_comm a 2]; omega
        rw [e] at this; exact this
def ranB (q : Nat → Bool) : Nat → Bool
  | 0 => true
  | n + 1 => q n && ranB q n
theorem ranB_get {q : Nat → Bool} : ∀ {n : Nat}, ranB q n = true → ∀ i, i < n → q i = true := by
  intro n
  induction n with
  | zero => intro _ i h; omega
  | succ n ih =>
    intro h i hi
    simp only [ranB, Bool.and_eq_true] at h
    by_cases e : i = n
    · subst e; exact h.1
    · exact ih h.2 i (by omega)
abbrev Lg := List (Nat × Nat × Nat)
def mapLg (lb : Lg) : Lg → List (Nat × Nat × Nat)
  | [] => []
  | (i, s', e') :: l => (match lb.find? fun x => Nat.beq x.1 i with
    | some (_, s, e) => bif Nat.beq (e - s) (e' - s') && Nat.blt s e then (s, e - s, s') :: mapLg lb l else mapLg lb l
    | none => mapLg lb l)
def swapL : List (Nat × Nat × Nat) → List (Nat × Nat × Nat)
  | [] => []
  | (s, n, s') :: l => (s', n, s) :: swapL l
def oneX (G nx0 : Nat) (lb la : Lg) (eb ea : CE) (HB HA : CH) : Bool :=
  let m := mapLg lb la
  let m' := swapL m
  Nat.beq HA.nx HB.nx && Nat.ble G nx0 && Nat.ble nx0 HA.nx && ranB (fun b => Nat.beq (pi m' (pi m b)) b && Nat.blt (pi m b) HA.nx && Nat.beq (pi m (pi m' b)) b && Nat.blt (pi m' b) HA.nx) HA.nx &&
  ranB (fun b => Nat.beq (pi m' b) b) nx0 &&
  allT (fun a o => Nat.blt a HA.nx && (match HB.t.get (pi m' a) with | some o' => COeq (pi m) o' o | none => false)) HA.t 1 0 &&
  allT (fun t x => match eb.get t with | some y => CV.eqr (pi m) y x | none => false) ea 1 0
theorem oneX_ok {P : Program} {G nx0 : Nat} {h0 : Hp} {lb la : Lg} {eb ea : CE} {HB HA : CH} (hs : oneX G nx0 lb la eb ea HB HA = true) {σ0 σ : Sig} {ρ : Env} {h : Hp} (hfr : ∀ b, nx0 ≤ b → σ0 b = none) (hle : Le σ0 σ)
    (he : ER σ eb ρ) (hh : HR P G h0 σ HB h) : ∃ τ, Le σ0 τ ∧ ER τ ea ρ ∧ HR P G h0 τ HA h := by
  unfold oneX at hs
  simp only [Bool.and_eq_true] at hs
  obtain ⟨⟨⟨⟨⟨⟨s1, s2⟩, s3⟩, s4⟩, s5⟩, s6⟩, s7⟩ := hs
  have hnx := Nat.eq_of_beq_eq_true s1
  have hG := Nat.le_of_ble_eq_true s2
  have hn0 := Nat.le_of_ble_eq_true s3
  have inv : ∀ b, b < HA.nx → pi (swapL (mapLg lb la)) (pi (mapLg lb la) b) = b ∧ pi (mapLg lb la) b < HA.nx ∧ pi (mapLg lb la) (pi (swapL (mapLg lb la)) b) = b ∧ pi (swapL (mapLg lb la)) b < HA.nx := by
    intro b hb
    have := ranB_get s4 b hb
    simp only [Bool.and_eq_true] at this
    exact ⟨Nat.eq_of_beq_eq_true this.1.1.1, by simpa [Nat.blt_eq] using this.1.1.2, Nat.eq_of_beq_eq_true this.1.2, by simpa [Nat.blt_eq] using this.2⟩
  have fix : ∀ b, b < nx0 → pi (swapL (mapLg lb la)) b = b := fun b hb => Nat.eq_of_beq_eq_true (ranB_get s5 b hb)
  generalize mapLg lb la = m at *
  generalize hm' : swapL m = m' at *
  let τ : Sig := fun a => if a < HA.nx then σ (pi m' a) else none
  have hp : ∀ b p, σ b = some p → τ (pi m b) = some p := by
    intro b p hb
    have hlt : b < HA.nx := by
      rcases Nat.lt_or_ge b HA.nx with h1 | h1
      · exact h1
      · rw [hh.fresh b (by omega)] at hb; cases hb
    obtain ⟨i1, i2, _, _⟩ := inv b hlt
    show (if pi m b < HA.nx then σ (pi m' (pi m b)) else none) = some p
    rw [if_pos i2, i1]; exact hb
  refine ⟨τ, ?_, ?_, ?_, ?_, ?_, hh.keep, ?_⟩
  · intro b p hb
    have hlt : b < nx0 := by
      rcases Nat.lt_or_ge b nx0 with h1 | h1
      · exact h1
      · rw [hfr b h1] at hb; cases hb
    show (if b < HA.nx then σ (pi m' b) else none) = some p
    rw [if_pos (by omega), fix b hlt]; exact hle _ _ hb
  · intro t x hx
    have := allT_get s7 hx
    simp only [Nat.one_mul, Nat.add_zero] at this
    split at this
    · rename_i y hy
      obtain ⟨v, g1, g2⟩ := he t y hy
      exact ⟨v, g1, CV.eqr_VR hp _ _ _ this g2⟩
    · cases this
  · intro a o ho
    have := allT_get s6 ho
    simp only [Nat.one_mul, Nat.add_zero, Bool.and_eq_true] at this
    obtain ⟨q1, q2⟩ := this
    have hlt : a < HA.nx := by simpa [Nat.blt_eq] using q1
    split at q2
    · rename_i o' ho'
      obtain ⟨p, x, g1, g2, g3⟩ := hh.obj _ _ ho'
      refine ⟨p, x, ?_, g2, COeq_ok hp q2 g3⟩
      show (if a < HA.nx then σ (pi m' a) else none) = some p
      rw [if_pos hlt]; exact g1
    · cases q2
  · intro a a' o o' p p' ga ga' hne hpa hpa'
    have q1 := allT_get s6 ga
    have q2 := allT_get s6 ga'
    simp only [Nat.one_mul, Nat.add_zero, Bool.and_eq_true] at q1 q2
    have l1 : a < HA.nx := by simpa [Nat.blt_eq] using q1.1
    have l2 : a' < HA.nx := by simpa [Nat.blt_eq] using q2.1
    have r1 := q1.2
    have r2 := q2.2
    split at r1
    · rename_i b hb
      split at r2
      · rename_i b' hb'
        have e1 : σ (pi m' a) = some p := by
          have : (if a < HA.nx then σ (pi m' a) else none) = some p := hpa
          rwa [if_pos l1] at this
        have e2 : σ (pi m' a') = some p' := by
          have : (if a' < HA.nx then σ (pi m' a') else none) = some p' := hpa'
          rwa [if_pos l2] at this
        refine hh.inj _ _ _ _ p p' hb hb' ?_ e1 e2
        intro e
        have i1 := (inv a l1).2.2.1
        have i2 := (inv a' l2).2.2.1
        rw [e] at i1
        exact hne (i1.symm.trans i2)
      · cases r2
    · cases r1
  · intro b hb
    show (if b < HA.nx then σ (pi m' b) else none) = none
    rw [if_neg (by omega)]
  · intro g hg
    obtain ⟨p, g1, g2⟩ := hh.glob g hg
    refine ⟨p, ?_, g2⟩
    show (if g < HA.nx then σ (pi m' g) else none) = some p
    rw [if_pos (by omega), fix g (by omega)]; exact g1
end Go.Ix
