/-
  Maps that are read, lengths, the least and the greatest; then all operations that only compute or read, in one.
-/
import Derived.Test.YtedklcmdjoojfaaDoorPg
import Derived.Test.YtedklcmdjoojfaaDoorPc
import Derived.Test.YtedklcmdjoojfaaDoorRows
import Derived.Test.YtedklcmdjoojfaaDoorTie
import Derived.Test.YtedklcmdjoojfaaDoorCards
import Derived.Stop.LaidErr
import Derived.Lib.LaidTab
import Derived.Shelf.Vars
import Derived.SevenTiedAt
set_option linter.unusedSimpArgs false
set_option linter.unusedVariables false
namespace Go.Ix
open Go Go.Hw

section
variable {P : Program} {E : Nat → Bool} {G : Nat} {h0 : Hp} {σ : Sig} {H : CH} {h : Hp} {env : CE} {ρ : Env}

/-! ### maps -/
def sameX : TypeDesc → CV → CV → Option Bool
  | .int _, .int k a, .int k' b => bif kindEq k k' then some (decide (a = b)) else none
  | .string, .str a, .str b => some (leq a b)
  | .bool, .bool a, .bool b => some (a == b)
  | _, _, _ => none
theorem sameX_ok {kd : TypeDesc} {x y : CV} {v w : Value} {b : Bool} (hx : sameX kd x y = some b) (hv : VR σ x v) (hw : VR σ y w) : Instr.sameNow kd v w = some b := by
  unfold sameX at hx
  split at hx
  · obtain ⟨hk, rfl⟩ := condN hx
    unfold VR at hv hw; subst hv; subst hw
    unfold Instr.sameNow
    simp only [kindEq_eq hk, if_true]; simp [BEq.beq]
  · cases hx; unfold VR at hv hw; obtain ⟨s, rfl, rfl⟩ := hv; obtain ⟨s', rfl, rfl⟩ := hw
    unfold Instr.sameNow; simp only []; rw [ba_beq]
  · cases hx; unfold VR at hv hw; subst hv; subst hw; unfold Instr.sameNow; rfl
  · cases hx
def findX (kd : TypeDesc) (k : CV) : List (CV × CV × Nat) → Nat → Option (Option (Nat × CV))
  | [], _ => some none
  | (a, v, _) :: l, i => match sameX kd k a with
    | some true => some (some (i, v))
    | some false => findX kd k l (i + 1)
    | none => none
def fR (σ : Sig) : Option (Nat × CV) → Option (Nat × Value) → Prop
  | none, none => True
  | some (i, x), some (j, v) => i = j ∧ VR σ x v
  | _, _ => False
theorem findX_ok {kd : TypeDesc} {k : CV} {w : Value} (hk : VR σ k w) : ∀ {es : List (CV × CV × Nat)} {l : List MapEntry} {i : Nat} {r : Option (Nat × CV)}, findX kd k es i = some r → entR σ es l →
    ∃ q, Instr.findNow kd w l i = some q ∧ fR σ r q := by
  intro es
  induction es with
  | nil => intro l i r hr he; cases hr; unfold entR at he; subst he; exact ⟨none, rfl, trivial⟩
  | cons e es ih =>
    intro l i r hr he
    obtain ⟨a, v, b⟩ := e
    unfold entR at he; obtain ⟨e', l, rfl, h1, h2, h3, h4⟩ := he
    simp only [findX] at hr
    unfold Instr.findNow
    split at hr
    · rename_i hs; cases hr
      rw [sameX_ok hs hk h1]; exact ⟨_, rfl, rfl, h2⟩
    · rename_i hs
      rw [sameX_ok hs hk h1]; exact ih hr h4
    · cases hr
def vkOk (P : Program) (t : TypeId) (x : CV) : Bool := match vtOf P t with
  | .c c => kOk c x
  | .agg cs => match x with
    | .agg l => ksOk cs l
    | _ => false
theorem kOk_on {c : CT} {x : CV} {v : Value} (hk : kOk c x = true) (hr : VR σ x v) {F : c.T → Prop} (hf : ∀ y : c.T, c.mk y = v → F y) : c.on (some v) F := by
  cases c <;> cases x <;> first | (simp [kOk] at hk; done) | skip
  case int.int k k' n =>
    unfold VR at hr; subst hr
    simp only [kOk] at hk
    simp only [CT.on, xI]
    rw [hk]; exact hf n (by rw [kindEq_eq hk]; rfl)
  case bool.bool => unfold VR at hr; subst hr; exact hf _ rfl
  case str.str => unfold VR at hr; obtain ⟨s, rfl, _⟩ := hr; exact hf _ rfl
  case ptr.pnil => unfold VR at hr; subst hr; exact hf _ rfl
  case ptr.ptr => unfold VR at hr; obtain ⟨p, _, rfl⟩ := hr; exact hf _ rfl
  case slice.snil => unfold VR at hr; subst hr; exact hf _ rfl
  case slice.slc b o n c => obtain ⟨p, c', _, rfl⟩ := slc_ok hr; exact hf _ rfl
  case slice.slz b o l => unfold VR at hr; obtain ⟨p, c, _, rfl, _⟩ := hr; exact hf _ rfl
  case map.mnil => unfold VR at hr; subst hr; exact hf _ rfl
  case map.map => unfold VR at hr; obtain ⟨p, _, rfl⟩ := hr; exact hf _ rfl
  all_goals exact hf _ rfl
theorem ksOk_on : ∀ {cs : List CT} {l : List CV} {vs : List Value} {F : TL cs → Prop}, ksOk cs l = true → VRs σ l vs → (∀ y : TL cs, TL.mk cs y = vs → F y) → TL.on cs vs F
  | [], l, vs, F, hk, hv, hf => by
    cases l with
    | nil => unfold VRs at hv; subst hv; exact hf () rfl
    | cons => cases hk
  | [c], l, vs, F, hk, hv, hf => by
    rcases l with _ | ⟨x, _ | ⟨y, l⟩⟩
    · cases hk
    · unfold VRs at hv; obtain ⟨v, r, rfl, h1, h2⟩ := hv
      unfold VRs at h2; subst h2
      simp only [ksOk, Bool.and_true] at hk
      exact kOk_on hk h1 fun y hy => hf y (by simp [TL.mk, hy])
    · simp [ksOk] at hk
  | c :: d :: cs, l, vs, F, hk, hv, hf => by
    cases l with
    | nil => cases hk
    | cons x l =>
      unfold VRs at hv; obtain ⟨v, r, rfl, h1, h2⟩ := hv
      simp only [ksOk, Bool.and_eq_true] at hk
      exact kOk_on hk.1 h1 fun y hy => ksOk_on (cs := d :: cs) hk.2 h2 fun z hz => hf (y, z) (by simp [TL.mk, hy, hz])
theorem vkOk_on {t : TypeId} {x : CV} {v : Value} (hk : vkOk P t x = true) (hr : VR σ x v) {F : Value → Prop} (hf : F v) : (vtOf P t).on (some v) fun y => F ((vtOf P t).mk y) := by
  unfold vkOk at hk
  generalize vtOf P t = vt at hk ⊢
  split at hk
  · exact kOk_on (F := fun y => F (CT.mk _ y)) hk hr fun y hy => by rw [hy]; exact hf
  · split at hk
    · unfold VR at hr; obtain ⟨vs, rfl, hvs⟩ := hr
      exact ksOk_on hk hvs fun y hy => by show F (.agg ⟨TL.mk _ y⟩); rw [hy]; exact hf
    · cases hk
def z1X (P : Program) (t : TypeId) : Option CV := match P.info? t with
  | some i => match i.zero with
    | some v => ofV v
    | none => none
  | none => none
theorem z1X_ok {t : TypeId} {x : CV} (hz : z1X P t = some x) : ∃ v, VR σ x v ∧ (∀ F : Value → Prop, F v → zv1 P t F) ∧ ∀ K : Value → Hp → Prop, K v h → swp P (zeroValue t) h K := by
  unfold z1X at hz
  split at hz
  · rename_i i hi
    split at hz
    · rename_i v hv
      refine ⟨v, ofV_ok hz, fun F hF => by unfold zv1; rw [hi]; simp only []; rw [hv]; exact hF, fun K hK => ?_⟩
      unfold zeroValue
      rw [swp_bind']
      refine typeInfo_swp hi ?_
      rw [hv]; exact hK
    · cases hz
  · cases hz
def lkE (P : Program) (et : TypeId) (ok : Bool) (kd : TypeDesc) (k : CV) (es : List (CV × CV × Nat)) : Option CV :=
  match findX kd k es 0, z1X P et with
  | some (some (_, v)), some _ => bif vkOk P et v then some (bif ok then .tup [v, .bool true] else v) else none
  | some none, some z => bif vkOk P et z then some (bif ok then .tup [z, .bool false] else z) else none
  | _, _ => none
def lkX (P : Program) (H : CH) (t : TypeId) (m k : CV) (ok : Bool) : Option CV :=
  match P.underlying t with
  | some (.map kt et) => match P.underlying kt with
    | some kd => bif plainKey kd then (match m with
      | .mnil => lkE P et ok kd k []
      | .map b => match H.t.get b with
        | some (.mp es _) => lkE P et ok kd k es
        | _ => none
      | _ => none) else none
    | none => none
  | _ => none
theorem lkE_ok {et : TypeId} {ok : Bool} {kd : TypeDesc} {k : CV} {w : Value} (hk : VR σ k w) {es : List (CV × CV × Nat)} {l : List MapEntry} (he : entR σ es l) {y : CV} (hx : lkE P et ok kd k es = some y) :
    ∃ u, VR σ y u ∧ ∀ F : Value → Prop, F u → keyAt kd w l (lkR P et ok F) := by
  unfold lkE at hx
  split at hx
  · rename_i i v z hf hz
    obtain ⟨hkk, rfl⟩ := condN hx
    obtain ⟨q, hq, hr⟩ := findX_ok hk hf he
    obtain ⟨zv, _, hz2, _⟩ := z1X_ok (σ := σ) (h := fun _ => none) hz
    cases q with
    | none => exact hr.elim
    | some q =>
      obtain ⟨j, u⟩ := q
      obtain ⟨_, hu⟩ := hr
      refine ⟨bif ok then .tuple ⟨[u, .bool true]⟩ else u, ?_, fun F hF => ?_⟩
      · cases ok
        · exact hu
        · simp only [cond_true]; unfold VR; refine ⟨_, rfl, ?_⟩
          unfold VRs; refine ⟨_, _, rfl, hu, ?_⟩
          unfold VRs; exact ⟨_, _, rfl, by unfold VR; rfl, by unfold VRs; rfl⟩
      · unfold keyAt; rw [hq]; simp only []
        unfold lkR
        refine hz2 _ ?_
        refine vkOk_on (F := fun x => F (bif ok then .tuple ⟨[x, .bool true]⟩ else x)) hkk hu ?_
        exact hF
  · rename_i z hf hz
    obtain ⟨hkk, rfl⟩ := condN hx
    obtain ⟨q, hq, hr⟩ := findX_ok hk hf he
    obtain ⟨zv, hzr, hz2, _⟩ := z1X_ok (σ := σ) (h := fun _ => none) hz
    cases q with
    | some q => obtain ⟨j, u⟩ := q; exact hr.elim
    | none =>
      refine ⟨bif ok then .tuple ⟨[zv, .bool false]⟩ else zv, ?_, fun F hF => ?_⟩
      · cases ok
        · exact hzr
        · simp only [cond_true]; unfold VR; refine ⟨_, rfl, ?_⟩
          unfold VRs; refine ⟨_, _, rfl, hzr, ?_⟩
          unfold VRs; exact ⟨_, _, rfl, by unfold VR; rfl, by unfold VRs; rfl⟩
      · unfold keyAt; rw [hq]; simp only []
        unfold lkR
        refine hz2 _ ?_
        refine vkOk_on (F := fun x => F (bif ok then .tuple ⟨[x, .bool false]⟩ else x)) hkk hzr ?_
        exact hF
  · cases hx
theorem mp_at (hh : HR P G h0 σ H h) {b : Nat} {es : List (CV × CV × Nat)} {c : Nat} (hg : H.t.get b = some (.mp es c)) {p : Pl} (hp : σ b = some p) : ∃ l : List MapEntry, h p.r = some (.map ⟨l⟩ c) ∧ entR σ es l := by
  obtain ⟨q, x, h1, h2, h3⟩ := hh.obj b _ hg
  rw [hp] at h1; cases h1
  unfold OR at h3
  obtain ⟨l, rfl, he, _⟩ := h3
  exact ⟨l, h2, he⟩
theorem lkX_ok (hh : HR P G h0 σ H h) {t : TypeId} {m k y : CV} {ok : Bool} {vm vk : Value} (hx : lkX P H t m k ok = some y) (hm : VR σ m vm) (hk : VR σ k vk) :
    ∃ u, VR σ y u ∧ ∀ F : Value → Prop, F u → lkK P t vm vk ok h F := by
  unfold lkX at hx
  unfold lkK
  split at hx
  · rename_i kt et hu
    rw [hu]; simp only []
    split at hx
    · rename_i kd hkd
      rw [hkd]; simp only []
      cases hp : plainKey kd with
      | false => rw [hp] at hx; cases hx
      | true =>
        rw [hp] at hx
        simp only [cond_true] at hx ⊢
        split at hx
        · unfold VR at hm; subst hm
          obtain ⟨u, h1, h2⟩ := lkE_ok hk (l := []) (by unfold entR; rfl) hx
          exact ⟨u, h1, fun F hF => h2 F hF⟩
        · rename_i b
          split at hx
          · rename_i es c hg
            unfold VR at hm; obtain ⟨p, hpb, rfl⟩ := hm
            obtain ⟨l, g1, g2⟩ := mp_at hh hg hpb
            obtain ⟨u, h1, h2⟩ := lkE_ok hk g2 hx
            refine ⟨u, h1, fun F hF => ?_⟩
            unfold xMap; simp only []; rw [g1]; exact h2 F hF
          · cases hx
        · cases hx
    · cases hx
  · cases hx

/-! ### lengths, the least, the greatest -/
def lenX (P : Program) (H : CH) (t : TypeId) (x : CV) : Option Nat :=
  match P.underlying t with
  | some .string => match x with | .str l => some l.length | _ => none
  | some (.slice _) => match x with
    | .snil => some 0
    | .slc _ _ n _ => some n
    | .slz _ _ _ => some 0
    | _ => none
  | some (.array n _) => some n
  | some (.pointer e) => match P.underlying e with | some (.array n _) => some n | _ => none
  | some (.map _ _) => match x with
    | .mnil => some 0
    | .map b => match H.t.get b with
      | some (.mp es _) => some es.length
      | _ => none
    | _ => none
  | _ => none
theorem entR_len : ∀ {es : List (CV × CV × Nat)} {l : List MapEntry}, entR σ es l → l.length = es.length := by
  intro es
  induction es with
  | nil => intro l h; unfold entR at h; rw [h]; rfl
  | cons e es ih => intro l h; obtain ⟨a, b, c⟩ := e; unfold entR at h; obtain ⟨e, r, rfl, _, _, _, h⟩ := h; simp [ih h]
theorem lenX_ok (hh : HR P G h0 σ H h) {t : TypeId} {x : CV} {n : Nat} {v : Value} (hx : lenX P H t x = some n) (hv : VR σ x v) {F : Nat → Prop} (hF : F n) : lenK P t v h F := by
  unfold lenX at hx
  unfold lenK
  split at hx
  · rename_i hu; rw [hu]; simp only []
    split at hx
    · cases hx; unfold VR at hv; obtain ⟨s, rfl, rfl⟩ := hv; rw [bl_len] at hF; exact hF
    · cases hx
  · rename_i hu; rw [hu]; simp only []
    split at hx
    · cases hx; unfold VR at hv; subst hv; exact hF
    · cases hx; obtain ⟨p, c', _, rfl⟩ := slc_ok hv; exact hF
    · cases hx; unfold VR at hv; obtain ⟨p, c, _, rfl, _⟩ := hv; exact hF
    · cases hx
  · rename_i hu; rw [hu]; cases hx; exact hF
  · rename_i e hu; rw [hu]; simp only []
    split at hx
    · rename_i he; rw [he]; cases hx; exact hF
    · cases hx
  · rename_i hu; rw [hu]; simp only []
    split at hx
    · cases hx; unfold VR at hv; subst hv; exact hF
    · split at hx
      · rename_i hg
        cases hx; unfold VR at hv; obtain ⟨p, hp, rfl⟩ := hv
        obtain ⟨l, g1, g2⟩ := mp_at hh hg hp
        unfold xMap; simp only []; rw [g1]
        show F l.length
        rw [entR_len g2]; exact hF
      · cases hx
    · cases hx
  · cases hx
def mmX (f : Int → Int → Int) : Int → List CV → Option Int
  | a, [] => some a
  | a, .int _ b :: l => mmX f (f a b) l
  | _, _ => none
theorem mmX_ok {f : Int → Int → Int} {k : IntKind} : ∀ {l : List CV} {a r : Int} {vs : List Value}, mmX f a l = some r → VRs σ l vs → ∀ F : Value → Prop, F (.int k r) → mmK f k a vs F := by
  intro l
  induction l with
  | nil => intro a r vs hx hv F hF; cases hx; unfold VRs at hv; subst hv; exact hF
  | cons x l ih =>
    intro a r vs hx hv F hF
    unfold VRs at hv; obtain ⟨v, vs, rfl, h1, h2⟩ := hv
    cases x <;> first | (simp [mmX] at hx; done) | skip
    unfold VR at h1; subst h1
    exact ih hx h2 F hF
def mmsX (f : Int → Int → Int) (l : List CV) : Option CV := match l with
  | .int k a :: l => match mmX f a l with
    | some r => some (.int k r)
    | none => none
  | _ => none
theorem mmsX_ok {f : Int → Int → Int} {l : List CV} {vs : List Value} {y : CV} (hx : mmsX f l = some y) (hv : VRs σ l vs) : ∃ w, VR σ y w ∧ ∀ F : Value → Prop, F w → mmsK f vs F := by
  unfold mmsX at hx
  split at hx
  · split at hx
    · rename_i r hr
      cases hx
      unfold VRs at hv; obtain ⟨v, vs, rfl, h1, h2⟩ := hv
      unfold VR at h1; subst h1
      exact ⟨_, by unfold VR; rfl, fun F hF => mmX_ok hr h2 F hF⟩
    · cases hx
  · cases hx
def vbX (P : Program) (H : CH) (b : Builtin) (ts : List TypeId) (l : List CV) : Option CV :=
  match b, ts, l with
  | .len, t :: _, [x] => match lenX P H t x with
    | some n => some (.int .i64 n)
    | none => none
  | .cap, t :: _, [x] => match P.underlying t with
    | some (.slice _) => match x with
      | .snil => some (.int .i64 0)
      | .slc _ _ _ (some c) => some (.int .i64 c)
      | _ => none
    | _ => none
  | .min, _, l => mmsX mn l
  | .max, _, l => mmsX mx l
  | _, _, _ => none
theorem vbX_known {b : Builtin} {ts : List TypeId} {l : List CV} {y : CV} (hx : vbX P H b ts l = some y) : knownB b = true := by
  unfold vbX at hx
  split at hx <;> first | rfl | cases hx
theorem vbX_ok (hh : HR P G h0 σ H h) {b : Builtin} {ts : List TypeId} {l : List CV} {vs : List Value} {y : CV} (hx : vbX P H b ts l = some y) (hv : VRs σ l vs) : ∃ w, VR σ y w ∧ ∀ K : Value → Hp → Prop, K w h → bltK P b ts vs h K := by
  unfold vbX at hx
  split at hx
  · split at hx
    · rename_i n hn
      cases hx
      unfold VRs at hv; obtain ⟨v, r, rfl, h1, h2⟩ := hv
      unfold VRs at h2; subst h2
      refine ⟨.int .i64 n, by unfold VR; rfl, fun K hK => ?_⟩
      unfold bltK; exact lenX_ok hh hn h1 hK
    · cases hx
  · split at hx
    · rename_i hu
      unfold VRs at hv; obtain ⟨v, r, rfl, h1, h2⟩ := hv
      unfold VRs at h2; subst h2
      split at hx
      · cases hx; unfold VR at h1; subst h1
        exact ⟨_, by unfold VR; rfl, fun K hK => by unfold bltK; simp only []; rw [hu]; exact hK⟩
      · cases hx; unfold VR at h1; obtain ⟨p, _, rfl⟩ := h1
        exact ⟨_, by unfold VR; rfl, fun K hK => by unfold bltK; simp only []; rw [hu]; exact hK⟩
      · cases hx
    · cases hx
  · obtain ⟨w, h1, h2⟩ := mmsX_ok hx hv
    exact ⟨w, h1, fun K hK => by unfold bltK; exact h2 _ hK⟩
  · obtain ⟨w, h1, h2⟩ := mmsX_ok hx hv
    exact ⟨w, h1, fun K hK => by unfold bltK; exact h2 _ hK⟩
  · cases hx

/-! ### all of them -/
def evPs (G : Nat) (env : CE) : List (Nat × Operand) → Option (List (Nat × CV))
  | [] => some []
  | (i, x) :: l => match evC G env x, evPs G env l with
    | some c, some r => some ((i, c) :: r)
    | _, _ => none
theorem evPs_ok (he : ER σ env ρ) (hh : HR P G h0 σ H h) : ∀ {l : List (Nat × Operand)} {r : List (Nat × CV)}, evPs G env l = some r → psR σ r (l.map fun (i, x) => (i, evD ρ x)) ∧ okAll ρ (l.map (·.2)) = true := by
  intro l
  induction l with
  | nil => intro r hr; cases hr; exact ⟨by unfold psR; rfl, rfl⟩
  | cons p l ih =>
    intro r hr
    obtain ⟨i, x⟩ := p
    simp only [evPs] at hr
    split at hr
    · rename_i c r' hc hr'
      cases hr
      obtain ⟨v, hv, hvr⟩ := evC_ok hc he hh
      obtain ⟨h1, h2⟩ := ih hr'
      refine ⟨?_, by simp [okAll, (some1 hv).1]; simpa using h2⟩
      unfold psR
      exact ⟨v, _, by simp [(some1 hv).2], hvr, h1⟩
    · cases hr
def taX (P : Program) (x : CV) (ty : TypeId) (ok : Bool) : Option CV :=
  match P.underlying ty with
  | some (.interface _) => none
  | some _ => match x with
    | .ifc t v => bif Nat.beq t ty then some (bif ok then .tup [v, .bool true] else v) else bif ok then (match z1X P ty with | some z => some (.tup [z, .bool false]) | none => none) else none
    | _ => none
  | none => none
theorem taX_ok {x y : CV} {xt ty : TypeId} {ok : Bool} {v : Value} (hx : taX P x ty ok = some y) (hv : VR σ x v) : ∃ w, VR σ y w ∧ ∀ K : Value → Hp → Prop, K w h → swp P (Instr.typeAssert v xt ty ok) h K := by
  unfold taX at hx
  split at hx
  · cases hx
  · rename_i d hn hu
    split at hx
    · rename_i t z
      unfold VR at hv; obtain ⟨w, rfl, hw⟩ := hv
      cases hb : Nat.beq t ty with
      | true =>
        rw [hb] at hx; cases hx
        have := Nat.eq_of_beq_eq_true hb; subst this
        refine ⟨bif ok then .tuple ⟨[w, .bool true]⟩ else w, ?_, fun K hK => ?_⟩
        · cases ok
          · exact hw
          · simp only [cond_true]; unfold VR; refine ⟨_, rfl, ?_⟩
            unfold VRs; refine ⟨_, _, rfl, hw, ?_⟩
            unfold VRs; exact ⟨_, _, rfl, by unfold VR; rfl, by unfold VRs; rfl⟩
        · unfold Instr.typeAssert
          simp only [swp_bind']
          refine underlying_swp hu ?_
          cases d <;> first | (simp only [if_true]; cases ok <;> exact hK) | exact absurd rfl (hn _)
      | false =>
        rw [hb] at hx
        have hne := Nat.ne_of_beq_eq_false hb
        cases ok with
        | false => cases hx
        | true =>
          simp only [cond_false, cond_true] at hx
          split at hx
          · rename_i z hz
            cases hx
            obtain ⟨zv, hzr, _, hzs⟩ := z1X_ok (σ := σ) (h := h) hz
            refine ⟨.tuple ⟨[zv, .bool false]⟩, ?_, fun K hK => ?_⟩
            · unfold VR; refine ⟨_, rfl, ?_⟩
              unfold VRs; refine ⟨_, _, rfl, hzr, ?_⟩
              unfold VRs; exact ⟨_, _, rfl, by unfold VR; rfl, by unfold VRs; rfl⟩
            · unfold Instr.typeAssert
              simp only [swp_bind']
              refine underlying_swp hu ?_
              cases d <;> first | (simp only [if_neg hne, if_true, swp_bind']; exact hzs _ hK) | exact absurd rfl (hn _)
          · cases hx
    · cases hx
  · cases hx
def vX (P : Program) (G : Nat) (H : CH) (env : CE) (o : Oper) : Option CV :=
  match o.op with
  | .move x => evC G env x
  | .assign x => evC G env x
  | .pick c a b => match evC G env c, evC G env a, evC G env b with
    | some (.bool c), some x, some y => some (bif c then x else y)
    | _, _, _ => none
  | .load t x => match evC G env x with
    | some (.ptr b o) => bif (P.underlying t).isSome then ldX P H t b o else none
    | _ => none
  | .nilCheck x => match evC G env x with
    | some x => nilX x
    | none => none
  | .fieldAddr s x f => match evC G env x with
    | some x => faX P s f x
    | none => none
  | .indexAddr t x i => match evC G env x, evC G env i with
    | some x, some i => iaX P t x i
    | _, _ => none
  | .index t x i => match evC G env x, evC G env i with
    | some x, some i => ixX P t x i
    | _, _ => none
  | .slice t x lo hi mx => match evC G env x, evO G env lo, evO G env hi, evO G env mx with
    | some x, some lo, some hi, some mx => slX P H t x lo hi mx
    | _, _, _, _ => none
  | .convert s d x => match evC G env x with
    | some x => cvX P H s d x
    | none => none
  | .binOp op t x y _ => match evC G env x, evC G env y with
    | some a, some b => binX P H op t (isC y) a b
    | _, _ => none
  | .lookup t m k ok => match evC G env m, evC G env k with
    | some m, some k => lkX P H t m k ok
    | _, _ => none
  | .unOp op _ x => match evC G env x with
    | some x => unX op x
    | none => none
  | .field t x f => match evC G env x with
    | some x => fdX P t x f
    | none => none
  | .extract x i => match evC G env x with
    | some x => exX P o.type x i
    | none => none
  | .makeInterface t x => match evC G env x with
    | some x => miX P t x
    | none => none
  | .build t ps => match evPs G env ps.toList with
    | some ps => buX P t ps
    | none => none
  | .typeAssert x _ t ok => match evC G env x with
    | some x => taX P x t ok
    | none => none
  | .makeFunc fn a b => match fn with
    | .func f => match evCs G env a.toList, evCs G env b.toList with
      | some a, some b => some (.fn f a b)
      | _, _ => none
    | _ => none
  | .call ⟨.builtin b, args, ts⟩ => match evCs G env args.toList with
    | some l => vbX P H b ts.toList l
    | none => none
  | _ => none

theorem some_any {o : Oper} {K : Value → Hp → Prop} {s : Sem Value} {l : List Operand} (hl : o.op.operands.toList = l) (hs : isSel o.op = false) (ho : okAll ρ l = true)
    (he : execOp (evD ρ) o = do let x ← s; pure (Next.value x)) (hk : swp P s h K) : someAny ρ P o h K := by
  unfold someAny
  rw [hl, ho, hs]
  show opS P o (evD ρ) h K
  unfold opS
  rw [he]
  exact vswp hk
theorem ok1 {x : Operand} {v : Value} (hv : ev ρ x = some v) : okAll ρ [x] = true := by simp [okAll, (some1 hv).1]

set_option maxRecDepth 2000 in
theorem vX_ok (he : ER σ env ρ) (hh : HR P G h0 σ H h) {o : Oper} {y : CV} (hx : vX P G H env o = some y) : ∃ v, VR σ y v ∧ ∀ K : Value → Hp → Prop, K v h → opK P E o ρ h K := by
  obtain ⟨dst, op, type, pos, after, guard⟩ := o
  unfold vX at hx
  cases op <;> simp only [] at hx <;> first | (cases hx; done) | skip
  case move x =>
    obtain ⟨v, hv, hr⟩ := evC_ok hx he hh
    exact ⟨v, hr, fun K hK => by unfold opK; exact mv_ok hv hK⟩
  case assign x =>
    obtain ⟨v, hv, hr⟩ := evC_ok hx he hh
    exact ⟨v, hr, fun K hK => by unfold opK; exact mv_ok hv hK⟩
  case pick c a b =>
    split at hx
    · rename_i c' x' y' hc ha hb
      cases hx
      obtain ⟨vc, h1, h2⟩ := evC_ok hc he hh
      obtain ⟨va, h3, h4⟩ := evC_ok ha he hh
      obtain ⟨vb, h5, h6⟩ := evC_ok hb he hh
      unfold VR at h2; subst h2
      refine ⟨bif c' then va else vb, by cases c' <;> assumption, fun K hK => ?_⟩
      unfold opK
      refine mv_ok h1 (mv_ok h3 (mv_ok h5 ?_))
      show bif c' then K va h else K vb h
      cases c' <;> exact hK
    · cases hx
  case load t x =>
    split at hx
    · rename_i b o hc
      obtain ⟨v, h1, h2⟩ := evC_ok hc he hh
      cases hu : (P.underlying t).isSome with
      | false => rw [hu] at hx; cases hx
      | true =>
        rw [hu] at hx
        unfold VR at h2; obtain ⟨p, hp, rfl⟩ := h2
        obtain ⟨w, h3, h4⟩ := ldX_ok hh (show ldX P H t b o = some y from hx) hp
        refine ⟨w, h3, fun K hK => ?_⟩
        unfold opK
        refine mv_ok h1 ?_
        rw [hu]
        exact h4 (fun x => K x h) hK
    · cases hx
  case nilCheck x =>
    split at hx
    · rename_i c hc
      obtain ⟨v, h1, h2⟩ := evC_ok hc he hh
      obtain ⟨h3, h4⟩ := nilX_ok hx h2
      exact ⟨v, h3, fun K hK => by unfold opK; exact mv_ok h1 (h4 (fun v => K v h) hK)⟩
    · cases hx
  case fieldAddr s x f =>
    split at hx
    · rename_i c hc
      obtain ⟨v, h1, h2⟩ := evC_ok hc he hh
      obtain ⟨w, h3, h4⟩ := faX_ok hx h2
      exact ⟨w, h3, fun K hK => by unfold opK; exact mv_ok h1 (h4 (fun v => K v h) hK)⟩
    · cases hx
  case indexAddr t x i =>
    split at hx
    · rename_i c ci hc hci
      obtain ⟨v, h1, h2⟩ := evC_ok hc he hh
      obtain ⟨vi, h1', h2'⟩ := evC_ok hci he hh
      obtain ⟨w, h3, h4⟩ := iaX_ok hx h2 h2'
      exact ⟨w, h3, fun K hK => by unfold opK; exact mv_ok h1 (mv_ok h1' (h4 (fun v => K v h) hK))⟩
    · cases hx
  case index t x i =>
    split at hx
    · rename_i c ci hc hci
      obtain ⟨v, h1, h2⟩ := evC_ok hc he hh
      obtain ⟨vi, h1', h2'⟩ := evC_ok hci he hh
      obtain ⟨w, h3, h4⟩ := ixX_ok hx h2 h2'
      exact ⟨w, h3, fun K hK => by unfold opK; exact mv_ok h1 (mv_ok h1' (h4 (fun v => K v h) hK))⟩
    · cases hx
  case slice t x lo hi mx =>
    split at hx
    · rename_i c cl ch cm hc hl hhi hm
      obtain ⟨v, h1, h2⟩ := evC_ok hc he hh
      obtain ⟨vl, l1, l2⟩ := evO_ok he hh hl
      obtain ⟨vh, i1, i2⟩ := evO_ok he hh hhi
      obtain ⟨vm, m1, m2⟩ := evO_ok he hh hm
      obtain ⟨w, h3, h4⟩ := slX_ok hh hx h2 l1 i1 m1
      exact ⟨w, h3, fun K hK => by unfold opK; exact mv_ok h1 (l2 _ (i2 _ (m2 _ (h4 (fun v => K v h) hK))))⟩
    · cases hx
  case convert s d x =>
    split at hx
    · rename_i c hc
      obtain ⟨v, h1, h2⟩ := evC_ok hc he hh
      obtain ⟨w, h3, h4⟩ := cvX_ok hh hx h2
      exact ⟨w, h3, fun K hK => by unfold opK; exact mv_ok h1 (h4 K hK)⟩
    · cases hx
  case binOp op t x y u =>
    split at hx
    · rename_i c ci hc hci
      obtain ⟨v, h1, h2⟩ := evC_ok hc he hh
      obtain ⟨vi, h1', h2'⟩ := evC_ok hci he hh
      obtain ⟨w, h3, h4⟩ := binX_ok hh hx h2 h2'
      exact ⟨w, h3, fun K hK => by unfold opK; exact mv_ok h1 (mv_ok h1' (h4 (fun v => K v h) hK))⟩
    · cases hx
  case lookup t m k ok =>
    split at hx
    · rename_i c ci hc hci
      obtain ⟨v, h1, h2⟩ := evC_ok hc he hh
      obtain ⟨vi, h1', h2'⟩ := evC_ok hci he hh
      obtain ⟨w, h3, h4⟩ := lkX_ok hh hx h2 h2'
      exact ⟨w, h3, fun K hK => by unfold opK; exact mv_ok h1 (mv_ok h1' (h4 (fun v => K v h) hK))⟩
    · cases hx
  case unOp op t x =>
    split at hx
    · rename_i c hc
      obtain ⟨v, h1, h2⟩ := evC_ok hc he hh
      obtain ⟨w, h3, h4⟩ := unX_ok (P := P) (h := h) hx h2
      refine ⟨w, h3, fun K hK => ?_⟩
      unfold opK
      exact some_any rfl rfl (ok1 h1) rfl (by rw [(some1 h1).2]; exact h4 K hK)
    · cases hx
  case field t x f =>
    split at hx
    · rename_i c hc
      obtain ⟨v, h1, h2⟩ := evC_ok hc he hh
      obtain ⟨w, h3, h4⟩ := fdX_ok (P := P) (h := h) hx h2
      refine ⟨w, h3, fun K hK => ?_⟩
      unfold opK
      exact some_any rfl rfl (ok1 h1) rfl (by rw [(some1 h1).2]; exact h4 K hK)
    · cases hx
  case extract x i =>
    split at hx
    · rename_i c hc
      obtain ⟨v, h1, h2⟩ := evC_ok hc he hh
      obtain ⟨w, h3, h4⟩ := exX_ok (P := P) (h := h) hx h2
      refine ⟨w, h3, fun K hK => ?_⟩
      unfold opK
      exact mv_ok h1 (h4 K hK)
    · cases hx
  case makeInterface t x =>
    split at hx
    · rename_i c hc
      obtain ⟨v, h1, h2⟩ := evC_ok hc he hh
      obtain ⟨w, h3, h4⟩ := miX_ok (P := P) (h := h) hx h2
      refine ⟨w, h3, fun K hK => ?_⟩
      unfold opK
      exact some_any rfl rfl (ok1 h1) rfl (by rw [(some1 h1).2]; exact h4 K hK)
    · cases hx
  case build t ps =>
    split at hx
    · rename_i c hc
      obtain ⟨h1, h2⟩ := evPs_ok he hh hc
      obtain ⟨w, h3, h4⟩ := buX_ok (P := P) (h := h) hx h1
      refine ⟨w, h3, fun K hK => ?_⟩
      unfold opK
      refine some_any (l := ps.toList.map (·.2)) (s := Instr.build t (ps.map fun (i, x) => (i, evD ρ x))) (by simp [Op.operands]) rfl h2 rfl ?_
      have e : (ps.map fun (p : Nat × Operand) => (p.1, evD ρ p.2)) = ⟨ps.toList.map fun (p : Nat × Operand) => (p.1, evD ρ p.2)⟩ := by apply Array.ext'; simp
      show swp P (Instr.build t (ps.map fun (p : Nat × Operand) => (p.1, evD ρ p.2))) h K
      rw [e]; exact h4 K hK
    · cases hx
  case typeAssert x xt t ok =>
    split at hx
    · rename_i c hc
      obtain ⟨v, h1, h2⟩ := evC_ok hc he hh
      obtain ⟨w, h3, h4⟩ := taX_ok (P := P) (h := h) (xt := xt) hx h2
      refine ⟨w, h3, fun K hK => ?_⟩
      unfold opK
      exact some_any rfl rfl (ok1 h1) rfl (by rw [(some1 h1).2]; exact h4 K hK)
    · cases hx
  case makeFunc fn a b =>
    split at hx
    · rename_i f
      split at hx
      · rename_i ca cb ha hb
        cases hx
        obtain ⟨va, a1, a2, a3, _⟩ := evCs_ok he hh ha
        obtain ⟨vb, b1, b2, b3, _⟩ := evCs_ok he hh hb
        refine ⟨.func (.func f) ⟨va⟩ ⟨vb⟩, by unfold VR; exact ⟨_, _, rfl, a1, b1⟩, fun K hK => ?_⟩
        unfold opK
        have oa : ∀ (l m : List Operand), okAll ρ (l ++ m) = (okAll ρ l && okAll ρ m) := fun l m => by
          induction l with
          | nil => simp [okAll]
          | cons x l ih => simp [okAll, ih, Bool.and_assoc]
        refine some_any (l := a.toList ++ b.toList) (s := Instr.makeFunc (.func f) (a.map (evD ρ)) (b.map (evD ρ))) (by simp [Op.operands]) rfl (by rw [oa, a2, b2]; rfl) rfl ?_
        have ea : a.map (evD ρ) = ⟨va⟩ := by apply Array.ext'; simp [a3]
        have eb : b.map (evD ρ) = ⟨vb⟩ := by apply Array.ext'; simp [b3]
        rw [ea, eb]; exact hK
      · cases hx
    · cases hx
  case call c =>
    obtain ⟨callee, args, ts⟩ := c
    cases callee with
    | value f => cases hx
    | invoke r m => cases hx
    | builtin b =>
      simp only [] at hx
      split at hx
      · rename_i l hl
        obtain ⟨vs, a1, a2, a3, a4⟩ := evCs_ok he hh hl
        obtain ⟨w, h3, h4⟩ := vbX_ok hh hx a1
        refine ⟨w, h3, fun K hK => ?_⟩
        unfold opK
        show bif knownB b then (mvs ρ args.toList [] fun vs => bltK P b ts.toList vs h K) else _
        rw [show knownB b = true from vbX_known hx]
        show mvs ρ args.toList [] fun vs => bltK P b ts.toList vs h K
        exact a4 [] _ (h4 K hK)
      · cases hx
end
end Go.Ix

/-
  What changes memory: blocks that are made, cells that are written.
-/
set_option linter.unusedSimpArgs false
set_option linter.unusedVariables false
namespace Go.Ix
open Go Go.Hw

section
variable {P : Program} {E : Nat → Bool} {G : Nat} {h0 : Hp} {σ σ' : Sig} {H : CH} {h : Hp} {env : CE} {ρ : Env}

theorem entR.mono (hs : Le σ σ') : ∀ {es : List (CV × CV × Nat)} {l : List MapEntry}, entR σ es l → entR σ' es l := by
  intro es
  induction es with
  | nil => intro l h; exact h
  | cons e es ih =>
    intro l h; obtain ⟨a, b, c⟩ := e
    unfold entR at h ⊢; obtain ⟨e, r, h1, h2, h3, h4, h5⟩ := h
    exact ⟨e, r, h1, h2.mono hs _ _, h3.mono hs _ _, h4, ih h5⟩
theorem OR.mono (hs : Le σ σ') {p : Pl} {o : CO} {x : Obj} (h : OR P h0 σ p o x) : OR P h0 σ' p o x := by
  cases o with
  | row own opn mk e cs =>
    unfold OR at h ⊢
    obtain ⟨vs, lo, hi, h1, h2, h3, h4, h5, h6⟩ := h
    exact ⟨vs, lo, hi, h1, h2, h3, h4, fun i c hc => let ⟨v, g1, g2⟩ := h5 i c hc; ⟨v, g1, g2.mono hs _ _⟩, h6⟩
  | tab cs => unfold OR at h ⊢; obtain ⟨vs, e, fr, h1, h2⟩ := h; exact ⟨vs, e, fr, h1, fun i c hc => let ⟨v, g1, g2⟩ := h2 i c hc; ⟨v, g1, g2.mono hs _ _⟩⟩
  | mp es c => unfold OR at h ⊢; obtain ⟨l, h1, h2, h3⟩ := h; exact ⟨l, h1, h2.mono hs, h3⟩
  | sit l n => exact h
  | mit m since seen last =>
    unfold OR at h ⊢
    obtain ⟨r, h1, h2, h3⟩ := h
    refine ⟨r, h1, ?_, h3⟩
    cases m <;> cases r <;> first | exact h2 | (obtain ⟨q, g1, g2⟩ := h2; exact ⟨q, hs _ _ g1, g2⟩)

/-! ### a block is made -/
def addB (H : CH) (o : CO) : CH := ⟨H.t.set H.nx (some o), H.nx + 1⟩
def plus (σ : Sig) (n : Nat) (p : Pl) : Sig := fun b => if b = n then some p else σ b
theorem plus_le {n : Nat} (hn : σ n = none) {p : Pl} : Le σ (plus σ n p) := by
  intro b q hq
  unfold plus
  by_cases e : b = n
  · subst e; rw [hn] at hq; cases hq
  · rw [if_neg e]; exact hq
theorem HR.add (hh : HR P G h0 σ H h) {b : Nat} (hb : h b = none) {o : CO} {x : Obj} {p : Pl} (hp : p.r = b) (ho : h0 b = none → OR P h0 (plus σ H.nx p) p o x) :
    Le σ (plus σ H.nx p) ∧ HR P G h0 (plus σ H.nx p) (addB H o) (upd h b x) := by
  have hl : Le σ (plus σ H.nx p) := plus_le (hh.fresh _ (Nat.le_refl _))
  have h0b : h0 b = none := by
    cases hx : h0 b with
    | none => rfl
    | some y => rw [hh.keep b y hx] at hb; cases hb
  refine ⟨hl, ?_, ?_, ?_, ?_, ?_⟩
  · intro b1 o1 hg
    simp only [addB, T.get_set] at hg
    by_cases e : b1 = H.nx
    · subst e
      rw [if_pos rfl] at hg; cases hg
      exact ⟨p, x, by simp [plus], by simp [upd, hp], ho h0b⟩
    · rw [if_neg e] at hg
      obtain ⟨q, y, g1, g2, g3⟩ := hh.obj b1 o1 hg
      have hne : q.r ≠ b := by intro e; rw [e, hb] at g2; cases g2
      exact ⟨q, y, hl _ _ g1, by simp [upd, hne, g2], g3.mono hl⟩
  · intro b1 b2 o1 o2 p1 p2 g1 g2 hne q1 q2
    simp only [addB, T.get_set] at g1 g2
    simp only [plus] at q1 q2
    by_cases e1 : b1 = H.nx
    · subst e1
      have e2 : ¬ b2 = H.nx := fun e => hne e.symm
      rw [if_neg e2] at g2 q2
      rw [if_pos rfl] at q1; cases q1
      obtain ⟨q, y, k1, k2, k3⟩ := hh.obj b2 o2 g2
      rw [q2] at k1; cases k1
      intro e; rw [← e, hp, hb] at k2; cases k2
    · rw [if_neg e1] at g1 q1
      by_cases e2 : b2 = H.nx
      · subst e2
        rw [if_pos rfl] at q2; cases q2
        obtain ⟨q, y, k1, k2, k3⟩ := hh.obj b1 o1 g1
        rw [q1] at k1; cases k1
        intro e; rw [e, hp, hb] at k2; cases k2
      · rw [if_neg e2] at g2 q2
        exact hh.inj b1 b2 o1 o2 p1 p2 g1 g2 hne q1 q2
  · intro b1 hb1
    simp only [addB] at hb1
    simp only [plus]
    rw [if_neg (by omega)]
    exact hh.fresh _ (by omega)
  · intro b1 y hy
    have := hh.keep b1 y hy
    have hne : b1 ≠ b := by rintro rfl; rw [hb] at this; cases this
    simp [upd, hne, this]
  · intro g hg
    obtain ⟨q, g1, g2⟩ := hh.glob g hg
    exact ⟨q, hl _ _ g1, g2⟩

/-! a row -/
def rowB (e : TypeId) (l : List CV) : CO := .row true false false e l
theorem OR_new {e : TypeId} {l : List CV} {vs : List Value} (hv : VRs σ l vs) {b : Nat} (hb : h0 b = none) : OR P h0 σ ⟨b, 0, l.length, P.cellsOf e⟩ (rowB e l) (.cells ⟨vs⟩ e) := by
  unfold rowB OR
  exact ⟨vs, 0, 0, rfl, by simp [hv.len], Nat.le_refl _, fun _ => rfl, fun i c hc => by simpa using hv.get hc, .inr rfl, fun _ => rfl, fun _ => hb, rfl⟩
theorem VRs.mono' (hs : Le σ σ') {l : List CV} {vs : List Value} (h : VRs σ l vs) : VRs σ' l vs := VRs.mono hs l vs h
theorem newRow_ok (hh : HR P G h0 σ H h) {e : TypeId} {l : List CV} {vs : List Value} (hv : VRs σ l vs) {K : Addr → Hp → Prop}
    (hK : ∀ σ' a h', Le σ σ' → VR σ' (.ptr H.nx 0) (.pointer (some a)) → (∀ n c, VR σ' (.slc H.nx 0 n (some c)) (.slice (some a) n c)) → HR P G h0 σ' (addB H (rowB e l)) h' → K a h') :
    ∀ b, h b = none → K ⟨b, 0, none⟩ (upd h b (.cells ⟨vs⟩ e)) := by
  intro b hb
  obtain ⟨hl, hn⟩ := hh.add (o := rowB e l) (x := .cells ⟨vs⟩ e) (p := ⟨b, 0, l.length, P.cellsOf e⟩) hb rfl fun h0b => OR_new (hv.mono' (plus_le (hh.fresh _ (Nat.le_refl _)))) h0b
  exact hK _ _ _ hl (by unfold VR; exact ⟨_, by simp [plus]; rfl, rfl⟩) (fun n c => by unfold VR; exact ⟨_, by simp [plus]; rfl, rfl⟩) hn

/-! ### cells are written -/
theorem upd_upd {b : Nat} {x y : Obj} : upd (upd h b x) b y = upd h b y := by
  funext c; simp only [upd]; split <;> rfl
theorem upd_same {b : Nat} {x : Obj} (hx : h b = some x) : upd h b x = h := by
  funext c; simp only [upd]; split
  · rename_i e; subst e; exact hx.symm
  · rfl
theorem wrL_row {r off : Nat} {e : TypeId} {lo hi : Nat} {F : Hp → Prop} : ∀ (l : List Value) (i : Nat) (h : Hp) (vs : List Value), h r = some (.cells ⟨vs⟩ e (lo, hi)) → off + i + l.length ≤ vs.length →
    (∀ v ∈ l, plain v = true) → (vs.length ≤ lo ∨ hi ≤ lo) → F (upd h r (.cells ⟨vs.take (off + i) ++ (l ++ vs.drop (off + i + l.length))⟩ e (lo, hi))) → wrL ⟨r, off, none⟩ i l h F := by
  intro l
  induction l with
  | nil =>
    intro i h vs hr hle _ _ hF
    unfold wrL
    have : vs.take (off + i) ++ ([] ++ vs.drop (off + i + ([] : List Value).length)) = vs := by simp
    rw [this, upd_same hr] at hF; exact hF
  | cons v l ih =>
    intro i h vs hr hle hp hz hF
    simp only [List.length_cons] at hle
    unfold wrL st
    rw [hp v (List.mem_cons_self ..)]
    have hadd : (⟨r, off, none⟩ : Addr).add i = ⟨r, off + i, none⟩ := by
      unfold Addr.add; by_cases e : i = 0
      · subst e; simp
      · simp [e]
    rw [hadd]
    have hc : cell h ⟨r, off + i, none⟩ = vs[off + i]? := by unfold cell; simp only [hr]; simp
    have hf : frz h ⟨r, off + i, none⟩ = false := by unfold frz; simp only [hr]; simp; omega
    refine ⟨⟨by rw [hc, List.getElem?_eq_getElem (by omega)]; rfl, hf⟩, ?_⟩
    have hs : setc h ⟨r, off + i, none⟩ v = upd h r (.cells ⟨vs.set (off + i) v⟩ e (lo, hi)) := by
      unfold setc; simp only [hr]; simp
    rw [hs]
    refine ih (i + 1) _ (vs.set (off + i) v) (by simp [upd]) (by simp; omega) (fun w hw => hp w (List.mem_cons_of_mem _ hw)) (by simpa using hz) ?_
    rw [upd_upd]
    have e1 : (vs.set (off + i) v).take (off + (i + 1)) = vs.take (off + i) ++ [v] := by
      apply List.ext_getElem?
      intro j
      rw [List.getElem?_take]
      by_cases hj : j < off + (i + 1)
      · rw [if_pos hj, List.getElem?_set]
        by_cases hj2 : j < off + i
        · rw [if_neg (by omega), List.getElem?_append_left (by simp; omega), List.getElem?_take, if_pos hj2]
        · have : j = off + i := by omega
          subst this
          rw [if_pos rfl, if_pos (by omega), List.getElem?_append_right (by simp; omega)]
          simp; rw [Nat.min_eq_left (by omega)]; simp
      · rw [if_neg hj, List.getElem?_eq_none]
        simp; omega
    have e2 : (vs.set (off + i) v).drop (off + (i + 1) + l.length) = vs.drop (off + i + (v :: l).length) := by
      apply List.ext_getElem?
      intro j
      rw [List.getElem?_drop, List.getElem?_drop, List.getElem?_set, if_neg (by omega)]
      congr 1; simp; omega
    rw [e1, e2, List.append_assoc, List.singleton_append, ← List.cons_append]
    exact hF
def plX1 : CV → Bool
  | .agg _ => false
  | .tup _ => false
  | _ => true
def plXs : List CV → Bool
  | [] => true
  | x :: l => plX1 x && plXs l
theorem plX1_ok {x : CV} {v : Value} (hx : plX1 x = true) (hr : VR σ x v) : plain v = true := by
  cases x <;> first | (simp [plX1] at hx; done) | skip
  case slc b o n c => obtain ⟨p, c', _, rfl⟩ := slc_ok hr; rfl
  all_goals
    unfold VR at hr
    first
      | (subst hr; rfl)
      | (obtain ⟨_, rfl, _⟩ := hr; rfl)
      | (obtain ⟨_, _, rfl⟩ := hr; rfl)
      | (obtain ⟨_, _, rfl, _⟩ := hr; rfl)
      | (obtain ⟨_, _, _, rfl, _⟩ := hr; rfl)
theorem plXs_ok : ∀ {l : List CV} {vs : List Value}, plXs l = true → VRs σ l vs → ∀ v ∈ vs, plain v = true := by
  intro l
  induction l with
  | nil => intro vs _ hr v hv; unfold VRs at hr; subst hr; cases hv
  | cons x l ih =>
    intro vs hp hr v hv
    simp only [plXs, Bool.and_eq_true] at hp
    unfold VRs at hr; obtain ⟨w, r, rfl, h1, h2⟩ := hr
    cases hv with
    | head => exact plX1_ok hp.1 h1
    | tail _ hm => exact ih hp.2 h2 v hm

/-- an object in a block that is ours becomes another one, at the same place -/
theorem HR.chg (hh : HR P G h0 σ H h) {b : Nat} {o o' : CO} (hg : H.t.get b = some o) {p : Pl} (hp : σ b = some p) {x : Obj} (h0r : h0 p.r = none) (ho : OR P h0 σ p o' x) :
    HR P G h0 σ ⟨H.t.set b (some o'), H.nx⟩ (upd h p.r x) := by
  refine ⟨?_, ?_, hh.fresh, ?_, hh.glob⟩
  · intro b1 o1 hg1
    rw [T.get_set] at hg1
    by_cases e : b1 = b
    · subst e
      rw [if_pos rfl] at hg1; cases hg1
      exact ⟨p, x, hp, by simp [upd], ho⟩
    · rw [if_neg e] at hg1
      obtain ⟨q, y, g1, g2, g3⟩ := hh.obj b1 o1 hg1
      have hne : q.r ≠ p.r := hh.inj b1 b o1 o q p hg1 hg e g1 hp
      exact ⟨q, y, g1, by simp [upd, hne, g2], g3⟩
  · intro b1 b2 o1 o2 p1 p2 g1 g2 hne q1 q2
    rw [T.get_set] at g1 g2
    have has : ∀ (c : Nat) (oc : CO), (if c = b then some o' else H.t.get c) = some oc → ∃ oc', H.t.get c = some oc' := by
      intro c oc hc
      by_cases e : c = b
      · subst e; exact ⟨o, hg⟩
      · rw [if_neg e] at hc; exact ⟨oc, hc⟩
    obtain ⟨o1', g1'⟩ := has _ _ g1
    obtain ⟨o2', g2'⟩ := has _ _ g2
    exact hh.inj b1 b2 o1' o2' p1 p2 g1' g2' hne q1 q2
  · intro b1 y hy
    have hne : b1 ≠ p.r := by rintro rfl; rw [h0r] at hy; cases hy
    simp [upd, hne, hh.keep b1 y hy]

/-- write cells, all of them within what is known -/
def wrX (H : CH) (b o : Nat) (l : List CV) : Option CH :=
  match H.t.get b with
  | some (.row true opn mk e cs) => bif Nat.ble (o + l.length) cs.length && plXs l then some ⟨H.t.set b (some (.row true opn mk e (cs.take o ++ (l ++ cs.drop (o + l.length))))), H.nx⟩ else none
  | _ => none
theorem wr_cells {cs l : List CV} {vs ws : List Value} {d o : Nat} (hle : o + l.length ≤ cs.length) (hd : d + cs.length ≤ vs.length) (hws : VRs σ l ws) (hc : ∀ (i : Nat) (c : CV), cs[i]? = some c → ∃ v, vs[d + i]? = some v ∧ VR σ c v) :
    ∀ (i : Nat) (c : CV), (cs.take o ++ (l ++ cs.drop (o + l.length)))[i]? = some c → ∃ v, (vs.take (d + o) ++ (ws ++ vs.drop (d + o + ws.length)))[d + i]? = some v ∧ VR σ c v := by
  intro i c hi
  have hwl := hws.len
  have t1 : (List.take o cs).length = o := by simp; omega
  have t2 : (List.take (d + o) vs).length = d + o := by simp; omega
  by_cases g1 : i < o
  · rw [List.getElem?_append_left (by omega), List.getElem?_take, if_pos g1] at hi
    rw [List.getElem?_append_left (by omega), List.getElem?_take, if_pos (by omega)]
    exact hc i c hi
  · rw [List.getElem?_append_right (by omega), t1] at hi
    rw [List.getElem?_append_right (by omega), t2]
    by_cases g2 : i < o + l.length
    · rw [List.getElem?_append_left (by omega)] at hi
      rw [List.getElem?_append_left (by omega)]
      have := hws.get hi
      have e : d + i - (d + o) = i - o := by omega
      rw [e]; exact this
    · rw [List.getElem?_append_right (by omega), List.getElem?_drop] at hi
      rw [List.getElem?_append_right (by omega), List.getElem?_drop]
      have e1 : o + l.length + (i - o - l.length) = i := by omega
      have e2 : d + o + ws.length + (d + i - (d + o) - ws.length) = d + i := by omega
      rw [e1] at hi; rw [e2]
      exact hc i c hi
theorem wrX_ok (hh : HR P G h0 σ H h) {b o : Nat} {l : List CV} {H' : CH} (hx : wrX H b o l = some H') {p : Pl} (hp : σ b = some p) {ws : List Value} (hw : VRs σ l ws) {F : Hp → Prop}
    (hF : ∀ h', HR P G h0 σ H' h' → F h') : wrL (p.at o) 0 ws h F := by
  unfold wrX at hx
  split at hx
  · rename_i opn mk e cs hg
    obtain ⟨hb, rfl⟩ := condN hx
    simp only [Bool.and_eq_true] at hb
    have hle := Nat.le_of_ble_eq_true hb.1
    obtain ⟨q, x, h1, h2, h3⟩ := hh.obj b _ hg
    rw [hp] at h1; cases h1
    unfold OR at h3
    obtain ⟨vs, lo, hi, rfl, k1, k2, k3, k4, k5, k6, k7, k8⟩ := h3
    have hwl := hw.len
    refine wrL_row (r := p.r) (off := p.d + o) ws 0 h vs h2 (by omega) (plXs_ok hb.2 hw) (k5.imp id Nat.le_of_eq) ?_
    rw [Nat.add_zero]
    refine hF _ (hh.chg hg hp (k7 rfl) ?_)
    unfold OR
    refine ⟨_, lo, hi, rfl, ?_, ?_, ?_, ?_, ?_, k6, k7, k8⟩
    · simp; omega
    · simp; omega
    · intro ho; have := k3 ho; simp; omega
    · exact wr_cells hle (by omega) hw k4
    · simp; omega
  · cases hx
end
end Go.Ix

/-
  The operations that change memory.
-/
set_option linter.unusedSimpArgs false
set_option linter.unusedVariables false
namespace Go.Ix
open Go Go.Hw

section
variable {P : Program} {E : Nat → Bool} {G : Nat} {h0 : Hp} {σ σ' : Sig} {H : CH} {h : Hp} {env : CE} {ρ : Env}

/-- an effect: what it gives stands for what the machine gives -/
def Eok (P : Program) (E : Nat → Bool) (G : Nat) (h0 : Hp) (σ : Sig) (h : Hp) (o : Oper) (ρ : Env) (y : CV) (H' : CH) : Prop :=
  ∀ K : Value → Hp → Prop, (∀ σ' v h', Le σ σ' → VR σ' y v → HR P G h0 σ' H' h' → K v h') → opK P E o ρ h K
theorem VR_undef : VR σ (.tup []) undef := by unfold VR; exact ⟨[], rfl, by unfold VRs; rfl⟩

/-! ### store -/
def stX (P : Program) (H : CH) (t : TypeId) (a x : CV) : Option CH :=
  match a with
  | .ptr b o => bif (P.info? t).isSome && Nat.beq (cellsX x).length (P.cellsOf t) then wrX H b o (cellsX x) else none
  | _ => none
theorem stX_ok (hh : HR P G h0 σ H h) {t : TypeId} {a x : CV} {H' : CH} {va vx : Value} (hx : stX P H t a x = some H') (ha : VR σ a va) (hv : VR σ x vx) {F : Hp → Prop} (hF : ∀ h', HR P G h0 σ H' h' → F h') : stK P t va vx h F := by
  unfold stX at hx
  split at hx
  · rename_i b o
    cases hb : (P.info? t).isSome && Nat.beq (cellsX x).length (P.cellsOf t) with
    | false => rw [hb] at hx; cases hx
    | true =>
      rw [hb] at hx
      unfold VR at ha; obtain ⟨p, hp, rfl⟩ := ha
      have hc := cellsX_ok hv
      unfold stK; simp only [nn]
      rw [hc.len, hb]
      exact wrX_ok hh (show wrX H b o (cellsX x) = some H' from hx) hp hc hF
  · cases hx

/-! ### rows of zeros -/
def repX (l : List CV) : Nat → List CV
  | 0 => []
  | n + 1 => l ++ repX l n
theorem repX_len (l : List CV) : ∀ n, (repX l n).length = n * l.length := by
  intro n
  induction n with
  | zero => simp [repX]
  | succ n ih => simp [repX, ih, Nat.succ_mul]; omega
theorem repX_get (l : List CV) : ∀ (n i : Nat), i < n * l.length → (repX l n)[i]? = l[i % l.length]? := by
  intro n
  induction n with
  | zero => intro i h; simp at h
  | succ n ih =>
    intro i h
    simp only [repX]
    by_cases g : i < l.length
    · rw [List.getElem?_append_left g, Nat.mod_eq_of_lt g]
    · rw [List.getElem?_append_right (by omega), ih _ (by rw [Nat.succ_mul] at h; omega)]
      congr 1
      rw [Nat.mod_eq_sub_mod (a := i) (by omega)]
theorem zeros_ok {e : TypeId} {l : List CV} (hz : VRs σ l (zc P e)) (n : Nat) : VRs σ (repX l n) (zeros P e n).toList := by
  have hl := hz.len
  refine .of (by rw [repX_len]; simp [zeros, Builtin.zeroCells, hl]) fun i x hx => ?_
  have hi : i < n * l.length := by have := (List.getElem?_eq_some_iff.1 hx).1; rw [repX_len] at this; exact this
  rw [repX_get _ _ _ hi] at hx
  obtain ⟨v, h1, h2⟩ := hz.get hx
  refine ⟨v, ?_, h2⟩
  have hpos : 0 < l.length := by
    rcases Nat.eq_zero_or_pos l.length with e | e
    · rw [e] at hi; simp at hi
    · exact e
  have hm : i % l.length < (zc P e).length := by rw [hl]; exact Nat.mod_lt _ hpos
  unfold zeros Builtin.zeroCells
  rw [Array.getElem?_toList, Array.getElem?_map, Array.getElem?_range]
  rw [if_pos (by simp [hl]; exact hi)]
  have e1 : ((⟨zc P e⟩ : Array Value)[i % l.length]!) = v := by
    rw [List.getElem?_eq_getElem hm] at h1
    simp only [Option.some.injEq] at h1
    rw [getElem!_pos _ _ (by simpa using hm)]
    exact h1
  show some ((⟨zc P e⟩ : Array Value)[i % (zc P e).length]!) = some v
  rw [hl, e1]

/-! ### what is made -/
def allocX (P : Program) (H : CH) (e : TypeId) : Option (CV × CH) :=
  match zX P e with
  | some l => some (.ptr H.nx 0, addB H (rowB e l))
  | none => none
theorem alloc_ok (hh : HR P G h0 σ H h) {e : TypeId} {y : CV} {H' : CH} (hx : allocX P H e = some (y, H')) {K : Value → Hp → Prop} (hK : ∀ σ' v h', Le σ σ' → VR σ' y v → HR P G h0 σ' H' h' → K v h') : swp P (Instr.alloc e true (.tuple #[])) h K := by
  unfold allocX at hx
  split at hx
  · rename_i l hl
    cases hx
    obtain ⟨z1, z2, z3⟩ := zX_ok (σ := σ) hl
    unfold Instr.alloc
    rw [swp_bind']
    refine zeroValue_swp z2 ?_
    intro v hv
    simp only []
    rw [swp_bind']
    unfold newVar
    rw [hv, newRow_swp]
    exact newRow_ok (K := fun a h' => K (.pointer (some a)) h') hh z1 fun σ' a h' hl h1 h2 h3 => hK σ' _ h' hl h1 h3
  · cases hx
def boxX (H : CH) (e : TypeId) (x : CV) : CV × CH := (.ptr H.nx 0, addB H (rowB e (cellsX x)))
theorem box_ok (hh : HR P G h0 σ H h) {e : TypeId} {x : CV} {v : Value} (hv : VR σ x v) {K : Value → Hp → Prop} (hK : ∀ σ' v h', Le σ σ' → VR σ' (boxX H e x).1 v → HR P G h0 σ' (boxX H e x).2 h' → K v h') : swp P (Instr.box e v) h K := by
  unfold Instr.box
  rw [swp_bind']
  unfold newVar
  have e1 : v.cells = ⟨vcells v⟩ := by apply Array.ext'; rw [vcells_eq]
  rw [e1, newRow_swp]
  exact newRow_ok (K := fun a h' => K (.pointer (some a)) h') hh (cellsX_ok hv) fun σ' a h' hl h1 h2 h3 => hK σ' _ h' hl h1 h3
def bsX (P : Program) (H : CH) (t : TypeId) (len : Nat) (ps : List (Nat × CV)) : Option (CV × CH) :=
  match P.underlying t with
  | some (.slice e) => match zX P e with
    | some z => bif Nat.beq len 0 then (match ps with
        | [] => some (.slc H.nx 0 0 (some 0), addB H (rowB e []))
        | _ => none) else
      bif Nat.blt 0 (len * P.cellsOf e) && Nat.ble (len * P.cellsOf e) 16777216 && Nat.beq z.length (P.cellsOf e) then
        (match fillX (fun i => some (i * P.cellsOf e, P.cellsOf e)) (repX z len) ps with
        | some l => some (.slc H.nx 0 len (some len), addB H (rowB e l))
        | none => none) else none
    | none => none
  | _ => none
theorem bsX_ok (hh : HR P G h0 σ H h) {t : TypeId} {len : Nat} {ps : List (Nat × CV)} {qs : List (Nat × Value)} {y : CV} {H' : CH} (hx : bsX P H t len ps = some (y, H')) (hp : psR σ ps qs)
    {K : Value → Hp → Prop} (hK : ∀ σ' v h', Le σ σ' → VR σ' y v → HR P G h0 σ' H' h' → K v h') : swp P (Instr.buildSlice t len ⟨qs⟩) h K := by
  unfold bsX at hx
  split at hx
  · rename_i e hu
    split at hx
    · rename_i z hz
      cases hl0 : Nat.beq len 0 with
      | true =>
        rw [hl0] at hx
        have := Nat.eq_of_beq_eq_true hl0; subst this
        simp only [cond_true] at hx
        split at hx
        · cases hx
          unfold psR at hp; subst hp
          obtain ⟨z1, z2, z3⟩ := zX_ok (σ := σ) hz
          unfold Instr.buildSlice
          rw [swp_bind']
          refine underlying_swp hu ?_
          simp only [swp_bind']
          refine sizeOf_swp z3 ?_
          rw [if_neg (by omega)]
          rw [if_pos (by omega), swp_bind', swp_pure]


          have e1 : (Array.range (0 * P.cellsOf e)).map (fun i => (#[] : Array Value)[i % (#[] : Array Value).size]!) = #[] := by rw [Nat.zero_mul]; simp
          rw [e1]
          change swp P (newRow e #[] >>= fun a => pure (Value.slice (some a) 0 0)) h K
          rw [swp_bind', newRow_swp]
          exact newRow_ok (l := []) (vs := []) (K := fun a h' => K (.slice (some a) 0 0) h') hh (by unfold VRs; rfl) fun σ' a h' hl h1 h2 h3 => hK σ' _ h' hl (h2 _ _) h3
        · cases hx
      | false =>
      rw [hl0] at hx
      simp only [cond_false] at hx
      cases hb : Nat.blt 0 (len * P.cellsOf e) && Nat.ble (len * P.cellsOf e) 16777216 && Nat.beq z.length (P.cellsOf e) with
      | false => rw [hb] at hx; cases hx
      | true =>
        rw [hb] at hx
        simp only [cond_true] at hx
        simp only [Bool.and_eq_true] at hb
        have b1 : 0 < len * P.cellsOf e := by simpa [Nat.blt_eq] using hb.1.1
        have b2 := Nat.le_of_ble_eq_true hb.1.2
        have b3 := Nat.eq_of_beq_eq_true hb.2
        split at hx
        · rename_i l hl
          cases hx
          obtain ⟨z1, z2, z3⟩ := zX_ok (σ := σ) hz
          have hzl := z1.len
          obtain ⟨out, o1, o2⟩ := fillX_ok hl hp (zeros_ok z1 len)
          unfold Instr.buildSlice
          rw [swp_bind']
          refine underlying_swp hu ?_
          simp only [swp_bind']
          refine sizeOf_swp z3 ?_
          rw [if_neg (by omega)]
          rw [if_neg (by omega)]
          simp only [swp_bind']
          refine zeroValue_swp z2 ?_
          intro v hv
          rw [swp_pure, hv]
          have e1 : (Array.range (len * P.cellsOf e)).map (fun i => (⟨zc P e⟩ : Array Value)[i % (⟨zc P e⟩ : Array Value).size]!) = zeros P e len := by
            unfold zeros Builtin.zeroCells
            simp only [List.size_toArray, hzl, b3]
          rw [e1, o1]
          change swp P (newRow e out >>= fun a => pure (Value.slice (some a) len len)) h K
          rw [swp_bind', newRow_swp]
          exact newRow_ok (vs := out.toList) (K := fun a h' => K (.slice (some a) len len) h') hh o2 fun σ' a h' hl h1 h2 h3 => hK σ' _ h' hl (h2 _ _) h3
        · cases hx
    · cases hx
  · cases hx
def mkX (P : Program) (H : CH) (t : TypeId) (l c : CV) : Option (CV × CH) :=
  match P.underlying t with
  | some (.slice e) => match l, c with
    | .int _ l, .int _ c => match zX P e with
      | some z => bif Nat.beq (P.cellsOf e) z.length && (decide (0 ≤ l) && decide (l ≤ c) && decide (P.bytesOf e * c ≤ 2 ^ 48) && decide (c ≤ 9223372036854775807)) then
          some (.slc H.nx 0 l.toNat (some c.toNat), addB H (rowB e (repX z c.toNat))) else none
      | none => none
    | _, _ => none
  | _ => none
theorem mkX_ok (hh : HR P G h0 σ H h) {t : TypeId} {l c : CV} {vl vc : Value} {y : CV} {H' : CH} (hx : mkX P H t l c = some (y, H')) (hl : VR σ l vl) (hc : VR σ c vc) {K : Value → Hp → Prop} (hK : ∀ σ' v h', Le σ σ' → VR σ' y v → HR P G h0 σ' H' h' → K v h') :
    elT P t fun e => bif zOk P e && (P.info? e).isSome && Nat.beq (P.cellsOf e) (zc P e).length then
        match (generalizing := false) vl, vc with
        | .int _ l, .int _ c => mkK P e l c h fun r h' => K (.slice r.p r.n r.c) h'
        | _, _ => False
      else False := by
  unfold mkX at hx
  split at hx
  · rename_i e hu
    split at hx
    · rename_i k l k' c
      split at hx
      · rename_i z hz
        obtain ⟨hb, hxx⟩ := condN hx
        cases hxx
        rw [Bool.and_eq_true] at hb
        obtain ⟨z1, z2, z3⟩ := zX_ok (σ := σ) hz
        unfold VR at hl hc; subst hl; subst hc
        unfold elT; rw [hu]; simp only []
        rw [z2, z3, z1.len, hb.1]
        simp only [Bool.true_and, cond_true]
        unfold mkK
        rw [hb.2]
        simp only [cond_true]
        have := newRow_ok (vs := (zeros P e c.toNat).toList) (K := fun a h' => K (.slice (some a) l.toNat c.toNat) h') hh (zeros_ok z1 c.toNat) fun σ' a h' hl h1 h2 h3 => hK σ' _ h' hl (h2 _ _) h3
        exact this
      · cases hx
    · cases hx
  · cases hx

/-! ### a string's bytes as a row -/
def bCV (l : List Nat) : List CV := l.map fun b : Nat => CV.int .u8 (Int.ofNat b)
def s2bX (P : Program) (H : CH) (s d : TypeId) (x : CV) : Option (CV × CH) :=
  match P.underlying d with
  | some (.slice e) => match x with
    | .slc b o n c => match P.underlying e with
      | some (.int .u8) => bif Nat.beq s d then (match H.t.get b with
        | some (.row true opn _ e' cs) => some (.slc b o n c, ⟨H.t.set b (some (.row true opn true e' cs)), H.nx⟩)
        | _ => none) else none
      | _ => none
    | .str l => match P.underlying e with
      | some (.int .u8) => bif (P.underlying s).isSome && Nat.beq (P.cellsOf e) 1 then some (.slc H.nx 0 l.length none, addB H (.row true true true e (bCV l))) else none
      | _ => none
    | _ => none
  | _ => none
theorem bcells_ok (s : ByteArray) : VRs σ (bCV (bl s)) (bcells s) := by
  unfold bl bcells bCV
  generalize s.data.toList = l
  induction l with
  | nil => unfold VRs; rfl
  | cons b l ih => simp only [List.map_cons]; unfold VRs; exact ⟨_, _, rfl, by unfold VR; rfl, ih⟩
theorem s2bX_ok (hh : HR P G h0 σ H h) {s d : TypeId} {x : CV} {v : Value} {y : CV} {H' : CH} (hx : s2bX P H s d x = some (y, H')) (hv : VR σ x v) {K : Value → Hp → Prop} (hK : ∀ σ' v h', Le σ σ' → VR σ' y v → HR P G h0 σ' H' h' → K v h') : cvK P s d v h K := by
  unfold s2bX at hx
  split at hx
  · rename_i e hu
    split at hx
    · rename_i b o n c
      split at hx
      · rename_i he
        cases hb : Nat.beq s d with
        | false => rw [hb] at hx; cases hx
        | true =>
          rw [hb] at hx
          simp only [cond_true] at hx
          split at hx
          · rename_i opn mk e' cs hg
            cases hx
            have hv' := hv
            obtain ⟨p, c', hp, rfl⟩ := slc_ok hv
            obtain ⟨q, x, h1, h2, h3⟩ := hh.obj b _ hg
            rw [hp] at h1; cases h1
            unfold OR at h3
            obtain ⟨vs, lo, hi, rfl, k1, k2, k3, k4, k5, k6, k7, k8⟩ := h3
            unfold cvK; rw [hu]; simp only [nn]; rw [he]; simp only []; rw [hb]
            simp only [cond_true]
            unfold mkSh
            have hs : shp h (p.at o).block = some (e', vs.length) := by unfold shp; rw [at_blk, h2]; rfl
            rw [hs]; simp only []
            have hf : frzn h ⟨(p.at o).block, vs.length, none⟩ 1 = upd h p.r (.cells ⟨vs⟩ e' (if lo == hi then (vs.length, vs.length + 1) else (min lo vs.length, max hi (vs.length + 1)))) := by
              unfold frzn
              simp only [at_blk, h2]; rfl
            rw [hf]
            refine hK σ _ _ (Le.refl σ) hv' (hh.chg hg hp (k7 rfl) ?_)
            unfold OR
            by_cases e1 : lo = hi
            · subst e1
              exact ⟨vs, vs.length, vs.length + 1, by simp, k1, k2, k3, k4, .inl (Nat.le_refl _), (fun e => by cases e), k7, k8⟩
            · refine ⟨vs, min lo vs.length, max hi (vs.length + 1), by simp [e1], k1, k2, k3, k4, .inl ?_, (fun e => by cases e), k7, k8⟩
              rcases k5 with k5 | k5
              · rw [Nat.min_eq_right k5]; exact Nat.le_refl _
              · exact absurd k5.symm e1
          · cases hx
      · cases hx
    · rename_i l
      split at hx
      · rename_i he
        obtain ⟨hb, hxx⟩ := condN hx
        cases hxx
        simp only [Bool.and_eq_true] at hb
        have h1c := Nat.eq_of_beq_eq_true hb.2
        unfold VR at hv; obtain ⟨t, rfl, rfl⟩ := hv
        unfold cvK; rw [hu]; simp only []; rw [he]; simp only []; rw [hb.1]
        simp only [cond_true]
        unfold s2b
        intro c b hc hb0
        have hlen : (bcells t).length = t.size := by simp [bcells]
        obtain ⟨hl, hn⟩ := hh.add (o := .row true true true e (bCV (bl t))) (x := .cells ⟨bcells t ++ List.replicate (c - t.size) (.int .u8 0)⟩ e (c, c + 1)) (p := ⟨b, 0, c, P.cellsOf e⟩) hb0 rfl fun h0b => by
          unfold OR
          refine ⟨_, c, c + 1, rfl, by simp [hlen]; omega, by simp [bCV, bl_len]; omega, (fun e => by cases e), (fun i x hi => ?_), Or.inl (by simp [hlen]; omega), (fun e => by cases e), (fun _ => h0b), rfl⟩
          obtain ⟨w, hw, hr⟩ := (bcells_ok (σ := plus σ H.nx ⟨b, 0, c, P.cellsOf e⟩) t).get hi
          refine ⟨w, ?_, hr⟩
          show (bcells t ++ List.replicate (c - t.size) (.int .u8 0))[0 + i]? = some w
          rw [Nat.zero_add, List.getElem?_append_left (by have := (List.getElem?_eq_some_iff.1 hw).1; omega)]
          exact hw
        refine hK _ _ _ hl ?_ hn
        unfold VR
        exact ⟨_, c, by simp [plus]; rfl, by rw [bl_len]; rfl, by simp [h1c], by simp [h1c], by rw [bl_len]; exact hc⟩
      · cases hx
    · cases hx
  · cases hx
end
end Go.Ix

/-
  append, copy; maps that are written; a string that is walked; then all effects in one.
-/
set_option linter.unusedSimpArgs false
set_option linter.unusedVariables false
namespace Go.Ix
open Go Go.Hw

section
variable {P : Program} {E : Nat → Bool} {G : Nat} {h0 : Hp} {σ σ' : Sig} {H : CH} {h : Hp} {env : CE} {ρ : Env}

/-! ### sources -/
def lnX : CV → Option Nat
  | .snil => some 0
  | .slc _ _ n _ => some n
  | .slz _ _ _ => some 0
  | .str l => some l.length
  | _ => none
def srX (H : CH) (sz k : Nat) : CV → Option (List CV)
  | .snil => some []
  | .slz _ _ _ => bif Nat.beq k 0 then some [] else none
  | .slc b o _ _ => rdC H b o (k * sz)
  | .str l => some ((bCV l).take k)
  | _ => none
theorem lnX_ok {y : CV} {v : Value} {n : Nat} (hx : lnX y = some n) (hv : VR σ y v) {F : Nat → Prop} (hF : F n) : lnK v F := by
  cases y <;> simp [lnX] at hx
  · subst hx; unfold VR at hv; obtain ⟨s, rfl, rfl⟩ := hv; rw [bl_len] at hF; exact hF
  · subst hx; unfold VR at hv; subst hv; exact hF
  · subst hx; obtain ⟨p, c, _, rfl⟩ := slc_ok hv; exact hF
  · subst hx; unfold VR at hv; obtain ⟨p, c, _, rfl, _⟩ := hv; exact hF
theorem srX_ok (hh : HR P G h0 σ H h) {sz k : Nat} {y : CV} {v : Value} {l : List CV} (hx : srX H sz k y = some l) (hv : VR σ y v) : ∃ ws, VRs σ l ws ∧ ∀ F : List Value → Prop, F ws → srcK h sz k v F := by
  cases y <;> simp [srX] at hx
  · subst hx; unfold VR at hv; obtain ⟨s, rfl, rfl⟩ := hv
    exact ⟨_, (bcells_ok s).take k, fun F hF => hF⟩
  · subst hx; unfold VR at hv; subst hv; exact ⟨[], by unfold VRs; rfl, fun F hF => hF⟩
  · obtain ⟨p, c, hp, rfl⟩ := slc_ok hv
    obtain ⟨ws, h1, h2, h3⟩ := rdC_rdN hh hx hp
    exact ⟨ws, h1, fun F hF => by unfold srcK; simp only []; rw [h3]; exact hF⟩
  · obtain ⟨hk, rfl⟩ := condN hx
    have := Nat.eq_of_beq_eq_true hk; subst this
    unfold VR at hv; obtain ⟨p, c, _, rfl, _⟩ := hv
    exact ⟨[], by unfold VRs; rfl, fun F hF => by unfold srcK; simp only []; rw [Nat.zero_mul]; exact hF⟩

/-! ### a block is taken over by another one -/
theorem HR.del (hh : HR P G h0 σ H h) (b : Nat) : HR P G h0 σ ⟨H.t.set b none, H.nx⟩ h := by
  refine ⟨?_, ?_, hh.fresh, hh.keep, hh.glob⟩
  · intro b1 o1 hg
    rw [T.get_set] at hg
    split at hg
    · cases hg
    · exact hh.obj b1 o1 hg
  · intro b1 b2 o1 o2 p1 p2 g1 g2
    rw [T.get_set] at g1 g2
    split at g1
    · cases g1
    · split at g2
      · cases g2
      · exact hh.inj b1 b2 o1 o2 p1 p2 g1 g2
def movB (H : CH) (b : Nat) (o : CO) : CH := ⟨(H.t.set b none).set H.nx (some o), H.nx + 1⟩
theorem HR.move (hh : HR P G h0 σ H h) {b : Nat} {o o' : CO} (hg : H.t.get b = some o) {p p' : Pl} (hp : σ b = some p) (hr : p'.r = p.r) (h0r : h0 p.r = none) {x : Obj} (ho : OR P h0 (plus σ H.nx p') p' o' x) :
    Le σ (plus σ H.nx p') ∧ HR P G h0 (plus σ H.nx p') (movB H b o') (upd h p.r x) := by
  have hl : Le σ (plus σ H.nx p') := plus_le (hh.fresh _ (Nat.le_refl _))
  have hne : b ≠ H.nx := by rintro rfl; rw [hh.fresh _ (Nat.le_refl _)] at hp; cases hp
  have has : ∀ (c : Nat) (oc : CO), c ≠ H.nx → (movB H b o').t.get c = some oc → c ≠ b ∧ H.t.get c = some oc := by
    intro c oc hc hgc
    simp only [movB, T.get_set] at hgc
    rw [if_neg hc] at hgc
    by_cases e : c = b
    · rw [if_pos e] at hgc; cases hgc
    · rw [if_neg e] at hgc; exact ⟨e, hgc⟩
  refine ⟨hl, ?_, ?_, ?_, ?_, ?_⟩
  · intro b1 o1 hg1
    by_cases e : b1 = H.nx
    · subst e
      simp only [movB, T.get_set, if_true] at hg1; cases hg1
      exact ⟨p', x, by simp [plus], by simp [upd, hr], ho⟩
    · obtain ⟨g1, g2⟩ := has _ _ e hg1
      obtain ⟨q, y, k1, k2, k3⟩ := hh.obj b1 o1 g2
      have hrr : q.r ≠ p.r := hh.inj b1 b o1 o q p g2 hg g1 k1 hp
      exact ⟨q, y, hl _ _ k1, by simp [upd, hrr, k2], k3.mono hl⟩
  · intro b1 b2 o1 o2 p1 p2 g1 g2 hn q1 q2
    by_cases e1 : b1 = H.nx
    · subst e1
      have e2 : ¬ b2 = H.nx := fun e => hn e.symm
      obtain ⟨k1, k2⟩ := has _ _ e2 g2
      simp only [plus] at q1 q2
      rw [if_neg e2] at q2
      simp only [if_true] at q1; cases q1
      rw [hr]
      exact hh.inj b b2 o o2 p p2 hg k2 (fun e => k1 e.symm) hp q2
    · obtain ⟨k1, k2⟩ := has _ _ e1 g1
      simp only [plus] at q1 q2
      rw [if_neg e1] at q1
      by_cases e2 : b2 = H.nx
      · subst e2
        rw [if_pos rfl] at q2; cases q2
        rw [hr]
        exact hh.inj b1 b o1 o p1 p k2 hg k1 q1 hp
      · obtain ⟨k3, k4⟩ := has _ _ e2 g2
        rw [if_neg e2] at q2
        exact hh.inj b1 b2 o1 o2 p1 p2 k2 k4 hn q1 q2
  · intro b1 hb1
    simp only [movB] at hb1
    simp only [plus]
    rw [if_neg (by omega)]
    exact hh.fresh _ (by omega)
  · intro b1 y hy
    have hne : b1 ≠ p.r := by rintro rfl; rw [h0r] at hy; cases hy
    simp [upd, hne, hh.keep b1 y hy]
  · intro g hg
    obtain ⟨q, g1, g2⟩ := hh.glob g hg
    exact ⟨q, hl _ _ g1, g2⟩

/-! ### append -/
def growOk (P : Program) (e n k : Nat) (old l : List CV) : Bool :=
  Nat.blt 0 (P.cellsOf e) && Nat.ble (2 * (n + k) * P.bytesOf e) 281474976710656 && (Nat.beq old.length (n * P.cellsOf e) && Nat.beq l.length (k * P.cellsOf e)) && (match zX P e with
    | some z => Nat.beq z.length (P.cellsOf e)
    | none => false)
theorem growOk_ok {e n k : Nat} {old l : List CV} (hg : growOk P e n k old l = true) : 0 < P.cellsOf e ∧ 2 * (n + k) * P.bytesOf e ≤ 281474976710656 ∧ old.length = n * P.cellsOf e ∧ l.length = k * P.cellsOf e ∧ (zc P e).length = P.cellsOf e := by
  unfold growOk at hg
  simp only [Bool.and_eq_true] at hg
  obtain ⟨⟨⟨g1, g2⟩, g3, g4⟩, g5⟩ := hg
  refine ⟨by simpa [Nat.blt_eq] using g1, Nat.le_of_ble_eq_true g2, Nat.eq_of_beq_eq_true g3, Nat.eq_of_beq_eq_true g4, ?_⟩
  split at g5
  · rename_i z hz
    obtain ⟨z1, _, _⟩ := zX_ok (σ := fun _ => none) hz
    rw [z1.len]; exact Nat.eq_of_beq_eq_true g5
  · cases g5
theorem grow_ok (hh : HR P G h0 σ H h) {e n k : Nat} {old l : List CV} {vo vl : List Value} (hg : growOk P e n k old l = true) (ho : VRs σ old vo) (hl : VRs σ l vl) {mk : Bool} {F : Sl → Hp → Prop}
    (hF : ∀ σ' s h', Le σ σ' → VR σ' (.slc H.nx 0 (n + k) none) s.v → HR P G h0 σ' (addB H (.row true true mk e (old ++ l))) h' → F s h') :
    ∀ c b, n + k ≤ c → h b = none → F ⟨some ⟨b, 0, none⟩, n + k, c⟩ (upd h b (.cells (⟨vo ++ vl⟩ ++ zeros P e (c - (n + k))) e)) := by
  intro c b hc hb
  obtain ⟨g1, g2, g3, g4, g5⟩ := growOk_ok hg
  have hzl : (zeros P e (c - (n + k))).toList.length = (c - (n + k)) * P.cellsOf e := by simp [zeros, Builtin.zeroCells, g5]
  have e1 : (⟨vo ++ vl⟩ ++ zeros P e (c - (n + k)) : Array Value) = ⟨(vo ++ vl) ++ (zeros P e (c - (n + k))).toList⟩ := by apply Array.ext'; simp
  have hol : (old ++ l).length = (n + k) * P.cellsOf e := by rw [List.length_append, g3, g4, Nat.add_mul]
  have hle : (n + k) * P.cellsOf e ≤ c * P.cellsOf e := Nat.mul_le_mul_right _ hc
  rw [e1]
  obtain ⟨hle', hn⟩ := hh.add (o := .row true true mk e (old ++ l)) (x := .cells ⟨(vo ++ vl) ++ (zeros P e (c - (n + k))).toList⟩ e) (p := ⟨b, 0, c * P.cellsOf e, P.cellsOf e⟩) hb rfl fun h0b => by
    unfold OR
    refine ⟨_, 0, 0, rfl, ?_, by rw [hol]; exact hle, (fun e => by cases e), (fun i x hi => ?_), Or.inr rfl, (fun _ => rfl), (fun _ => h0b), rfl⟩
    · rw [List.length_append, List.length_append, hzl, ho.len, hl.len, g3, g4, Nat.sub_mul, Nat.zero_add, ← Nat.add_mul]
      show _ = c * P.cellsOf e
      omega
    · obtain ⟨w, hw, hr⟩ := ((ho.app hl).mono' (plus_le (p := ⟨b, 0, c * P.cellsOf e, P.cellsOf e⟩) (hh.fresh _ (Nat.le_refl _)))).get hi
      refine ⟨w, ?_, hr⟩
      show ((vo ++ vl) ++ (zeros P e (c - (n + k))).toList)[0 + i]? = some w
      rw [Nat.zero_add, List.getElem?_append_left (List.getElem?_eq_some_iff.1 hw).1]
      exact hw
  refine hF _ _ _ hle' ?_ hn
  unfold VR Sl.v
  exact ⟨_, c, by simp [plus]; rfl, rfl, by simp, g1, hc⟩
def growX (P : Program) (H : CH) (e n k : Nat) (old l : List CV) : Option (CV × CH) :=
  bif growOk P e n k old l then some (.slc H.nx 0 (n + k) none, addB H (.row true true false e (old ++ l))) else none
/-- behind what is known of a row whose end is not told -/
def pastX (P : Program) (H : CH) (e b o n k : Nat) (l : List CV) : Option (CV × CH) :=
  match H.t.get b with
  | some (.row true opn mk e' cs) => bif Nat.beq e e' then
      (bif Nat.ble (o + (n + k) * P.cellsOf e) cs.length then (bif Nat.beq l.length (k * P.cellsOf e) then (match wrX H b (o + n * P.cellsOf e) l with
        | some H' => some (.slc b o (n + k) none, H')
        | none => none) else none)
      else bif Nat.ble (o + n * P.cellsOf e) cs.length && (growOk P e n k ((cs.drop o).take (n * P.cellsOf e)) l && plXs l) then
        some (.slc H.nx 0 (n + k) none, movB H b (.row true true mk e ((cs.drop o).take (n * P.cellsOf e) ++ l)))
      else none) else none
  | _ => none
def apX (P : Program) (H : CH) (e : TypeId) (s y : CV) : Option (CV × CH) :=
  match lnX y with
  | some k => match srX H (P.cellsOf e) k y with
    | some l => match s with
      | .snil => bif Nat.beq k 0 then some (.snil, H) else growX P H e 0 k [] l
      | .slc b o n (some c) =>
        bif Nat.ble (n + k) c then (bif Nat.beq k 0 && Nat.beq l.length 0 then some (.slc b o n (some c), H) else match wrX H b (o + n * P.cellsOf e) l with
          | some H' => some (.slc b o (n + k) (some c), H')
          | none => none)
        else match rdC H b o (n * P.cellsOf e) with
          | some old => growX P H e n k old l
          | none => none
      | .slc b o n none => bif Nat.beq k 0 then (bif Nat.beq l.length 0 then some (.slc b o n none, H) else none) else pastX P H e b o n k l
      | _ => none
    | none => none
  | none => none
theorem cap48 {e n k c : Nat} (hc : c < n + k) (hg : 2 * (n + k) * P.bytesOf e ≤ 281474976710656) : Builtin.nextslicecap (n + k) c * P.bytesOf e ≤ 2 ^ 48 :=
  Nat.le_trans (Nat.mul_le_mul_right _ (nextcap_le _ _ hc)) hg
theorem growX_ok (hh : HR P G h0 σ H h) {e n k c : Nat} {old l : List CV} {y : CV} {v : Value} {H' : CH} {sp : Option Addr} {vo vl : List Value} (hx : growX P H e n k old l = some (y, H')) (ho : VRs σ old vo) (hl : VRs σ l vl)
    (hso : ∀ F : List Value → Prop, F vo → srcK h (P.cellsOf e) n (.slice sp n c) F) (hsl : ∀ F : List Value → Prop, F vl → srcK h (P.cellsOf e) k v F) (hc : c < n + k) {F : Sl → Hp → Prop}
    (hF : ∀ σ' s h', Le σ σ' → VR σ' y s.v → HR P G h0 σ' H' h' → F s h') :
    Builtin.nextslicecap (n + k) c * P.bytesOf e ≤ 2 ^ 48 ∧ srcK h (P.cellsOf e) n (.slice sp n c) fun old => srcK h (P.cellsOf e) k v fun l =>
      ∀ c b, n + k ≤ c → h b = none → F ⟨some ⟨b, 0, none⟩, n + k, c⟩ (upd h b (.cells (⟨old ++ l⟩ ++ zeros P e (c - (n + k))) e)) := by
  unfold growX at hx
  obtain ⟨hb, hxx⟩ := condN hx
  cases hxx
  obtain ⟨g1, g2, g3, g4, g5⟩ := growOk_ok hb
  exact ⟨cap48 hc g2, hso _ (hsl _ (grow_ok hh hb ho hl hF))⟩
theorem pastX_ok (hh : HR P G h0 σ H h) {e b o n k : Nat} {l : List CV} {y : CV} {v : Value} {H' : CH} {vl : List Value} (hx : pastX P H e b o n k l = some (y, H')) (hl : VRs σ l vl) (hsl : ∀ F : List Value → Prop, F vl → srcK h (P.cellsOf e) k v F)
    (hln : ∀ F : Nat → Prop, F k → lnK v F) {p : Pl} {c : Nat} (hp : σ b = some p) (hc : o + c * p.sz = p.m) (hsz : 0 < p.sz) (hnc : n ≤ c) {F : Sl → Hp → Prop}
    (hF : ∀ σ' s h', Le σ σ' → VR σ' y s.v → HR P G h0 σ' H' h' → F s h') : apK P e ⟨some (p.at o), n, c⟩ v h F := by
  unfold pastX at hx
  split at hx
  · rename_i opn mk e' cs hg
    obtain ⟨hps, hcl⟩ := row_sz hh hg hp
    cases hbe : Nat.beq e e' with
    | false => rw [hbe] at hx; cases hx
    | true =>
      rw [hbe] at hx
      have := Nat.eq_of_beq_eq_true hbe; subst this
      simp only [cond_true] at hx
      unfold apK
      refine hln _ ?_
      cases hb : Nat.ble (o + (n + k) * P.cellsOf e) cs.length with
      | true =>
        rw [hb] at hx
        simp only [cond_true] at hx
        have hb := Nat.le_of_ble_eq_true hb
        have hin : n + k ≤ c := by
          rw [hps] at hc
          have : (n + k) * P.cellsOf e ≤ c * P.cellsOf e := by omega
          exact Nat.le_of_mul_le_mul_right this (by omega)
        obtain ⟨hll, hx⟩ : Nat.beq l.length (k * P.cellsOf e) = true ∧ (match wrX H b (o + n * P.cellsOf e) l with | some H' => some (CV.slc b o (n + k) none, H') | none => none) = some (y, H') := by
          cases hq : Nat.beq l.length (k * P.cellsOf e) with
          | false => rw [hq] at hx; cases hx
          | true => rw [hq] at hx; exact ⟨rfl, hx⟩
        split at hx
        · rename_i H1 hw
          cases hx
          refine ⟨fun _ => hsl _ ?_, fun h => absurd h (by simp; omega)⟩
          simp only []
          rw [at_add]
          refine wrX_ok hh hw hp hl fun h' hh' => ?_
          refine hF σ _ h' (Le.refl σ) ?_ hh'
          unfold VR Sl.v
          exact ⟨p, c, hp, rfl, hc, hsz, hin⟩
        · cases hx
      | false =>
        rw [hb] at hx
        simp only [cond_false] at hx
        obtain ⟨hb2, hxx⟩ := condN hx
        cases hxx
        simp only [Bool.and_eq_true] at hb2
        obtain ⟨hb1, hgr, hpl⟩ := hb2
        have hb1 := Nat.le_of_ble_eq_true hb1
        obtain ⟨g1, g2, g3, g4, g5⟩ := growOk_ok hgr
        obtain ⟨q, x, k1, k2, k3⟩ := hh.obj b _ hg
        rw [hp] at k1; cases k1
        unfold OR at k3
        obtain ⟨vs, lo, hi, rfl, r1, r2, r3, r4, r5, r6, r7, r8⟩ := k3
        have hrd : rdC H b o (n * P.cellsOf e) = some ((cs.drop o).take (n * P.cellsOf e)) := by
          unfold rdC; rw [hg]; simp only [csOf]
          have : Nat.ble (o + n * P.cellsOf e) cs.length = true := Nat.ble_eq_true_of_le hb1
          rw [this]; rfl
        obtain ⟨vo, o1, o2, o3⟩ := rdC_rdN hh hrd hp
        refine ⟨fun hin => ?_, fun hout => ?_⟩
        · -- within the room
          refine hsl _ ?_
          simp only [] at hin ⊢
          rw [at_add]
          have hvl := hl.len
          have hroom : (n + k) * P.cellsOf e ≤ c * P.cellsOf e := Nat.mul_le_mul_right _ hin
          rw [hps] at hc
          have hexp : (n + k) * P.cellsOf e = n * P.cellsOf e + k * P.cellsOf e := Nat.add_mul ..
          refine wrL_row (r := p.r) (off := p.d + (o + n * P.cellsOf e)) vl 0 h vs k2 (by omega) (plXs_ok hpl hl) (r5.imp id Nat.le_of_eq) ?_
          rw [Nat.add_zero]
          obtain ⟨hle', hn⟩ := hh.move (o' := .row true true mk e ((cs.drop o).take (n * P.cellsOf e) ++ l)) (p' := ⟨p.r, p.d + o, p.m - o, p.sz⟩) (x := .cells ⟨vs.take (p.d + (o + n * P.cellsOf e)) ++ (vl ++ vs.drop (p.d + (o + n * P.cellsOf e) + vl.length))⟩ e (lo, hi)) hg hp rfl (r7 rfl) (by
            unfold OR
            have hlen : (vs.take (p.d + (o + n * P.cellsOf e)) ++ (vl ++ vs.drop (p.d + (o + n * P.cellsOf e) + vl.length))).length = vs.length := by simp; omega
            refine ⟨_, lo, hi, rfl, by rw [hlen]; show _ = p.d + o + (p.m - o); omega, ?_, (fun e => by cases e), (fun i x hi => ?_), ?_, r6, (fun _ => r7 rfl), r8⟩
            · show _ ≤ p.m - o
              rw [List.length_append, g3, g4]; omega
            · show ∃ v, (vs.take (p.d + (o + n * P.cellsOf e)) ++ (vl ++ vs.drop (p.d + (o + n * P.cellsOf e) + vl.length)))[p.d + o + i]? = some v ∧ _
              have hvt : (vs.take (p.d + (o + n * P.cellsOf e))).length = p.d + (o + n * P.cellsOf e) := by simp; omega
              by_cases gi : i < n * P.cellsOf e
              · rw [List.getElem?_append_left (by omega)] at hi
                rw [List.getElem?_append_left (by omega), List.getElem?_take, if_pos (by omega)]
                rw [List.getElem?_take, if_pos gi, List.getElem?_drop] at hi
                obtain ⟨w, hw, hr⟩ := r4 _ _ hi
                exact ⟨w, by rw [← hw]; congr 1; omega, hr.mono (plus_le (hh.fresh _ (Nat.le_refl _))) _ _⟩
              · rw [List.getElem?_append_right (by omega)] at hi
                have hil := (List.getElem?_eq_some_iff.1 hi).1
                rw [List.getElem?_append_right (by omega), List.getElem?_append_left (by omega)]
                obtain ⟨w, hw, hr⟩ := (hl.mono' (plus_le (p := ⟨p.r, p.d + o, p.m - o, p.sz⟩) (hh.fresh _ (Nat.le_refl _)))).get hi
                exact ⟨w, by rw [← hw]; congr 1; omega, hr⟩
            · rw [hlen]; exact r5)
          refine hF _ _ _ hle' ?_ hn
          unfold VR Sl.v
          refine ⟨⟨p.r, p.d + o, p.m - o, p.sz⟩, c, by simp [plus], by simp [Pl.at], ?_, hsz, hin⟩
          show 0 + c * p.sz = p.m - o
          rw [hps]; omega
        · -- beyond it
          refine ⟨cap48 hout g2, ?_⟩
          have hold : ∀ F : List Value → Prop, F vo → srcK h (P.cellsOf e) n (.slice (some (p.at o)) n c) F := fun F hF => by unfold srcK; simp only []; rw [o3]; exact hF
          exact hold _ (hsl _ (grow_ok (hh.del b) hgr o1 hl hF))
  · cases hx
theorem apX_ok (hh : HR P G h0 σ H h) {e : TypeId} {s y z : CV} {H' : CH} {p : Option Addr} {n c : Nat} {vy : Value} (hx : apX P H e s y = some (z, H')) (hs : VR σ s (.slice p n c)) (hy : VR σ y vy) {F : Sl → Hp → Prop}
    (hF : ∀ σ' s h', Le σ σ' → VR σ' z s.v → HR P G h0 σ' H' h' → F s h') : apK P e ⟨p, n, c⟩ vy h F := by
  unfold apX at hx
  split at hx
  · rename_i k hk
    split at hx
    · rename_i l hl
      obtain ⟨vl, l1, l2⟩ := srX_ok hh hl hy
      split at hx
      · -- nil
        unfold VR at hs; cases hs
        unfold apK
        refine lnX_ok hk hy ?_
        cases hb : Nat.beq k 0 with
        | true =>
          rw [hb] at hx; cases hx
          have := Nat.eq_of_beq_eq_true hb; subst this
          refine ⟨fun _ => l2 _ ?_, fun h => absurd h (by simp)⟩
          exact hF σ _ h (Le.refl σ) (by unfold VR; rfl) hh
        | false =>
          rw [hb] at hx
          have hk0 := Nat.ne_of_beq_eq_false hb
          refine ⟨fun h => absurd h (by simp; omega), fun hc => ?_⟩
          exact growX_ok (sp := none) hh hx (vo := []) (by unfold VRs; rfl) l1 (fun F hF => hF) l2 hc hF
      · rename_i b o n' c'
        unfold VR at hs; obtain ⟨p', hp, hs⟩ := hs; cases hs
        unfold apK
        refine lnX_ok hk hy ?_
        cases hb : Nat.ble (n + k) c with
        | true =>
          rw [hb] at hx
          have hb := Nat.le_of_ble_eq_true hb
          simp only [cond_true] at hx
          refine ⟨fun _ => l2 _ ?_, fun h => absurd h (by simp; omega)⟩
          simp only []
          cases hz : Nat.beq k 0 && Nat.beq l.length 0 with
          | true =>
            rw [hz] at hx; cases hx
            simp only [Bool.and_eq_true] at hz
            have := Nat.eq_of_beq_eq_true hz.1; subst this
            have h0 := l1.len
            rw [Nat.eq_of_beq_eq_true hz.2] at h0
            have := List.length_eq_zero_iff.1 h0; subst this
            unfold wrL
            exact hF σ _ h (Le.refl σ) (by unfold VR Sl.v; exact ⟨p', hp, rfl⟩) hh
          | false =>
            rw [hz] at hx
            simp only [cond_false] at hx
            split at hx
            · rename_i H1 hw
              cases hx
              rw [at_add]
              refine wrX_ok hh hw hp l1 fun h' hh' => ?_
              exact hF σ _ h' (Le.refl σ) (by unfold VR Sl.v; exact ⟨p', hp, rfl⟩) hh'
            · cases hx
        | false =>
          rw [hb] at hx
          simp only [cond_false] at hx
          have hnc : ¬ n + k ≤ c := by
            intro hle
            have := Nat.ble_eq_true_of_le hle
            rw [this] at hb; cases hb
          split at hx
          · rename_i old ho
            obtain ⟨vo, o1, o2, o3⟩ := rdC_rdN hh ho hp
            refine ⟨fun h => absurd h (by simp; omega), fun hc => ?_⟩
            exact growX_ok hh hx o1 l1 (fun F hF => by unfold srcK; simp only []; rw [o3]; exact hF) l2 hc hF
          · cases hx
      · rename_i b o n'
        unfold VR at hs; obtain ⟨p', c', hp, hs, h1, h2, h3⟩ := hs; cases hs
        cases hb : Nat.beq k 0 with
        | true =>
          rw [hb] at hx
          simp only [cond_true] at hx
          have := Nat.eq_of_beq_eq_true hb; subst this
          obtain ⟨hz, hxx⟩ := condN hx
          cases hxx
          unfold apK
          refine lnX_ok hk hy ?_
          refine ⟨fun _ => l2 _ ?_, fun h => absurd h (by simp; omega)⟩
          have h0 := l1.len
          rw [Nat.eq_of_beq_eq_true hz] at h0
          have := List.length_eq_zero_iff.1 h0; subst this
          simp only []
          unfold wrL
          exact hF σ _ h (Le.refl σ) (by unfold VR Sl.v; exact ⟨p', c, hp, rfl, h1, h2, h3⟩) hh
        | false =>
          rw [hb] at hx
          exact pastX_ok hh hx l1 l2 (fun F hF => lnX_ok hk hy hF) hp h1 h2 h3 hF
      · cases hx
    · cases hx
  · cases hx
end
end Go.Ix

/-
  copy, maps that are written, a string that is walked; all effects in one.
-/
set_option linter.unusedSimpArgs false
set_option linter.unusedVariables false
namespace Go.Ix
open Go Go.Hw

section
variable {P : Program} {E : Nat → Bool} {G : Nat} {h0 : Hp} {σ σ' : Sig} {H : CH} {h : Hp} {env : CE} {ρ : Env}

/-! ### copy -/
def cpX (P : Program) (H : CH) (e : TypeId) (s y : CV) : Option (CV × CH) :=
  match lnX y with
  | some m => match s with
    | .snil => match srX H (P.cellsOf e) (Nat.min m 0) y with
      | some _ => some (.int .i64 0, H)
      | none => none
    | .slc b o n _ => match srX H (P.cellsOf e) (Nat.min m n) y with
      | some l => match wrX H b o l with
        | some H' => some (.int .i64 (Nat.min m n : Nat), H')
        | none => none
      | none => none
    | _ => none
  | none => none
theorem cpX_ok (hh : HR P G h0 σ H h) {e : TypeId} {s y z : CV} {H' : CH} {p : Option Addr} {n c : Nat} {vy : Value} (hx : cpX P H e s y = some (z, H')) (hs : VR σ s (.slice p n c)) (hy : VR σ y vy) {F : Nat → Hp → Prop}
    (hF : ∀ r h', VR σ z (.int .i64 (r : Nat)) → HR P G h0 σ H' h' → F r h') : cpK P e ⟨p, n, c⟩ vy h F := by
  unfold cpX at hx
  split at hx
  · rename_i m hm
    unfold cpK
    refine lnX_ok hm hy ?_
    split at hx
    · split at hx
      · rename_i l hl
        cases hx
        unfold VR at hs; cases hs
        obtain ⟨vl, l1, l2⟩ := srX_ok hh hl hy
        refine l2 _ ?_
        refine hF _ h ?_ hh
        unfold VR
        have : Nat.min m 0 = 0 := Nat.min_eq_right (Nat.zero_le _)
        simp only [this]; rfl
      · cases hx
    · rename_i b o n' c'
      split at hx
      · rename_i l hl
        split at hx
        · rename_i H1 hw
          cases hx
          obtain ⟨p', c'', hp, hs⟩ := slc_ok hs
          cases hs
          obtain ⟨vl, l1, l2⟩ := srX_ok hh hl hy
          refine l2 _ ?_
          simp only []
          exact wrX_ok hh hw hp l1 fun h' hh' => hF _ h' (by unfold VR; rfl) hh'
        · cases hx
      · cases hx
    · cases hx
  · cases hx

/-! ### maps -/
def setE (k x : CV) : List (CV × CV × Nat) → Nat → List (CV × CV × Nat)
  | [], _ => []
  | (_, _, b) :: l, 0 => (k, x, b) :: l
  | e :: l, i + 1 => e :: setE k x l i
def muX (P : Program) (H : CH) (t : TypeId) (m k x : CV) : Option CH :=
  match P.underlying t with
  | some (.map kt et) => match P.underlying kt with
    | some kd => bif plainKey kd then (match m with
      | .map b => match H.t.get b with
        | some (.mp es c) => match findX kd k es 0 with
          | some none => some ⟨H.t.set b (some (.mp (es ++ [(k, x, c)]) (c + 1))), H.nx⟩
          | some (some (i, _)) => some ⟨H.t.set b (some (.mp (setE k x es i) c)), H.nx⟩
          | none => none
        | _ => none
      | _ => none) else none
    | none => none
  | _ => none
theorem entR_app {k x : CV} {c : Nat} {vk vx : Value} (hk : VR σ k vk) (hx : VR σ x vx) : ∀ {es : List (CV × CV × Nat)} {l : List MapEntry}, entR σ es l → entR σ (es ++ [(k, x, c)]) (l ++ [{ key := vk, val := vx, born := c }]) := by
  intro es
  induction es with
  | nil => intro l h; unfold entR at h; subst h; exact ⟨_, [], rfl, hk, hx, rfl, by unfold entR; rfl⟩
  | cons e es ih =>
    intro l h
    obtain ⟨a, b, d⟩ := e
    unfold entR at h; obtain ⟨e, r, rfl, h1, h2, h3, h4⟩ := h
    exact ⟨e, _, rfl, h1, h2, h3, ih h4⟩
theorem entR_set {k x : CV} {vk vx : Value} (hk : VR σ k vk) (hx : VR σ x vx) : ∀ {es : List (CV × CV × Nat)} {l : List MapEntry} {i : Nat}, entR σ es l → entR σ (setE k x es i) (l.modify i fun e => { e with key := vk, val := vx }) := by
  intro es
  induction es with
  | nil => intro l i h; unfold entR at h; subst h; cases i <;> (unfold setE entR; simp)
  | cons e es ih =>
    intro l i h
    obtain ⟨a, b, d⟩ := e
    unfold entR at h; obtain ⟨e, r, rfl, h1, h2, h3, h4⟩ := h
    cases i with
    | zero => simp only [setE, List.modify_zero_cons]; exact ⟨_, r, rfl, hk, hx, h3, h4⟩
    | succ i => simp only [setE, List.modify_succ_cons]; exact ⟨e, _, rfl, h1, h2, h3, ih h4⟩
theorem muX_ok (hh : HR P G h0 σ H h) {t : TypeId} {m k x : CV} {H' : CH} {vm vk vx : Value} (hu : muX P H t m k x = some H') (hm : VR σ m vm) (hk : VR σ k vk) (hx : VR σ x vx) {F : Hp → Prop} (hF : ∀ h', HR P G h0 σ H' h' → F h') :
    muK P t vm vk vx h F := by
  unfold muX at hu
  unfold muK
  split at hu
  · rename_i kt et ht
    rw [ht]; simp only []
    split at hu
    · rename_i kd hkd
      rw [hkd]; simp only []
      cases hp : plainKey kd with
      | false => rw [hp] at hu; cases hu
      | true =>
        rw [hp] at hu
        simp only [cond_true] at hu ⊢
        split at hu
        · rename_i b
          split at hu
          · rename_i es c hg
            unfold VR at hm; obtain ⟨p, hpb, rfl⟩ := hm
            obtain ⟨q, y, k1, k2, k3⟩ := hh.obj b _ hg
            rw [hpb] at k1; cases k1
            unfold OR at k3
            obtain ⟨l, rfl, he, h0r⟩ := k3
            unfold xMapO; simp only []; rw [k2]; simp only []
            split at hu
            · rename_i hf
              cases hu
              obtain ⟨r, g1, g2⟩ := findX_ok hk hf he
              unfold keyAt
              simp only []
              rw [g1]
              cases r with
              | some r => obtain ⟨j, u⟩ := r; exact g2.elim
              | none =>
                refine hF _ (hh.chg hg hpb h0r ?_)
                unfold mset OR
                exact ⟨_, by simp only []; rw [List.push_toArray], entR_app hk hx he, h0r⟩
            · rename_i i w hf
              cases hu
              obtain ⟨r, g1, g2⟩ := findX_ok hk hf he
              unfold keyAt
              simp only []
              rw [g1]
              cases r with
              | none => exact g2.elim
              | some r =>
                obtain ⟨j, u⟩ := r
                obtain ⟨rfl, _⟩ := g2
                refine hF _ (hh.chg hg hpb h0r ?_)
                unfold mset OR
                refine ⟨(l.modify i fun e => { e with key := vk, val := vx }), ?_, entR_set hk hx he, h0r⟩
                simp only [Obj.map.injEq, and_true]
                apply Array.ext'; simp
            · cases hu
          · cases hu
        · cases hu
    · cases hu
  · cases hu
def delE : List (CV × CV × Nat) → Nat → List (CV × CV × Nat)
  | [], _ => []
  | _ :: l, 0 => l
  | e :: l, i + 1 => e :: delE l i
theorem entR_del : ∀ {es : List (CV × CV × Nat)} {l : List MapEntry} {i : Nat}, entR σ es l → entR σ (delE es i) (l.eraseIdx i) := by
  intro es
  induction es with
  | nil => intro l i h; unfold entR at h; subst h; cases i <;> (unfold delE entR; simp)
  | cons e es ih =>
    intro l i h
    obtain ⟨a, b, d⟩ := e
    unfold entR at h; obtain ⟨e, r, rfl, h1, h2, h3, h4⟩ := h
    cases i with
    | zero => simp only [delE, List.eraseIdx_cons_zero]; exact h4
    | succ i => simp only [delE, List.eraseIdx_cons_succ]; exact ⟨e, _, rfl, h1, h2, h3, ih h4⟩
def mdX (P : Program) (H : CH) (t : TypeId) (m k : CV) : Option CH :=
  match P.underlying t with
  | some (.map kt et) => match P.underlying kt with
    | some kd => bif plainKey kd then (match m with
      | .mnil => some H
      | .map b => match H.t.get b with
        | some (.mp es c) => match findX kd k es 0 with
          | some none => some ⟨H.t.set b (some (.mp es c)), H.nx⟩
          | some (some (i, _)) => some ⟨H.t.set b (some (.mp (delE es i) c)), H.nx⟩
          | none => none
        | _ => none
      | _ => none) else none
    | none => none
  | _ => none
theorem mdX_ok (hh : HR P G h0 σ H h) {t : TypeId} {m k : CV} {H' : CH} {vm vk : Value} (hu : mdX P H t m k = some H') (hm : VR σ m vm) (hk : VR σ k vk) {F : Hp → Prop} (hF : ∀ h', HR P G h0 σ H' h' → F h') :
    mdK P t vm vk h F := by
  unfold mdX at hu
  unfold mdK
  split at hu
  · rename_i kt et ht
    rw [ht]; simp only []
    split at hu
    · rename_i kd hkd
      rw [hkd]; simp only []
      cases hp : plainKey kd with
      | false => rw [hp] at hu; cases hu
      | true =>
        rw [hp] at hu
        simp only [cond_true] at hu ⊢
        split at hu
        · cases hu; unfold VR at hm; subst hm; exact hF _ hh
        · rename_i b
          split at hu
          · rename_i es c hg
            unfold VR at hm; obtain ⟨p, hpb, rfl⟩ := hm
            obtain ⟨q, y, k1, k2, k3⟩ := hh.obj b _ hg
            rw [hpb] at k1; cases k1
            unfold OR at k3
            obtain ⟨l, rfl, he, h0r⟩ := k3
            simp only []
            unfold xMapO; simp only []; rw [k2]; simp only []
            split at hu
            · rename_i hf
              cases hu
              obtain ⟨r, g1, g2⟩ := findX_ok hk hf he
              unfold keyAt
              simp only []
              rw [g1]
              cases r with
              | some r => obtain ⟨j, u⟩ := r; exact g2.elim
              | none =>
                refine hF _ (hh.chg hg hpb h0r ?_)
                unfold mdel OR
                exact ⟨_, rfl, he, h0r⟩
            · rename_i i w hf
              cases hu
              obtain ⟨r, g1, g2⟩ := findX_ok hk hf he
              unfold keyAt
              simp only []
              rw [g1]
              cases r with
              | none => exact g2.elim
              | some r =>
                obtain ⟨j, u⟩ := r
                obtain ⟨rfl, _⟩ := g2
                refine hF _ (hh.chg hg hpb h0r ?_)
                unfold mdel OR
                refine ⟨l.eraseIdx i, ?_, entR_del he, h0r⟩
                simp only [Obj.map.injEq, and_true]
                apply Array.ext'
                simp only [Array.eraseIdxIfInBounds]
                split
                · simp
                · rename_i hn; simp at hn; simp [List.eraseIdx_of_length_le hn]
            · cases hu
          · cases hu
        · cases hu
    · cases hu
  · cases hu
def mmpX (H : CH) : CV × CH := (.map H.nx, addB H (.mp [] 0))
theorem newObj_swp {o : Obj} {K : Nat → Hp → Prop} : swp P (newObj o) h K = ∀ b, h b = none → K b (upd h b o) := rfl
theorem mmpX_ok (hh : HR P G h0 σ H h) {t : TypeId} {K : Value → Hp → Prop} (hK : ∀ σ' v h', Le σ σ' → VR σ' (mmpX H).1 v → HR P G h0 σ' (mmpX H).2 h' → K v h') : swp P (Instr.makeMap t none) h K := by
  unfold Instr.makeMap
  simp only [swp_bind']
  rw [newObj_swp]
  intro b hb
  obtain ⟨hl, hn⟩ := hh.add (o := .mp [] 0) (x := .map #[] 0) (p := ⟨b, 0, 0, 0⟩) hb rfl fun h0b => by unfold OR; exact ⟨[], rfl, by unfold entR; rfl, h0b⟩
  exact hK _ _ _ hl (by unfold mmpX VR; exact ⟨_, by simp [plus]; rfl, rfl⟩) hn

/-! ### a string that is walked -/
def rgX (P : Program) (H : CH) (t : TypeId) (x : CV) : Option (CV × CH) :=
  match P.underlying t, x with
  | some .string, .str l => some (.ptr H.nx 0, addB H (.sit l 0))
  | some (.map _ _), .map m => match H.t.get m with
    | some (.mp es c) => some (.ptr H.nx 0, addB H (.mit (some m) c [] c))
    | _ => none
  | _, _ => none
theorem rgX_ok (hh : HR P G h0 σ H h) {t : TypeId} {x y : CV} {v : Value} {H' : CH} (hx : rgX P H t x = some (y, H')) (hv : VR σ x v) {K : Value → Hp → Prop} (hK : ∀ σ' v h', Le σ σ' → VR σ' y v → HR P G h0 σ' H' h' → K v h') :
    rgK P t v h fun p h' => K (.pointer p) h' := by
  unfold rgX at hx
  split at hx
  · rename_i l hu
    cases hx
    unfold VR at hv; obtain ⟨s, rfl, rfl⟩ := hv
    unfold rgK
    rw [hu]
    simp only []
    intro b hb
    obtain ⟨hl, hn⟩ := hh.add (o := .sit (bl s) 0) (x := .stringIter s 0) (p := ⟨b, 0, 0, 0⟩) hb rfl fun h0b => by unfold OR; exact ⟨s, rfl, rfl, h0b, rfl⟩
    exact hK _ _ _ hl (by unfold VR; exact ⟨_, by simp [plus]; rfl, rfl⟩) hn
  · rename_i m hu
    split at hx
    · rename_i es c hg
      cases hx
      unfold VR at hv; obtain ⟨p, hp, rfl⟩ := hv
      obtain ⟨l, g1, g2⟩ := mp_at hh hg hp
      unfold rgK
      rw [hu]
      simp only []
      unfold rgM
      simp only [g1]
      intro b hb
      obtain ⟨hl, hn⟩ := hh.add (o := .mit (some m) c [] c) (x := .mapIter (some p.r) c #[] c) (p := ⟨b, 0, 0, 0⟩) hb rfl fun h0b => by
        unfold OR; exact ⟨_, rfl, ⟨p, plus_le (hh.fresh _ (Nat.le_refl _)) _ _ hp, rfl⟩, h0b, rfl⟩
      exact hK _ _ _ hl (by unfold VR; exact ⟨_, by simp [plus]; rfl, rfl⟩) hn
    · cases hx
  · cases hx
/-- the next byte of a string, where it is below 128 -/
def nxX (H : CH) (x : CV) : Option (CV × CH) :=
  match x with
  | .ptr b 0 => match H.t.get b with
    | some (.sit l n) => match l[n]? with
      | some c => bif Nat.blt c 128 then some (.tup [.bool true, .int .i64 (n : Nat), .int .i32 (c : Nat)], ⟨H.t.set b (some (.sit l (n + 1))), H.nx⟩) else none
      | none => some (.tup [.bool false], H)
    | _ => none
  | _ => none
theorem nxX_ok (hh : HR P G h0 σ H h) {x y : CV} {v : Value} {H' : CH} (hx : nxX H x = some (y, H')) (hv : VR σ x v) {K : Value → Hp → Prop} (hK : ∀ v h', VR σ y v → HR P G h0 σ H' h' → K v h') : ∃ p, v = .pointer p ∧ nxS h p (fun i c h' => K (.tuple ⟨[.bool true, goInt i, .int .i32 c]⟩) h') fun h' => K (.tuple ⟨[.bool false]⟩) h' := by
  unfold nxX at hx
  split at hx
  · rename_i b
    split at hx
    · rename_i l n hg
      unfold VR at hv; obtain ⟨p, hp, rfl⟩ := hv
      obtain ⟨q, z, k1, k2, k3⟩ := hh.obj b _ hg
      rw [hp] at k1; cases k1
      unfold OR at k3
      obtain ⟨s, rfl, rfl, h0r, hd⟩ := k3
      have hat : p.at 0 = ⟨p.r, 0, none⟩ := by simp [Pl.at, hd]
      rw [hat]
      refine ⟨_, rfl, ?_⟩
      unfold nxS
      simp only [k2]
      split at hx
      · rename_i c hc
        obtain ⟨hb, hxx⟩ := condN hx
        cases hxx
        have hb : c < 128 := by simpa [Nat.blt_eq] using hb
        obtain ⟨hlt, hgc⟩ := bl_get hc
        rw [decide_eq_true hlt, cond_true]
        have hdec : Utf8.decode s n = (c, 1) := by
          unfold Utf8.decode
          have : (s.get! (n + 0)).toNat = c := by
            rw [Nat.add_zero, ← hgc]
            rfl
          simp only [this]
          rw [if_pos hb]
        rw [hdec]
        dsimp only
        refine hK _ _ ?_ (hh.chg hg hp h0r (by unfold OR; exact ⟨s, rfl, rfl, h0r, hd⟩))
        unfold VR
        refine ⟨_, rfl, ?_⟩
        unfold VRs; refine ⟨_, _, rfl, by unfold VR; rfl, ?_⟩
        unfold VRs; refine ⟨_, _, rfl, by unfold VR; rfl, ?_⟩
        unfold VRs; refine ⟨_, _, rfl, by unfold VR; rfl, ?_⟩
        unfold VRs; rfl
      · rename_i hc
        cases hx
        have hge : ¬ n < s.size := by
          intro hlt
          rw [List.getElem?_eq_none_iff, bl_len] at hc; omega
        rw [decide_eq_false hge, cond_false]
        refine hK _ _ ?_ hh
        unfold VR
        refine ⟨_, rfl, ?_⟩
        unfold VRs; refine ⟨_, _, rfl, by unfold VR; rfl, ?_⟩
        unfold VRs; rfl
    · cases hx
  · cases hx
end
end Go.Ix

/-
  All effects in one.
-/
set_option linter.unusedSimpArgs false
set_option linter.unusedVariables false
namespace Go.Ix
open Go Go.Hw

section
variable {P : Program} {E : Nat → Bool} {G : Nat} {h0 : Hp} {σ σ' : Sig} {H : CH} {h : Hp} {env : CE} {ρ : Env}

def bltX (P : Program) (H : CH) (b : Builtin) (ts : List TypeId) (l : List CV) : Option (CV × CH) :=
  match b, ts, l with
  | .append, t :: u :: _, [s, y] => match P.underlying t with
    | some (.slice e) => bif bytes0 P e && notIntT P u then apX P H e s y else none
    | _ => none
  | .copy, t :: _, [s, y] => match P.underlying t with
    | some (.slice e) => bif (P.info? e).isSome then cpX P H e s y else none
    | _ => none
  | .delete, t :: _, [m, k] => match mdX P H t m k with
    | some H' => some (.tup [], H')
    | none => none
  | .clear, t :: _, [m] => match P.underlying t with
    | some (.map _ _) => match m with
      | .mnil => some (.tup [], H)
      | .map b => match H.t.get b with
        | some (.mp _ c) => some (.tup [], ⟨H.t.set b (some (.mp [] c)), H.nx⟩)
        | _ => none
      | _ => none
    | _ => none
  | _, _, _ => none
theorem isSl {s : CV} {v : Value} {P : Program} {H : CH} {e : TypeId} {y z : CV} {H' : CH} (hx : apX P H e s y = some (z, H') ∨ cpX P H e s y = some (z, H')) (hs : VR σ s v) : ∃ p n c, v = .slice p n c := by
  cases s
  case snil => unfold VR at hs; exact ⟨_, _, _, hs⟩
  case slc => obtain ⟨p, c, _, rfl⟩ := slc_ok hs; exact ⟨_, _, _, rfl⟩
  all_goals
    exfalso
    rcases hx with hx | hx
    · unfold apX at hx
      split at hx
      · split at hx <;> cases hx
      · cases hx
    · unfold cpX at hx
      split at hx <;> cases hx
theorem bltX_known {b : Builtin} {ts : List TypeId} {l : List CV} {y : CV} {H' : CH} (hx : bltX P H b ts l = some (y, H')) : knownB b = true := by
  unfold bltX at hx
  split at hx <;> first | rfl | cases hx
theorem bltX_ok (hh : HR P G h0 σ H h) {b : Builtin} {ts : List TypeId} {l : List CV} {vs : List Value} {y : CV} {H' : CH} (hx : bltX P H b ts l = some (y, H')) (hv : VRs σ l vs) {K : Value → Hp → Prop}
    (hK : ∀ σ' v h', Le σ σ' → VR σ' y v → HR P G h0 σ' H' h' → K v h') : bltK P b ts vs h K := by
  unfold bltX at hx
  split at hx
  · split at hx
    · rename_i e hu
      cases hb : bytes0 P e && notIntT P _ with
      | false => rw [hb] at hx; cases hx
      | true =>
        rw [hb] at hx
        unfold VRs at hv; obtain ⟨v, r, rfl, h1, h2⟩ := hv
        unfold VRs at h2; obtain ⟨w, r, rfl, h2, h3⟩ := h2
        unfold VRs at h3; subst h3
        unfold bltK; simp only []
        unfold elT; rw [hu]; simp only []; rw [hb]
        obtain ⟨p, n, c, rfl⟩ := isSl (.inl hx) h1
        exact apX_ok hh hx h1 h2 fun σ' s h' hl hr hh' => hK σ' _ h' hl hr hh'
    · cases hx
  · split at hx
    · rename_i e hu
      cases hb : (P.info? e).isSome with
      | false => rw [hb] at hx; cases hx
      | true =>
        rw [hb] at hx
        unfold VRs at hv; obtain ⟨v, r, rfl, h1, h2⟩ := hv
        unfold VRs at h2; obtain ⟨w, r, rfl, h2, h3⟩ := h2
        unfold VRs at h3; subst h3
        unfold bltK; simp only []
        unfold elT; rw [hu]; simp only []; rw [hb]
        obtain ⟨p, n, c, rfl⟩ := isSl (.inr hx) h1
        exact cpX_ok hh hx h1 h2 fun r h' hr hh' => hK σ _ h' (Le.refl σ) hr hh'
    · cases hx
  · split at hx
    · rename_i H1 hm
      cases hx
      unfold VRs at hv; obtain ⟨v, r, rfl, h1, h2⟩ := hv
      unfold VRs at h2; obtain ⟨w, r, rfl, h2, h3⟩ := h2
      unfold VRs at h3; subst h3
      unfold bltK; simp only []
      exact mdX_ok hh hm h1 h2 fun h' hh' => hK σ _ h' (Le.refl σ) VR_undef hh'
    · cases hx
  · split at hx
    · rename_i hu
      unfold VRs at hv; obtain ⟨v, r, rfl, h1, h2⟩ := hv
      unfold VRs at h2; subst h2
      unfold bltK; simp only []; rw [hu]; simp only []
      split at hx
      · cases hx; unfold VR at h1; subst h1; exact hK σ _ h (Le.refl σ) VR_undef hh
      · rename_i b
        split at hx
        · rename_i es c hg
          cases hx
          unfold VR at h1; obtain ⟨p, hp, rfl⟩ := h1
          obtain ⟨q, z, k1, k2, k3⟩ := hh.obj b _ hg
          rw [hp] at k1; cases k1
          unfold OR at k3
          obtain ⟨l, rfl, he, h0r⟩ := k3
          simp only []; unfold clM; simp only [k2]
          exact hK σ _ _ (Le.refl σ) VR_undef (hh.chg hg hp h0r (by unfold OR; exact ⟨[], rfl, by unfold entR; rfl, h0r⟩))
        · cases hx
      · cases hx
    · cases hx
  · cases hx

def eX (P : Program) (G : Nat) (H : CH) (env : CE) (o : Oper) : Option (CV × CH) :=
  match o.op with
  | .store t a x => match evC G env a, evC G env x with
    | some a, some x => match stX P H t a x with
      | some H' => some (.tup [], H')
      | none => none
    | _, _ => none
  | .alloc e => allocX P H e
  | .box e x => match evC G env x with
    | some x => some (boxX H e x)
    | none => none
  | .buildSlice t n ps => match evPs G env ps.toList with
    | some ps => bsX P H t n ps
    | none => none
  | .makeSlice t l c => match evC G env l, evC G env c with
    | some l, some c => mkX P H t l c
    | _, _ => none
  | .convert s d x => match evC G env x with
    | some x => s2bX P H s d x
    | none => none
  | .mapUpdate t m k x => match evC G env m, evC G env k, evC G env x with
    | some m, some k, some x => match muX P H t m k x with
      | some H' => some (.tup [], H')
      | none => none
    | _, _, _ => none
  | .insert t m k x => match evC G env m, evC G env k, evC G env x with
    | some m, some k, some x => match muX P H t m k x with
      | some H' => some (.tup [], H')
      | none => none
    | _, _, _ => none
  | .makeMap t none => some (mmpX H)
  | .range t x => match evC G env x with
    | some x => rgX P H t x
    | none => none
  | .next x true => match evC G env x with
    | some x => nxX H x
    | none => none
  | .call ⟨.builtin b, args, ts⟩ => match evCs G env args.toList with
    | some l => bltX P H b ts.toList l
    | none => none
  | _ => none
theorem some_unit {o : Oper} {K : Value → Hp → Prop} {s : Sem Unit} {l : List Operand} (hl : o.op.operands.toList = l) (hs : isSel o.op = false) (ho : okAll ρ l = true)
    (he : execOp (evD ρ) o = do s; pure Next.skip) (hk : swp P s h fun _ h' => K undef h') : someAny ρ P o h K := by
  unfold someAny
  rw [hl, ho, hs]
  show opS P o (evD ρ) h K
  unfold opS
  rw [he]
  exact uswp hk
theorem eX_ok (he : ER σ env ρ) (hh : HR P G h0 σ H h) {o : Oper} {y : CV} {H' : CH} (hx : eX P G H env o = some (y, H')) {K : Value → Hp → Prop} (hK : ∀ σ' v h', Le σ σ' → VR σ' y v → HR P G h0 σ' H' h' → K v h') : opK P E o ρ h K := by
  obtain ⟨dst, op, type, pos, after, guard⟩ := o
  unfold eX at hx
  cases op <;> simp only [] at hx <;> first | (cases hx; done) | skip
  case store t a x =>
    split at hx
    · rename_i ca cx ha hxx
      split at hx
      · rename_i H1 hs
        cases hx
        obtain ⟨va, a1, a2⟩ := evC_ok ha he hh
        obtain ⟨vx, x1, x2⟩ := evC_ok hxx he hh
        unfold opK
        refine mv_ok a1 (mv_ok x1 ?_)
        exact stX_ok (F := fun h' => K undef h') hh hs a2 x2 fun h' hh' => hK σ _ h' (Le.refl σ) VR_undef hh'
      · cases hx
    · cases hx
  case alloc e =>
    unfold opK
    exact some_any (l := []) rfl rfl rfl rfl (alloc_ok hh hx hK)
  case box e x =>
    split at hx
    · rename_i c hc
      cases hx
      obtain ⟨v, h1, h2⟩ := evC_ok hc he hh
      unfold opK
      exact some_any rfl rfl (ok1 h1) rfl (by rw [(some1 h1).2]; exact box_ok hh h2 hK)
    · cases hx
  case buildSlice t n ps =>
    split at hx
    · rename_i c hc
      obtain ⟨h1, h2⟩ := evPs_ok he hh hc
      unfold opK
      have e0 : execOp (evD ρ) ⟨dst, .buildSlice t n ps, type, pos, after, guard⟩ = (Instr.buildSlice t n (ps.map fun (p : Nat × Operand) => (p.1, evD ρ p.2)) >>= fun x => pure (Next.value x)) :=
        congrArg (fun q => Instr.buildSlice t n q >>= fun x => pure (Next.value x)) rfl
      refine some_any (l := ps.toList.map (·.2)) (s := Instr.buildSlice t n (ps.map fun (p : Nat × Operand) => (p.1, evD ρ p.2))) (by simp [Op.operands]) rfl h2 e0 ?_
      have e : (ps.map fun (p : Nat × Operand) => (p.1, evD ρ p.2)) = ⟨ps.toList.map fun (p : Nat × Operand) => (p.1, evD ρ p.2)⟩ := by apply Array.ext'; simp
      show swp P (Instr.buildSlice t n (ps.map fun (p : Nat × Operand) => (p.1, evD ρ p.2))) h K
      rw [e]; exact bsX_ok hh hx h1 hK
    · cases hx
  case makeSlice t l c =>
    split at hx
    · rename_i cl cc hl hc
      obtain ⟨vl, l1, l2⟩ := evC_ok hl he hh
      obtain ⟨vc, c1, c2⟩ := evC_ok hc he hh
      unfold opK
      exact mv_ok l1 (mv_ok c1 (mkX_ok hh hx l2 c2 hK))
    · cases hx
  case convert s d x =>
    split at hx
    · rename_i c hc
      obtain ⟨v, h1, h2⟩ := evC_ok hc he hh
      unfold opK
      exact mv_ok h1 (s2bX_ok hh hx h2 hK)
    · cases hx
  case mapUpdate t m k x =>
    split at hx
    · rename_i cm ck cx hm hk hxx
      split at hx
      · rename_i H1 hu
        cases hx
        obtain ⟨vm, m1, m2⟩ := evC_ok hm he hh
        obtain ⟨vk, k1, k2⟩ := evC_ok hk he hh
        obtain ⟨vx, x1, x2⟩ := evC_ok hxx he hh
        unfold opK
        refine mv_ok m1 (mv_ok k1 (mv_ok x1 ?_))
        exact muX_ok (F := fun h' => K undef h') hh hu m2 k2 x2 fun h' hh' => hK σ _ h' (Le.refl σ) VR_undef hh'
      · cases hx
    · cases hx
  case insert t m k x =>
    split at hx
    · rename_i cm ck cx hm hk hxx
      split at hx
      · rename_i H1 hu
        cases hx
        obtain ⟨vm, m1, m2⟩ := evC_ok hm he hh
        obtain ⟨vk, k1, k2⟩ := evC_ok hk he hh
        obtain ⟨vx, x1, x2⟩ := evC_ok hxx he hh
        unfold opK
        refine some_unit (l := [m, k, x]) (s := Instr.mapUpdate t (evD ρ m) (evD ρ k) (evD ρ x)) rfl rfl (by simp [okAll, (some1 m1).1, (some1 k1).1, (some1 x1).1]) rfl ?_
        rw [(some1 m1).2, (some1 k1).2, (some1 x1).2]
        exact muK_swp (K := fun _ h' => K undef h') (muX_ok (F := fun h' => K undef h') hh hu m2 k2 x2 fun h' hh' => hK σ _ h' (Le.refl σ) VR_undef hh')
      · cases hx
    · cases hx
  case makeMap t r =>
    cases r with
    | some r => cases hx
    | none =>
      cases hx
      unfold opK
      exact some_any (l := []) rfl rfl rfl rfl (mmpX_ok hh hK)
  case range t x =>
    split at hx
    · rename_i c hc
      obtain ⟨v, h1, h2⟩ := evC_ok hc he hh
      unfold opK
      exact mv_ok h1 (rgX_ok hh hx h2 hK)
    · cases hx
  case next x b =>
    cases b with
    | false => cases hx
    | true =>
      simp only [] at hx
      split at hx
      · rename_i c hc
        obtain ⟨v, h1, h2⟩ := evC_ok hc he hh
        unfold opK
        obtain ⟨p, rfl, hn⟩ := nxX_ok (K := K) hh hx h2 fun v h' hv hh' => hK σ v h' (Le.refl σ) hv hh'
        exact mv_ok h1 hn
      · cases hx
  case call c =>
    obtain ⟨callee, args, ts⟩ := c
    cases callee with
    | value f => cases hx
    | invoke r m => cases hx
    | builtin b =>
      simp only [] at hx
      split at hx
      · rename_i l hl
        obtain ⟨vs, a1, a2, a3, a4⟩ := evCs_ok he hh hl
        unfold opK
        show bif knownB b then (mvs ρ args.toList [] fun vs => bltK P b ts.toList vs h K) else _
        rw [show knownB b = true from bltX_known hx]
        show mvs ρ args.toList [] fun vs => bltK P b ts.toList vs h K
        exact a4 [] _ (bltX_ok hh hx a1 hK)
      · cases hx
end
end Go.Ix

/-
  Functions of the library without a body that the machine knows by name.
-/
set_option linter.unusedSimpArgs false
set_option linter.unusedVariables false
namespace Go.Ix
open Go Go.Hw

inductive ExK where
  | ib | ns
def exOf (P : Program) (g : Nat) : Option ExK := match P.funcs[g]? with
  | some fn => match fn.body with
    | some _ => none
    | none => bif fn.origin == "" && !(fn.name == "runtime.NumGoroutine") then
        (bif fn.name == "internal/bytealg.IndexByte" then some .ib else bif fn.name == "internal/bytealg.IndexByteString" then some .ib else bif fn.name == "internal/abi.NoEscape" then some .ns else none) else none
  | none => none
def byX (H : CH) : CV → Option (List Nat)
  | .str l => some l
  | .snil => some []
  | .slz _ _ _ => some []
  | .slc b o n _ => match rdC H b o n with
    | some l => bytesX l
    | none => none
  | _ => none
def idxX (c : Nat) : List Nat → Nat → Option Nat
  | [], _ => none
  | x :: l, i => bif Nat.beq x c then some i else idxX c l (i + 1)
def extX (k : ExK) (H : CH) (args : List CV) : Option CV :=
  match k with
  | .ib => match args with
    | [b, .int .u8 c] => match byX H b with
      | some l => match idxX (c.toNat % 256) l 0 with
        | some i => some (.int .i64 (Int.ofNat i))
        | none => some (.int .i64 (-1))
      | none => none
    | _ => none
  | .ns => match args with
    | [x] => some x
    | _ => none

section
variable {P : Program} {G : Nat} {h0 : Hp} {σ : Sig} {H : CH} {h : Hp}

theorem loadBytes_swp : ∀ {n : Nat} {l : List CV} {r : List Nat} {vs : List Value} {a : Addr} {acc : ByteArray} {K : ByteArray → Hp → Prop}, bytesX l = some r → VRs σ l vs → vs.length = n →
    (∀ (j : Nat) (v : Value), vs[j]? = some v → cell h (a.add j) = some v) → (∀ s, bl s = bl acc ++ r → K s h) → swp P (Extern.Bytes.loadBytes a n acc) h K := by
  intro n
  induction n with
  | zero =>
    intro l r vs a acc K hb hv hn hc hK
    have := List.length_eq_zero_iff.1 hn; subst this
    have hl : l = [] := by have := hv.len; simp at this; exact List.length_eq_zero_iff.1 this.symm
    subst hl
    cases hb
    exact hK acc (by simp)
  | succ n ih =>
    intro l r vs a acc K hb hv hn hc hK
    cases l with
    | nil => unfold VRs at hv; subst hv; simp at hn
    | cons x l =>
      unfold VRs at hv; obtain ⟨v, vs, rfl, hx, hv⟩ := hv
      cases x <;> first | (simp [bytesX] at hb; done) | skip
      rename_i k m
      cases k <;> first | (simp [bytesX] at hb; done) | skip
      simp only [bytesX] at hb
      split at hb
      · rename_i r' hr
        cases hb
        unfold VR at hx; subst hx
        unfold Extern.Bytes.loadBytes
        rw [swp_bind']
        refine ⟨_, by simpa [Addr.add] using hc 0 _ rfl, ?_⟩
        refine ih hr hv (by simpa using hn) ?_ ?_
        · intro j v hj
          have := hc (j + 1) v (by simpa using hj)
          rw [← this]
          congr 1
          unfold Addr.add
          by_cases e : j = 0
          · subst e; simp
          · simp [e]; omega
        · intro s hs
          refine hK s ?_
          rw [hs]
          simp [bl]
      · cases hb
theorem bytesOf_ok (hh : HR P G h0 σ H h) {x : CV} {l : List Nat} {v : Value} (hx : byX H x = some l) (hv : VR σ x v) {K : ByteArray → Hp → Prop} (hK : ∀ s, bl s = l → K s h) : swp P (Extern.Bytes.bytesOf v) h K := by
  cases x <;> simp [byX] at hx
  · subst hx; unfold VR at hv; obtain ⟨s, rfl, rfl⟩ := hv; exact hK s rfl
  · subst hx; unfold VR at hv; subst hv; exact hK _ rfl
  · split at hx
    · rename_i m hm
      obtain ⟨p, c, hp, rfl⟩ := slc_ok hv
      obtain ⟨vs, h1, h2, h3⟩ := rdC_ok hh hm hp
      unfold Extern.Bytes.bytesOf
      refine loadBytes_swp hx h1 h2 ?_ ?_
      · intro j v hj; rw [at_add]; exact h3 j v hj
      · intro s hs; exact hK s (by rw [hs]; rfl)
    · cases hx
  · subst hx; unfold VR at hv; obtain ⟨p, c, hp, rfl, hc, hsz, hl⟩ := hv
    unfold Extern.Bytes.bytesOf
    exact hK _ rfl
theorem idxX_ok (c : UInt8) (f : Nat → UInt8) : ∀ (u : List UInt8) (k : Nat), (∀ (j : Nat) (x : UInt8), u[j]? = some x → f (k + j) = x) → (List.range' k u.length).find? (fun i => f i == c) = idxX c.toNat (u.map UInt8.toNat) k := by
  intro u
  induction u with
  | nil => intro k _; rfl
  | cons x u ih =>
    intro k hf
    simp only [List.length_cons, List.range'_succ, List.map_cons, idxX]
    have h0 : f k = x := by simpa using hf 0 x rfl
    rw [List.find?_cons, h0]
    have e : (x == c) = Nat.beq x.toNat c.toNat := by
      cases hb : Nat.beq x.toNat c.toNat with
      | true => have := UInt8.toNat_inj.1 (Nat.eq_of_beq_eq_true hb); simp [this]
      | false => have : x ≠ c := by (rintro rfl; exact Nat.ne_of_beq_eq_false hb rfl)
                 simp [this]
    rw [e]
    cases Nat.beq x.toNat c.toNat with
    | true => rfl
    | false =>
      simp only [cond_false]
      exact ih (k + 1) fun j y hy => by
        have := hf (j + 1) y (by simpa using hy)
        rw [← this]; congr 1; omega
theorem ib_ok (hh : HR P G h0 σ H h) {args : List CV} {vs : List Value} {y : CV} (hx : extX .ib H args = some y) (hv : VRs σ args vs) : ∃ v, VR σ y v ∧ ∀ K : Value → Hp → Prop, K v h → swp P (Extern.BytealgIndexByte.indexByte ⟨vs⟩) h K := by
  unfold extX at hx
  simp only [] at hx
  split at hx
  · rename_i b c
    split at hx
    · rename_i l hl
      unfold VRs at hv; obtain ⟨v1, r, rfl, h1, hv⟩ := hv
      unfold VRs at hv; obtain ⟨v2, r, rfl, h2, hv⟩ := hv
      unfold VRs at hv; subst hv
      unfold VR at h2; subst h2
      have key : ∀ s : ByteArray, bl s = l → (List.range s.size).find? (fun i => s[i]! == c.toNat.toUInt8) = idxX (c.toNat % 256) l 0 := by
        intro s hs
        subst hs
        have := idxX_ok c.toNat.toUInt8 (fun i => s[i]!) s.data.toList 0 (by
          intro j x hj
          rw [Nat.zero_add]
          have hlt := (List.getElem?_eq_some_iff.1 hj).1
          rw [List.getElem?_eq_getElem hlt] at hj
          simp only [Option.some.injEq] at hj
          rw [← hj]
          have : j < s.size := by simpa using hlt
          rw [getElem!_pos s j this]
          simp [ByteArray.getElem_eq_getElem_data])
        rw [List.range_eq_range', ← (show c.toNat.toUInt8.toNat = c.toNat % 256 from by simp [Nat.toUInt8])]
        simpa [bl] using this
      split at hx
      · rename_i i hi
        cases hx
        refine ⟨.int .i64 (Int.ofNat i), by unfold VR; rfl, fun K hK => ?_⟩
        refine Eq.mpr (swp_bind' (Extern.Bytes.bytesOf v1) (fun b => do let c ← Extern.Bytes.asByte (.int .u8 c); match (List.range b.size).find? fun i => b[i]! == c with | some i => pure (goInt i) | none => pure (goInt (-1))) h K) ?_
        refine bytesOf_ok hh hl h1 fun s hs => ?_
        change swp P (match (List.range s.size).find? fun i => s[i]! == c.toNat.toUInt8 with | some i => pure (goInt i) | none => pure (goInt (-1))) h K
        rw [key s hs, hi]
        exact hK
      · rename_i hi
        cases hx
        refine ⟨.int .i64 (-1), by unfold VR; rfl, fun K hK => ?_⟩
        refine Eq.mpr (swp_bind' (Extern.Bytes.bytesOf v1) (fun b => do let c ← Extern.Bytes.asByte (.int .u8 c); match (List.range b.size).find? fun i => b[i]! == c with | some i => pure (goInt i) | none => pure (goInt (-1))) h K) ?_
        refine bytesOf_ok hh hl h1 fun s hs => ?_
        change swp P (match (List.range s.size).find? fun i => s[i]! == c.toNat.toUInt8 with | some i => pure (goInt i) | none => pure (goInt (-1))) h K
        rw [key s hs, hi]
        exact hK
    · cases hx
  · cases hx

theorem und (fn : Func) (n : String) (hn : fn.name = n) (e : Array Value → Sem Value) (h1 : Extern.allNextRows.lookup n = none) (h2 : Extern.allGenericRows.lookup n = none) (h3 : Extern.allTypedRows.lookup n = none)
    (h4 : Extern.allRows.lookup n = some e) (ho : fn.origin = "") (h5 : Extern.allNextRows.lookup "" = none) : Extern.findNext fn = none ∧ Extern.find fn = some e := by
  unfold Extern.findNext Extern.find
  simp only [hn, ho, h1, h2, h3, h4, h5]
  exact ⟨rfl, rfl⟩
theorem ext_fn {g : Nat} {k : ExK} (hk : exOf P g = some k) : ∃ fn, P.funcs[g]? = some fn ∧ fn.body = none ∧ (fn.name == "runtime.NumGoroutine") = false ∧ Extern.findNext fn = none ∧
    Extern.find fn = some (match k with | .ib => Extern.BytealgIndexByte.indexByte | .ns => Extern.AbiNoEscape.same) := by
  unfold exOf at hk
  split at hk
  · rename_i fn hfn
    split at hk
    · cases hk
    · rename_i hb
      cases hc : fn.origin == "" && !(fn.name == "runtime.NumGoroutine") with
      | false => rw [hc] at hk; cases hk
      | true =>
        rw [hc] at hk
        simp only [cond_true] at hk
        simp only [Bool.and_eq_true, Bool.not_eq_true', beq_iff_eq] at hc
        have ho := hc.1
        refine ⟨fn, hfn, hb, by simpa using hc.2, ?_⟩
        cases h1 : fn.name == "internal/bytealg.IndexByte" with
        | true =>
          rw [h1] at hk; cases hk
          exact und fn _ (by simpa using h1) _ (by kernel_rfl) (by kernel_rfl) (by kernel_rfl) (by kernel_rfl) ho (by kernel_rfl)
        | false =>
          rw [h1] at hk
          cases h2 : fn.name == "internal/bytealg.IndexByteString" with
          | true =>
            rw [h2] at hk; cases hk
            exact und fn _ (by simpa using h2) _ (by kernel_rfl) (by kernel_rfl) (by kernel_rfl) (by kernel_rfl) ho (by kernel_rfl)
          | false =>
            rw [h2] at hk
            cases h3 : fn.name == "internal/abi.NoEscape" with
            | true =>
              rw [h3] at hk; cases hk
              exact und fn _ (by simpa using h3) _ (by kernel_rfl) (by kernel_rfl) (by kernel_rfl) (by kernel_rfl) ho (by kernel_rfl)
            | false => rw [h3] at hk; cases hk
  · cases hk
theorem ext_ok (hh : HR P G h0 σ H h) {g : Nat} {k : ExK} (hk : exOf P g = some k) {args : List CV} {vs : List Value} {y : CV} (hx : extX k H args = some y) (hv : VRs σ args vs) :
    ∃ v, VR σ y v ∧ ∀ K : Value → Hp → Prop, K v h → swp P (callFunc g ⟨vs⟩) h (nextK P K) := by
  obtain ⟨fn, h1, h2, h3, h4, h5⟩ := ext_fn hk
  have key : ∀ (e : Array Value → Sem Value), Extern.find fn = some e → ∀ K : Value → Hp → Prop, swp P (e ⟨vs⟩) h K → swp P (callFunc g ⟨vs⟩) h (nextK P K) := by
    intro e he K hK
    unfold callFunc
    simp only [swp_bind']
    change swp P (match P.funcs[g]? with | none => _ | some fn => _) h _
    rw [h1]
    simp only [h3, h2, h4, he, Bool.false_eq_true, if_false, Option.isNone_none, if_true]
    exact vswp hK
  cases k with
  | ib =>
    obtain ⟨v, g1, g2⟩ := ib_ok hh hx hv
    exact ⟨v, g1, fun K hK => key _ h5 K (g2 K hK)⟩
  | ns =>
    unfold extX at hx
    simp only [] at hx
    split at hx
    · cases hx
      unfold VRs at hv; obtain ⟨v, r, rfl, g1, hv⟩ := hv
      unfold VRs at hv; subst hv
      exact ⟨v, g1, fun K hK => key _ h5 K hK⟩
    · cases hx
end
end Go.Ix

/-
  Maps that are walked: every order is looked at.
-/
set_option linter.unusedSimpArgs false
set_option linter.unusedVariables false
namespace Go.Ix
open Go Go.Hw

def memN (n : Nat) : List Nat → Bool
  | [] => false
  | x :: l => Nat.beq n x || memN n l
def leftX (seen : List Nat) : List (CV × CV × Nat) → List (CV × CV × Nat)
  | [] => []
  | (k, v, b) :: l => bif memN b seen then leftX seen l else (k, v, b) :: leftX seen l
def allLt (n : Nat) : List (CV × CV × Nat) → Bool
  | [] => true
  | (_, _, b) :: l => Nat.blt b n && allLt n l
def anyLt (n : Nat) : List (CV × CV × Nat) → Bool
  | [] => false
  | (_, _, b) :: l => Nat.blt b n || anyLt n l
def nilB {α : Type} : List α → Bool
  | [] => true
  | _ => false
def outsX (H : CH) (b : Nat) (m since : Nat) (seen : List Nat) (c : Nat) : List (CV × CV × Nat) → List (CV × CH)
  | [] => []
  | (k, v, n) :: l => (.tup [.bool true, k, v], ⟨H.t.set b (some (.mit (some m) since (seen ++ [n]) c)), H.nx⟩) :: outsX H b m since seen c l
def mnX (H : CH) (x : CV) : Option (List (CV × CH)) :=
  match x with
  | .ptr b 0 => match H.t.get b with
    | some (.mit none _ _ _) => some [(.tup [.bool false], H)]
    | some (.mit (some m) since seen last) => match H.t.get m with
      | some (.mp es c) =>
        bif (nilB seen || nilB es || anyLt last es) && allLt since (leftX seen es) then
          (match leftX seen es with
          | [] => some [(.tup [.bool false], H)]
          | e :: l => some (outsX H b m since seen c (e :: l)))
        else none
      | _ => none
    | _ => none
  | _ => none

section
variable {P : Program} {G : Nat} {h0 : Hp} {σ : Sig} {H : CH} {h : Hp}

theorem memN_ok {n : Nat} : ∀ {l : List Nat}, memN n l = l.contains n := by
  intro l
  induction l with
  | nil => rfl
  | cons x l ih =>
    simp only [memN, List.contains_cons, ih]
    cases hb : Nat.beq n x with
    | true => rw [Nat.eq_of_beq_eq_true hb]; simp
    | false => have : (n == x) = false := by simpa using Nat.ne_of_beq_eq_false hb
               rw [this]
theorem entR_left {seen : List Nat} : ∀ {es : List (CV × CV × Nat)} {l : List MapEntry}, entR σ es l → entR σ (leftX seen es) (l.filter fun e => !seen.contains e.born) := by
  intro es
  induction es with
  | nil => intro l h; unfold entR at h; subst h; unfold leftX entR; rfl
  | cons e es ih =>
    intro l h
    obtain ⟨k, v, b⟩ := e
    unfold entR at h; obtain ⟨e, r, rfl, h1, h2, h3, h4⟩ := h
    unfold leftX
    rw [memN_ok, ← h3]
    cases hc : seen.contains e.born with
    | true => simp only [cond_true]; rw [List.filter_cons_of_neg (by show ¬ (!seen.contains e.born) = true; rw [hc]; decide)]; exact ih h4
    | false =>
      simp only [cond_false]
      rw [List.filter_cons_of_pos (by show (!seen.contains e.born) = true; rw [hc]; rfl)]
      exact ⟨e, _, rfl, h1, h2, rfl, ih h4⟩
theorem allLt_ok {n : Nat} : ∀ {es : List (CV × CV × Nat)} {l : List MapEntry}, entR σ es l → allLt n es = true → ∀ e ∈ l, e.born < n := by
  intro es
  induction es with
  | nil => intro l h _ e he; unfold entR at h; subst h; cases he
  | cons e es ih =>
    intro l h hl x hx
    obtain ⟨k, v, b⟩ := e
    unfold entR at h; obtain ⟨e, r, rfl, h1, h2, h3, h4⟩ := h
    simp only [allLt, Bool.and_eq_true] at hl
    cases hx with
    | head => rw [h3]; simpa [Nat.blt_eq] using hl.1
    | tail _ hm => exact ih h4 hl.2 x hm
theorem anyLt_ok {n : Nat} : ∀ {es : List (CV × CV × Nat)} {l : List MapEntry}, entR σ es l → anyLt n es = true → ∃ e ∈ l, e.born < n := by
  intro es
  induction es with
  | nil => intro l h hl; cases hl
  | cons e es ih =>
    intro l h hl
    obtain ⟨k, v, b⟩ := e
    unfold entR at h; obtain ⟨e, r, rfl, h1, h2, h3, h4⟩ := h
    simp only [anyLt, Bool.or_eq_true] at hl
    rcases hl with hl | hl
    · exact ⟨e, List.mem_cons_self .., by rw [h3]; simpa [Nat.blt_eq] using hl⟩
    · obtain ⟨x, hx, hlt⟩ := ih h4 hl
      exact ⟨x, List.mem_cons_of_mem _ hx, hlt⟩
theorem entR_get : ∀ {es : List (CV × CV × Nat)} {l : List MapEntry}, entR σ es l → ∀ {j : Nat} {e : MapEntry}, l[j]? = some e → ∃ k v, es[j]? = some (k, v, e.born) ∧ VR σ k e.key ∧ VR σ v e.val := by
  intro es
  induction es with
  | nil => intro l h j e he; unfold entR at h; subst h; simp at he
  | cons x es ih =>
    intro l h j e he
    obtain ⟨k, v, b⟩ := x
    unfold entR at h; obtain ⟨y, r, rfl, h1, h2, h3, h4⟩ := h
    cases j with
    | zero => simp at he; subst he; exact ⟨k, v, by simp [h3], h1, h2⟩
    | succ j => simp at he; obtain ⟨k', v', g1, g2⟩ := ih h4 he; exact ⟨k', v', by simpa using g1, g2⟩
theorem outsX_mem {b m since : Nat} {seen : List Nat} {c : Nat} : ∀ {es : List (CV × CV × Nat)} {j : Nat} {k v : CV} {n : Nat}, es[j]? = some (k, v, n) →
    (.tup [.bool true, k, v], ⟨H.t.set b (some (.mit (some m) since (seen ++ [n]) c)), H.nx⟩) ∈ outsX H b m since seen c es := by
  intro es
  induction es with
  | nil => intro j k v n h; simp at h
  | cons x es ih =>
    intro j k v n h
    obtain ⟨k', v', b'⟩ := x
    unfold outsX
    cases j with
    | zero => simp at h; obtain ⟨rfl, rfl, rfl⟩ := h; exact List.mem_cons_self ..
    | succ j => simp at h; exact List.mem_cons_of_mem _ (ih h)
theorem choose_swp {n : Nat} (hn : 0 < n) {K : Nat → Hp → Prop} (hK : ∀ j, j < n → K j h) : swp P (choose (.mapNext n)) h K := by
  unfold choose
  show bif (Question.mapNext n).forced then K 0 h else ∀ t, K ((Question.mapNext n).cut t) h
  cases hf : (Question.mapNext n).forced with
  | true => exact hK 0 hn
  | false => intro t; exact hK _ (Nat.mod_lt _ hn)
theorem tup1_ok (b : Bool) : VR σ (.tup [.bool b]) (.tuple ⟨[.bool b]⟩) := by
  unfold VR; refine ⟨_, rfl, ?_⟩
  unfold VRs; refine ⟨_, _, rfl, by unfold VR; rfl, ?_⟩
  unfold VRs; rfl
theorem mnX_ok (hh : HR P G h0 σ H h) {x : CV} {v : Value} {l : List (CV × CH)} (hx : mnX H x = some l) (hv : VR σ x v) {K : Value → Hp → Prop}
    (hK : ∀ y H', (y, H') ∈ l → ∀ v h', VR σ y v → HR P G h0 σ H' h' → K v h') : ∃ p, v = .pointer p ∧ nxM h p fun b r h' => K (.tuple ⟨.bool b :: r⟩) h' := by
  unfold mnX at hx
  split at hx
  · rename_i b
    unfold VR at hv; obtain ⟨p, hp, rfl⟩ := hv
    refine ⟨_, rfl, ?_⟩
    split at hx
    · rename_i si se la hg
      cases hx
      obtain ⟨q, z, k1, k2, k3⟩ := hh.obj b _ hg
      rw [hp] at k1; cases k1
      unfold OR at k3
      obtain ⟨r, rfl, hr, h0r, hd⟩ := k3
      have hat : p.at 0 = ⟨p.r, 0, none⟩ := by simp [Pl.at, hd]
      rw [hat]
      cases r with
      | some r => exact hr.elim
      | none =>
        unfold nxM
        simp only [k2]
        exact hK _ _ (List.mem_singleton.2 rfl) _ h (tup1_ok false) hh
    · rename_i m since seen last hg
      split at hx
      · rename_i es c hm
        obtain ⟨q, z, k1, k2, k3⟩ := hh.obj b _ hg
        rw [hp] at k1; cases k1
        unfold OR at k3
        obtain ⟨r, rfl, hr, h0r, hd⟩ := k3
        have hat : p.at 0 = ⟨p.r, 0, none⟩ := by simp [Pl.at, hd]
        rw [hat]
        cases r with
        | none => exact hr.elim
        | some r =>
          obtain ⟨q, hq, rfl⟩ := hr
          obtain ⟨es', g1, g2⟩ := mp_at hh hm hq
          cases hc : (nilB seen || nilB es || anyLt last es) && allLt since (leftX seen es) with
          | false => rw [hc] at hx; cases hx
          | true =>
            rw [hc] at hx
            simp only [cond_true] at hx
            simp only [Bool.and_eq_true] at hc
            have hleft := entR_left (seen := seen) g2
            have hall := allLt_ok hleft hc.2
            have e1 : leftM ⟨seen⟩ ⟨es'⟩ = ⟨es'.filter fun e => !seen.contains e.born⟩ := by simp [leftM]
            have hno : (!(⟨seen⟩ : Array Nat).isEmpty && !(⟨es'⟩ : Array MapEntry).isEmpty && (⟨es'⟩ : Array MapEntry).all (·.born ≥ last)) = false := by
              cases h1 : nilB seen with
              | true => cases seen with
                | nil => rfl
                | cons => cases h1
              | false => cases h2 : nilB es with
                | true => cases es with
                  | nil => unfold entR at g2; subst g2; simp
                  | cons => cases h2
                | false =>
                  rw [h1, h2] at hc
                  obtain ⟨e, he, hlt⟩ := anyLt_ok g2 (by simpa using hc.1)
                  have : (⟨es'⟩ : Array MapEntry).all (·.born ≥ last) = false := by
                    rw [Bool.eq_false_iff]
                    intro ha
                    simp at ha
                    have := ha e he; omega
                  rw [this]; simp
            unfold nxM
            simp only [k2, g1]
            rw [e1]
            refine ⟨hno, fun e he => hall e (by simpa using he), ?_, ?_⟩
            · intro hnil
              have hl0 : (es'.filter fun e => !seen.contains e.born) = [] := by simpa using congrArg Array.toList hnil
              rw [hl0] at hleft
              have hln := entR_len hleft
              have hcons : leftX seen es = [] := List.length_eq_zero_iff.1 (by rw [List.length_nil] at hln; omega)
              rw [hcons] at hx
              cases hx
              exact hK _ _ (List.mem_singleton.2 rfl) _ h (tup1_ok false) hh
            · intro e he
              have he : e ∈ es'.filter fun e => !seen.contains e.born := by simpa using he
              obtain ⟨j, hj, rfl⟩ := List.getElem_of_mem he
              obtain ⟨k, w, f1, f2, f3⟩ := entR_get hleft (List.getElem?_eq_getElem hj)
              split at hx
              · rename_i hnil
                rw [hnil] at f1; simp at f1
              · rename_i e0 l0 hcons
                cases hx
                rw [hcons] at f1
                generalize es'.filter (fun e => !seen.contains e.born) = L at hj f2 f3 f1
                refine hK _ _ (outsX_mem f1) (.tuple ⟨[.bool true, L[j].key, L[j].val]⟩) _ ?_ (hh.chg hg hp h0r ?_)
                · unfold VR; refine ⟨_, rfl, ?_⟩
                  unfold VRs; refine ⟨_, _, rfl, by unfold VR; rfl, ?_⟩
                  unfold VRs; refine ⟨_, _, rfl, f2, ?_⟩
                  unfold VRs; refine ⟨_, _, rfl, f3, ?_⟩
                  unfold VRs; rfl
                · unfold OR
                  exact ⟨some q.r, by simp, ⟨q, hq, rfl⟩, h0r, hd⟩
      · cases hx
    · cases hx
  · cases hx

/-! the entry of a step, read again -/
def lastN : List Nat → Option Nat
  | [] => none
  | [x] => some x
  | _ :: y :: l => lastN (y :: l)
def bornX (n : Nat) : List (CV × CV × Nat) → Option (CV × CV)
  | [] => none
  | (k, v, b) :: l => bif Nat.beq b n then some (k, v) else bornX n l
def entX (H : CH) (x : CV) : Option CV :=
  match x with
  | .ptr b 0 => match H.t.get b with
    | some (.mit (some m) _ seen last) => match lastN seen, H.t.get m with
      | some n, some (.mp es c) => bif Nat.beq c last then (match bornX n es with
        | some (k, v) => some (.tup [k, v])
        | none => none) else none
      | _, _ => none
    | _ => none
  | _ => none
theorem lastN_ok : ∀ {l : List Nat} {n : Nat}, lastN l = some n → (⟨l⟩ : Array Nat).back? = some n := by
  intro l n h
  have : l.getLast? = some n := by
    induction l with
    | nil => cases h
    | cons x l ih =>
      cases l with
      | nil => simpa [lastN] using h
      | cons y l => rw [List.getLast?_cons_cons]; exact ih h
  simpa using this
theorem bornX_ok {n : Nat} : ∀ {es : List (CV × CV × Nat)} {l : List MapEntry}, entR σ es l → ∀ {k v : CV}, bornX n es = some (k, v) → ∃ e, l.find? (·.born == n) = some e ∧ VR σ k e.key ∧ VR σ v e.val := by
  intro es
  induction es with
  | nil => intro l h k v hb; cases hb
  | cons x es ih =>
    intro l h k v hb
    obtain ⟨k', v', b⟩ := x
    unfold entR at h; obtain ⟨e, r, rfl, h1, h2, h3, h4⟩ := h
    simp only [bornX] at hb
    cases hq : Nat.beq b n with
    | true =>
      rw [hq] at hb; cases hb
      exact ⟨e, by rw [List.find?_cons_of_pos (by rw [h3]; simpa using Nat.eq_of_beq_eq_true hq)], h1, h2⟩
    | false =>
      rw [hq] at hb
      obtain ⟨e', g1, g2⟩ := ih h4 hb
      exact ⟨e', by rw [List.find?_cons_of_neg (by rw [h3]; simpa using Nat.ne_of_beq_eq_false hq)]; exact g1, g2⟩
theorem entX_ok (hh : HR P G h0 σ H h) {x y : CV} {v : Value} (hx : entX H x = some y) (hv : VR σ x v) : ∃ w p, v = .pointer p ∧ VR σ y w ∧ ∀ K : Value → Hp → Prop, K w h → enM h p fun a b => K (.tuple ⟨[a, b]⟩) h := by
  unfold entX at hx
  split at hx
  · rename_i b
    unfold VR at hv; obtain ⟨p, hp, rfl⟩ := hv
    split at hx
    · rename_i m since seen last hg
      split at hx
      · rename_i n es c hn hm
        cases hcl : Nat.beq c last with
        | false => rw [hcl] at hx; cases hx
        | true =>
          rw [hcl] at hx
          simp only [cond_true] at hx
          have hcl := Nat.eq_of_beq_eq_true hcl
          subst hcl
          split at hx
          · rename_i k u hb
            cases hx
            obtain ⟨q, z, k1, k2, k3⟩ := hh.obj b _ hg
            rw [hp] at k1; cases k1
            unfold OR at k3
            obtain ⟨r, rfl, hr, h0r, hd⟩ := k3
            have hat : p.at 0 = ⟨p.r, 0, none⟩ := by simp [Pl.at, hd]
            rw [hat]
            cases r with
            | none => exact hr.elim
            | some r =>
              obtain ⟨q, hq, rfl⟩ := hr
              obtain ⟨es', g1, g2⟩ := mp_at hh hm hq
              obtain ⟨e, f1, f2, f3⟩ := bornX_ok g2 hb
              refine ⟨.tuple ⟨[e.key, e.val]⟩, _, rfl, ?_, fun K hK => ?_⟩
              · unfold VR; refine ⟨_, rfl, ?_⟩
                unfold VRs; refine ⟨_, _, rfl, f2, ?_⟩
                unfold VRs; refine ⟨_, _, rfl, f3, ?_⟩
                unfold VRs; rfl
              · unfold enM
                have hf : (⟨es'⟩ : Array MapEntry).find? (·.born == n) = some e := by simpa using f1
                simp only [k2, lastN_ok hn, g1, hf]
                exact ⟨trivial, hK⟩
          · cases hx
      · cases hx
    · cases hx
  · cases hx
end
end Go.Ix

/-
  Two states of the small machine that are one but for the numbers of their blocks.
-/
set_option linter.unusedSimpArgs false
set_option linter.unusedVariables false
namespace Go.Ix
open Go Go.Hw

/-- blocks from 'first' on, so many, are those from 'third' on -/
def pi : List (Nat × Nat × Nat) → Nat → Nat
  | [], b => b
  | (s, n, s') :: l, b => bif Nat.ble s b && Nat.blt b (s + n) then s' + (b - s) else pi l b
mutual
def CV.eqr (π : Nat → Nat) : CV → CV → Bool
  | .int k n, .int k' n' => kindEq k k' && decide (n = n')
  | .bool b, .bool b' => b == b'
  | .str l, .str l' => leq l l'
  | .pnil, .pnil => true
  | .ptr b o, .ptr b' o' => Nat.beq (π b) b' && Nat.beq o o'
  | .snil, .snil => true
  | .slc b o n c, .slc b' o' n' c' => Nat.beq (π b) b' && Nat.beq o o' && Nat.beq n n' && oeq c c'
  | .slz b o l, .slz b' o' l' => Nat.beq (π b) b' && Nat.beq o o' && Nat.beq l l'
  | .mnil, .mnil => true
  | .map b, .map b' => Nat.beq (π b) b'
  | .agg l, .agg l' => CV.eqrs π l l'
  | .tup l, .tup l' => CV.eqrs π l l'
  | .nili, .nili => true
  | .ifc t v, .ifc t' v' => Nat.beq t t' && CV.eqr π v v'
  | .fn f a b, .fn f' a' b' => Nat.beq f f' && CV.eqrs π a a' && CV.eqrs π b b'
  | .nilf, .nilf => true
  | _, _ => false
def CV.eqrs (π : Nat → Nat) : List CV → List CV → Bool
  | [], [] => true
  | x :: l, y :: m => CV.eqr π x y && CV.eqrs π l m
  | _, _ => false
end
section
variable {σ τ : Sig} {π : Nat → Nat}
mutual
theorem CV.eqr_VR (hp : ∀ b p, σ b = some p → τ (π b) = some p) : ∀ (x y : CV) (v : Value), CV.eqr π x y = true → VR σ x v → VR τ y v := by
  intro x y v h hv
  cases x <;> cases y <;> first | (simp [CV.eqr] at h; done) | skip
  case int.int k n k' n' => simp only [CV.eqr, Bool.and_eq_true, decide_eq_true_eq] at h; rw [← kindEq_eq h.1, ← h.2]; exact hv
  case bool.bool => simp [CV.eqr] at h; rw [← h]; exact hv
  case str.str => simp only [CV.eqr] at h; rw [← leq_eq h]; exact hv
  case pnil.pnil => exact hv
  case ptr.ptr =>
    simp only [CV.eqr, Bool.and_eq_true] at h
    rw [← Nat.eq_of_beq_eq_true h.1, ← Nat.eq_of_beq_eq_true h.2]
    unfold VR at hv ⊢; obtain ⟨p, h1, h2⟩ := hv; exact ⟨p, hp _ _ h1, h2⟩
  case snil.snil => exact hv
  case slc.slc b o n c b' o' n' c' =>
    simp only [CV.eqr, Bool.and_eq_true] at h
    rw [← Nat.eq_of_beq_eq_true h.1.1.1, ← Nat.eq_of_beq_eq_true h.1.1.2, ← Nat.eq_of_beq_eq_true h.1.2, ← oeq_eq h.2]
    cases c with
    | some c => unfold VR at hv ⊢; obtain ⟨p, h1, h2⟩ := hv; exact ⟨p, hp _ _ h1, h2⟩
    | none => unfold VR at hv ⊢; obtain ⟨p, c, h1, h2⟩ := hv; exact ⟨p, c, hp _ _ h1, h2⟩
  case slz.slz =>
    simp only [CV.eqr, Bool.and_eq_true] at h
    rw [← Nat.eq_of_beq_eq_true h.1.1, ← Nat.eq_of_beq_eq_true h.1.2, ← Nat.eq_of_beq_eq_true h.2]
    unfold VR at hv ⊢; obtain ⟨p, c, h1, h2⟩ := hv; exact ⟨p, c, hp _ _ h1, h2⟩
  case mnil.mnil => exact hv
  case map.map =>
    simp only [CV.eqr] at h
    rw [← Nat.eq_of_beq_eq_true h]
    unfold VR at hv ⊢; obtain ⟨p, h1, h2⟩ := hv; exact ⟨p, hp _ _ h1, h2⟩
  case agg.agg l m => simp only [CV.eqr] at h; unfold VR at hv ⊢; obtain ⟨vs, h1, h2⟩ := hv; exact ⟨vs, h1, CV.eqrs_VR hp l m vs h h2⟩
  case tup.tup l m => simp only [CV.eqr] at h; unfold VR at hv ⊢; obtain ⟨vs, h1, h2⟩ := hv; exact ⟨vs, h1, CV.eqrs_VR hp l m vs h h2⟩
  case nili.nili => exact hv
  case ifc.ifc t x t' x' =>
    simp only [CV.eqr, Bool.and_eq_true] at h
    rw [← Nat.eq_of_beq_eq_true h.1]
    unfold VR at hv ⊢; obtain ⟨w, h1, h2⟩ := hv; exact ⟨w, h1, CV.eqr_VR hp x x' w h.2 h2⟩
  case fn.fn f a b f' a' b' =>
    simp only [CV.eqr, Bool.and_eq_true] at h
    rw [← Nat.eq_of_beq_eq_true h.1.1]
    unfold VR at hv ⊢; obtain ⟨xs, ys, h1, h2, h3⟩ := hv
    exact ⟨xs, ys, h1, CV.eqrs_VR hp a a' xs h.1.2 h2, CV.eqrs_VR hp b b' ys h.2 h3⟩
  case nilf.nilf => exact hv
theorem CV.eqrs_VR (hp : ∀ b p, σ b = some p → τ (π b) = some p) : ∀ (l m : List CV) (vs : List Value), CV.eqrs π l m = true → VRs σ l vs → VRs τ m vs := by
  intro l m vs h hv
  cases l <;> cases m <;> first | (simp [CV.eqrs] at h; done) | skip
  case nil.nil => exact hv
  case cons.cons x l y m =>
    simp only [CV.eqrs, Bool.and_eq_true] at h
    unfold VRs at hv ⊢; obtain ⟨v, r, h1, h2, h3⟩ := hv
    exact ⟨v, r, h1, CV.eqr_VR hp x y v h.1 h2, CV.eqrs_VR hp l m r h.2 h3⟩
end
theorem CV.eqrs_get : ∀ {l m : List CV}, CV.eqrs π l m = true → l.length = m.length ∧ ∀ {i : Nat} {y : CV}, m[i]? = some y → ∃ x, l[i]? = some x ∧ CV.eqr π x y = true := by
  intro l
  induction l with
  | nil => intro m h; cases m with
    | nil => exact ⟨rfl, fun h => by simp at h⟩
    | cons => cases h
  | cons x l ih =>
    intro m h
    cases m with
    | nil => cases h
    | cons y m =>
      simp only [CV.eqrs, Bool.and_eq_true] at h
      obtain ⟨h1, h2⟩ := ih h.2
      refine ⟨by simp [h1], ?_⟩
      intro i z hz
      cases i with
      | zero => simp at hz; subst hz; exact ⟨x, rfl, h.1⟩
      | succ i => simp at hz; obtain ⟨u, g1, g2⟩ := h2 hz; exact ⟨u, by simpa using g1, g2⟩
def entEq (π : Nat → Nat) : List (CV × CV × Nat) → List (CV × CV × Nat) → Bool
  | [], [] => true
  | (k, v, b) :: l, (k', v', b') :: m => CV.eqr π k k' && CV.eqr π v v' && Nat.beq b b' && entEq π l m
  | _, _ => false
def COeq (π : Nat → Nat) : CO → CO → Bool
  | .row o p m e cs, .row o' p' m' e' cs' => (o == o') && (p == p') && (m == m') && Nat.beq e e' && CV.eqrs π cs cs'
  | .tab cs, .tab cs' => CV.eqrs π cs cs'
  | .mp es c, .mp es' c' => entEq π es es' && Nat.beq c c'
  | .sit l n, .sit l' n' => leq l l' && Nat.beq n n'
  | .mit m s e l, .mit m' s' e' l' => (match m, m' with | none, none => true | some b, some b' => Nat.beq (π b) b' | _, _ => false) && Nat.beq s s' && leq e e' && Nat.beq l l'
  | _, _ => false
theorem entEq_ok (hp : ∀ b p, σ b = some p → τ (π b) = some p) : ∀ {es fs : List (CV × CV × Nat)} {l : List MapEntry}, entEq π es fs = true → entR σ es l → entR τ fs l := by
  intro es
  induction es with
  | nil => intro fs l h he; cases fs with
    | nil => exact he
    | cons x fs => obtain ⟨a, b, c⟩ := x; cases h
  | cons x es ih =>
    intro fs l h he
    obtain ⟨k, v, b⟩ := x
    cases fs with
    | nil => cases h
    | cons y fs =>
      obtain ⟨k', v', b'⟩ := y
      simp only [entEq, Bool.and_eq_true] at h
      unfold entR at he ⊢
      obtain ⟨e, r, h1, h2, h3, h4, h5⟩ := he
      exact ⟨e, r, h1, CV.eqr_VR hp _ _ _ h.1.1.1 h2, CV.eqr_VR hp _ _ _ h.1.1.2 h3, by rw [h4]; exact Nat.eq_of_beq_eq_true h.1.2, ih h.2 h5⟩
theorem COeq_ok {P : Program} {h0 : Hp} (hp : ∀ b p, σ b = some p → τ (π b) = some p) {p : Pl} {o o' : CO} {x : Obj} (h : COeq π o o' = true) (ho : OR P h0 σ p o x) : OR P h0 τ p o' x := by
  cases o <;> cases o' <;> first | (simp [COeq] at h; done) | skip
  case row.row ow op mk e cs ow' op' mk' e' cs' =>
    simp only [COeq, Bool.and_eq_true, beq_iff_eq] at h
    obtain ⟨⟨⟨⟨rfl, rfl⟩, rfl⟩, he⟩, hcs⟩ := h
    have := Nat.eq_of_beq_eq_true he; subst this
    obtain ⟨hl, hg⟩ := CV.eqrs_get hcs
    unfold OR at ho ⊢
    obtain ⟨vs, lo, hi, h1, h2, h3, h4, h5, h6⟩ := ho
    refine ⟨vs, lo, hi, h1, h2, by omega, fun e => by rw [← hl]; exact h4 e, fun i c hc => ?_, h6⟩
    obtain ⟨u, g1, g2⟩ := hg hc
    obtain ⟨v, k1, k2⟩ := h5 i u g1
    exact ⟨v, k1, CV.eqr_VR hp _ _ _ g2 k2⟩
  case tab.tab cs cs' =>
    simp only [COeq] at h
    obtain ⟨hl, hg⟩ := CV.eqrs_get h
    unfold OR at ho ⊢
    obtain ⟨vs, e, fr, h1, h5⟩ := ho
    refine ⟨vs, e, fr, h1, fun i c hc => ?_⟩
    obtain ⟨u, g1, g2⟩ := hg hc
    obtain ⟨v, k1, k2⟩ := h5 i u g1
    exact ⟨v, k1, CV.eqr_VR hp _ _ _ g2 k2⟩
  case mp.mp es c es' c' =>
    simp only [COeq, Bool.and_eq_true] at h
    have := Nat.eq_of_beq_eq_true h.2; subst this
    unfold OR at ho ⊢
    obtain ⟨l, h1, h2, h3⟩ := ho
    exact ⟨l, h1, entEq_ok hp h.1 h2, h3⟩
  case sit.sit l n l' n' =>
    simp only [COeq, Bool.and_eq_true] at h
    rw [← leq_eq h.1, ← Nat.eq_of_beq_eq_true h.2]; exact ho
  case mit.mit m s e l m' s' e' l' =>
    simp only [COeq, Bool.and_eq_true] at h
    obtain ⟨⟨⟨hm, hs⟩, he⟩, hl⟩ := h
    rw [← Nat.eq_of_beq_eq_true hs, ← leq_eq he, ← Nat.eq_of_beq_eq_true hl]
    unfold OR at ho ⊢
    obtain ⟨r, h1, h2, h3⟩ := ho
    refine ⟨r, h1, ?_, h3⟩
    cases m <;> cases m' <;> cases r <;> first | (simp at hm; done) | exact h2 | skip
    obtain ⟨q, g1, g2⟩ := h2
    exact ⟨q, by rw [← Nat.eq_of_beq_eq_true hm]; exact hp _ _ g1, g2⟩
end

/-! trees -/
/-- every entry of a tree; the keys are a * k + b -/
def allT {α : Type} (q : Nat → α → Bool) : T α → Nat → Nat → Bool
  | .leaf, _, _ => true
  | .node l v r, a, b => (match v with | some x => q b x | none => true) && (allT q l (2 * a) (a + b) && allT q r (2 * a) (2 * a + b))
theorem allT_get {α : Type} {q : Nat → α → Bool} : ∀ {t : T α} {a b k : Nat} {x : α}, allT q t a b = true → t.get k = some x → q (a * k + b) x = true := by
  intro t
  induction t with
  | leaf => intro a b k x _ h; cases h
  | node l v r ihl ihr =>
    intro a b k x h hg
    simp only [allT, Bool.and_eq_true] at h
    simp only [T.get] at hg
    cases h0 : Nat.beq k 0 with
    | true =>
      rw [h0] at hg
      have := Nat.eq_of_beq_eq_true h0; subst this
      simp only [cond_true] at hg
      rw [hg] at h
      simpa using h.1
    | false =>
      rw [h0] at hg
      have hk := Nat.ne_of_beq_eq_false h0
      simp only [cond_false] at hg
      cases h1 : Nat.beq (k % 2) 1 with
      | true =>
        rw [h1] at hg
        have := ihl h.2.1 hg
        have hk2 := Nat.eq_of_beq_eq_true h1
        have e : 2 * a * (k / 2) + (a + b) = a * k + b := by
          obtain ⟨m, rfl⟩ : ∃ m, k = 2 * m + 1 := ⟨k / 2, by omega⟩
          rw [show (2 * m + 1) / 2 = m by omega, Nat.mul_add, Nat.mul_one, Nat.mul_right_comm, Nat.mul_comm (2 * m) a, ← Nat.mul_assoc, Nat.mul_comm a 2]; omega
        rw [e] at this; exact this
      | false =>
        rw [h1] at hg
        have := ihr h.2.2 hg
        have hk2 := Nat.ne_of_beq_eq_false h1
        have e : 2 * a * (k / 2 - 1) + (2 * a + b) = a * k + b := by
          obtain ⟨m, rfl⟩ : ∃ m, k = 2 * m + 2 := ⟨k / 2 - 1, by omega⟩
          rw [show (2 * m + 2) / 2 - 1 = m by omega, Nat.mul_add, ← Nat.mul_assoc, Nat.mul_comm a 2]; omega
        rw [e] at this; exact this
def ranB (q : Nat → Bool) : Nat → Bool
  | 0 => true
  | n + 1 => q n && ranB q n
theorem ranB_get {q : Nat → Bool} : ∀ {n : Nat}, ranB q n = true → ∀ i, i < n → q i = true := by
  intro n
  induction n with
  | zero => intro _ i h; omega
  | succ n ih =>
    intro h i hi
    simp only [ranB, Bool.and_eq_true] at h
    by_cases e : i = n
    · subst e; exact h.1
    · exact ih h.2 i (by omega)

/-- what came of one order is what came of another one -/
abbrev Lg := List (Nat × Nat × Nat)
def mapLg (lb : Lg) : Lg → List (Nat × Nat × Nat)
  | [] => []
  | (i, s', e') :: l => (match lb.find? fun x => Nat.beq x.1 i with
    | some (_, s, e) => bif Nat.beq (e - s) (e' - s') && Nat.blt s e then (s, e - s, s') :: mapLg lb l else mapLg lb l
    | none => mapLg lb l)
def swapL : List (Nat × Nat × Nat) → List (Nat × Nat × Nat)
  | [] => []
  | (s, n, s') :: l => (s', n, s) :: swapL l
def oneX (G nx0 : Nat) (lb la : Lg) (eb ea : CE) (HB HA : CH) : Bool :=
  let m := mapLg lb la
  let m' := swapL m
  Nat.beq HA.nx HB.nx && Nat.ble G nx0 && Nat.ble nx0 HA.nx && ranB (fun b => Nat.beq (pi m' (pi m b)) b && Nat.blt (pi m b) HA.nx && Nat.beq (pi m (pi m' b)) b && Nat.blt (pi m' b) HA.nx) HA.nx &&
  ranB (fun b => Nat.beq (pi m' b) b) nx0 &&
  allT (fun a o => Nat.blt a HA.nx && (match HB.t.get (pi m' a) with | some o' => COeq (pi m) o' o | none => false)) HA.t 1 0 &&
  allT (fun t x => match eb.get t with | some y => CV.eqr (pi m) y x | none => false) ea 1 0

theorem oneX_ok {P : Program} {G nx0 : Nat} {h0 : Hp} {lb la : Lg} {eb ea : CE} {HB HA : CH} (hs : oneX G nx0 lb la eb ea HB HA = true) {σ0 σ : Sig} {ρ : Env} {h : Hp} (hfr : ∀ b, nx0 ≤ b → σ0 b = none) (hle : Le σ0 σ)
    (he : ER σ eb ρ) (hh : HR P G h0 σ HB h) : ∃ τ, Le σ0 τ ∧ ER τ ea ρ ∧ HR P G h0 τ HA h := by
  unfold oneX at hs
  simp only [Bool.and_eq_true] at hs
  obtain ⟨⟨⟨⟨⟨⟨s1, s2⟩, s3⟩, s4⟩, s5⟩, s6⟩, s7⟩ := hs
  have hnx := Nat.eq_of_beq_eq_true s1
  have hG := Nat.le_of_ble_eq_true s2
  have hn0 := Nat.le_of_ble_eq_true s3
  have inv : ∀ b, b < HA.nx → pi (swapL (mapLg lb la)) (pi (mapLg lb la) b) = b ∧ pi (mapLg lb la) b < HA.nx ∧ pi (mapLg lb la) (pi (swapL (mapLg lb la)) b) = b ∧ pi (swapL (mapLg lb la)) b < HA.nx := by
    intro b hb
    have := ranB_get s4 b hb
    simp only [Bool.and_eq_true] at this
    exact ⟨Nat.eq_of_beq_eq_true this.1.1.1, by simpa [Nat.blt_eq] using this.1.1.2, Nat.eq_of_beq_eq_true this.1.2, by simpa [Nat.blt_eq] using this.2⟩
  have fix : ∀ b, b < nx0 → pi (swapL (mapLg lb la)) b = b := fun b hb => Nat.eq_of_beq_eq_true (ranB_get s5 b hb)
  generalize mapLg lb la = m at *
  generalize hm' : swapL m = m' at *
  let τ : Sig := fun a => if a < HA.nx then σ (pi m' a) else none
  have hp : ∀ b p, σ b = some p → τ (pi m b) = some p := by
    intro b p hb
    have hlt : b < HA.nx := by
      rcases Nat.lt_or_ge b HA.nx with h1 | h1
      · exact h1
      · rw [hh.fresh b (by omega)] at hb; cases hb
    obtain ⟨i1, i2, _, _⟩ := inv b hlt
    show (if pi m b < HA.nx then σ (pi m' (pi m b)) else none) = some p
    rw [if_pos i2, i1]; exact hb
  refine ⟨τ, ?_, ?_, ?_, ?_, ?_, hh.keep, ?_⟩
  · intro b p hb
    have hlt : b < nx0 := by
      rcases Nat.lt_or_ge b nx0 with h1 | h1
      · exact h1
      · rw [hfr b h1] at hb; cases hb
    show (if b < HA.nx then σ (pi m' b) else none) = some p
    rw [if_pos (by omega), fix b hlt]; exact hle _ _ hb
  · intro t x hx
    have := allT_get s7 hx
    simp only [Nat.one_mul, Nat.add_zero] at this
    split at this
    · rename_i y hy
      obtain ⟨v, g1, g2⟩ := he t y hy
      exact ⟨v, g1, CV.eqr_VR hp _ _ _ this g2⟩
    · cases this
  · intro a o ho
    have := allT_get s6 ho
    simp only [Nat.one_mul, Nat.add_zero, Bool.and_eq_true] at this
    obtain ⟨q1, q2⟩ := this
    have hlt : a < HA.nx := by simpa [Nat.blt_eq] using q1
    split at q2
    · rename_i o' ho'
      obtain ⟨p, x, g1, g2, g3⟩ := hh.obj _ _ ho'
      refine ⟨p, x, ?_, g2, COeq_ok hp q2 g3⟩
      show (if a < HA.nx then σ (pi m' a) else none) = some p
      rw [if_pos hlt]; exact g1
    · cases q2
  · intro a a' o o' p p' ga ga' hne hpa hpa'
    have q1 := allT_get s6 ga
    have q2 := allT_get s6 ga'
    simp only [Nat.one_mul, Nat.add_zero, Bool.and_eq_true] at q1 q2
    have l1 : a < HA.nx := by simpa [Nat.blt_eq] using q1.1
    have l2 : a' < HA.nx := by simpa [Nat.blt_eq] using q2.1
    have r1 := q1.2
    have r2 := q2.2
    split at r1
    · rename_i b hb
      split at r2
      · rename_i b' hb'
        have e1 : σ (pi m' a) = some p := by
          have : (if a < HA.nx then σ (pi m' a) else none) = some p := hpa
          rwa [if_pos l1] at this
        have e2 : σ (pi m' a') = some p' := by
          have : (if a' < HA.nx then σ (pi m' a') else none) = some p' := hpa'
          rwa [if_pos l2] at this
        refine hh.inj _ _ _ _ p p' hb hb' ?_ e1 e2
        intro e
        have i1 := (inv a l1).2.2.1
        have i2 := (inv a' l2).2.2.1
        rw [e] at i1
        exact hne (i1.symm.trans i2)
      · cases r2
    · cases r1
  · intro b hb
    show (if b < HA.nx then σ (pi m' b) else none) = none
    rw [if_neg (by omega)]
  · intro g hg
    obtain ⟨p, g1, g2⟩ := hh.glob g hg
    refine ⟨p, ?_, g2⟩
    show (if g < HA.nx then σ (pi m' g) else none) = some p
    rw [if_pos (by omega), fix g (by omega)]; exact g1
end Go.Ix

/-
  Code of the small machine: regions, loops, calls; what it reckons to 'true' holds of the machine's own walk.
-/
set_option linter.unusedSimpArgs false
set_option linter.unusedVariables false
namespace Go.Ix
open Go Go.Hw

/-- both of two answers -/
class Both (R : Type) where
  an : R → R → R
instance : Both Bool := ⟨fun a b => a && b⟩
instance : Both Nat := ⟨fun a b => bif Nat.beq a 0 then b else a⟩
instance {α : Type} : Both (Option α) := ⟨fun a _ => a⟩

section
variable {R : Type} [Both R]

/-- the functions that may be entered -/
def entB (P : Program) (g : Nat) : Bool := match P.funcs[g]? with
  | some fn => (match fn.body with | some _ => true | none => false) && !(fn.name == "runtime.NumGoroutine")
  | none => false
theorem entB_ok (P : Program) : EnterOk P (entB P) := by
  intro f hf
  unfold entB at hf
  split at hf
  · rename_i fn hfn
    simp only [Bool.and_eq_true, Bool.not_eq_true'] at hf
    refine ⟨fn, hfn, ?_, hf.2⟩
    cases hb : fn.body with
    | none => rw [hb] at hf; simp at hf
    | some c => rfl
  · cases hf

abbrev Call (R : Type) := Nat → List CV → CH → (CV → CH → R) → R
def vksOk (P : Program) : List TypeId → List CV → Bool
  | [], [] => true
  | t :: l, x :: m => vkOk P t x && vksOk P l m
  | _, _ => false
def rsOk (P : Program) (t : TypeId) (x : CV) : Bool :=
  match P.underlying t with
  | some (.tuple ⟨[]⟩) => true
  | some (.tuple ⟨ts⟩) => match x with
    | .tup l => vksOk P ts l
    | _ => false
  | _ => vkOk P t x
/-- the method that an interface's value has by a name, its receiver the value as it is -/
def invX (P : Program) (name : String) (t : TypeId) : Option Nat := match P.info? t with
  | some i => match i.methods.find? (·.name == name) with
    | some m => match m.path.toList, m.func with
      | [], some (f, pr) => match P.underlying t with
        | some (.pointer _) => bif pr then some f else none
        | some _ => bif pr then none else some f
        | none => none
      | _, _ => none
    | none => none
  | none => none
def allK (fl : Nat → R) (k : CV → CH → R) : List (CV × CH) → R
  | [] => fl 21
  | [(y, H')] => k y H'
  | (y, H') :: z :: l => Both.an (k y H') (allK fl k (z :: l))
/-- a number for what is not known -/
def tagO : Op → Nat
  | .move _ => 1 | .assign _ => 2 | .pick .. => 3 | .alloc _ => 4 | .box .. => 5 | .build .. => 6 | .buildSlice .. => 7 | .insert .. => 8 | .load .. => 9 | .store .. => 10
  | .nilCheck _ => 11 | .binOp .. => 12 | .unOp .. => 13 | .convert .. => 14 | .makeInterface .. => 15 | .makeFunc .. => 16 | .makeMap .. => 17 | .makeSlice .. => 18 | .slice .. => 19 | .fieldAddr .. => 20
  | .field .. => 21 | .indexAddr .. => 22 | .index .. => 23 | .lookup .. => 24 | .mapUpdate .. => 25 | .mapEntry .. => 26 | .entryStore .. => 27 | .range .. => 28 | .next .. => 29 | .entry _ => 30
  | .typeAssert .. => 31 | .extract .. => 32 | .call ⟨.builtin .append, _, _⟩ => 41 | .call ⟨.builtin .copy, _, _⟩ => 42 | .call ⟨.builtin .len, _, _⟩ => 43 | .call ⟨.builtin _, _, _⟩ => 44 | .call ⟨.invoke .., _, _⟩ => 45 | .call _ => 46
  | .panic _ => 47 | .sliceToArrayPointer .. => 48 | .ready _ => 49 | .waits _ => 50
  | _ => 51
def opX (fl : Nat → R) (P : Program) (G : Nat) (call : Call R) (o : Oper) (env : CE) (H : CH) (k : CV → CH → R) : R :=
  match vX P G H env o with
  | some y => k y H
  | none => match eX P G H env o with
    | some (y, H') => k y H'
    | none => match o.op with
      | .call ⟨.value f, args, _⟩ => match evC G env f with
        | some (.fn g fs cs) => match evCs G env args.toList with
          | some vs => bif entB P g then call g (fs ++ (vs ++ cs)) H fun y H' => bif rsOk P o.type y then k y H' else fl 1
              else (match exOf P g with
              | some e => match extX e H (fs ++ (vs ++ cs)) with
                | some y => bif rsOk P o.type y then k y H else fl 1
                | none => fl 20
              | none => fl (1000 + g))
          | none => fl 2
        | _ => fl 3
      | .call ⟨.invoke r name, args, _⟩ => match evC G env r with
        | some (.ifc t x) => match evCs G env args.toList with
          | some vs => match invX P name t with
            | some g => bif entB P g then call g (x :: vs) H k else fl (1000 + g)
            | none => fl 24
          | none => fl 2
        | _ => fl 25
      | .entry x => match evC G env x with
        | some x => match entX H x with
          | some y => k y H
          | none => fl 23
        | none => fl 2
      | .next x false => match evC G env x with
        | some x => match mnX H x with
          | some l => allK fl k l
          | none => fl 22
        | none => fl 2
      | _ => fl (2000 + tagO o.op)
def gdX (l : List Oper) (j : Nat) (env : CE) : Option (Option Bool) := match gdstL l j with
  | some d => match env.get d with
    | some (.bool c) => some (some c)
    | some (.tup _) => some none
    | _ => none
  | none => none
def stepX (fl : Nat → R) (P : Program) (G : Nat) (call : Call R) (n : Nat) (all : List Oper) (o : Oper) (env : CE) (H : CH) (k : CE → CH → R) : R :=
  bif okDst n o.dst then
    match o.guard with
    | none => opX fl P G call o env H fun y H' => k (putE env o.dst y) H'
    | some (j, want) => match gdX all j env with
      | some c => bif gEq c want then opX fl P G call o env H fun y H' => k (putE env o.dst y) H' else k (putE env o.dst (.tup [])) H
      | none => fl 5
  else fl 6
def opsX (fl : Nat → R) (P : Program) (G : Nat) (call : Call R) (n : Nat) (all : List Oper) : List Oper → CE → CH → (CE → CH → R) → R
  | [], env, H, k => k env H
  | o :: l, env, H, k => stepX fl P G call n all o env H fun env' H' => opsX fl P G call n all l env' H' k

/-! regions whose order is open -/
abbrev WX := List (Nat × Oper × CE × CV)
def chkW (P : Program) (G : Nat) (m : Nat) (H : CH) : WX → Bool
  | [] => true
  | (i, o, env, y) :: W => (bit m i || (match vX P G H env o with
    | some z => CV.eq y z
    | none => false)) && chkW P G m H W
def dDX (fl : Nat → R) (P : Program) (G : Nat) (call : Call R) (n : Nat) (all : List Oper) (M : List Nat) : WX → List Nat → CE → CH → (CE → CH → R) → R
  | _, [], env, H, k => k env H
  | W, i :: l, env, H, k =>
    match all[i]? with
    | none => fl 7
    | some o => match clsO P o with
      | .pure => stepX fl P G call n all o env H fun env' H' => dDX fl P G call n all M W l env' H' k
      | .eff => stepX fl P G call n all o env H fun env' H' => bif chkW P G (M.getD i 0) H' W then dDX fl P G call n all M W l env' H' k else fl 8
      | .read => bif okDst n o.dst then
          match o.guard with
          | none => match vX P G H env o with
            | some y => dDX fl P G call n all M ((i, o, env, y) :: W) l (putE env o.dst y) H k
            | none => fl 9
          | some (j, want) => match gdX all j env with
            | some c => bif gEq c want then (match vX P G H env o with
                | some y => dDX fl P G call n all M ((i, o, env, y) :: W) l (putE env o.dst y) H k
                | none => fl 9) else dDX fl P G call n all M W l (putE env o.dst (.tup [])) H k
            | none => fl 5
        else fl 6
/-- an order: what only computes or reads as early as it can be -/
def pickO (P : Program) (done : Nat) (M : List Nat) (any : Bool) : List Oper → Nat → Option Nat
  | [], _ => none
  | o :: l, i => bif !bit done i && (Nat.beq (Nat.land (M.getD i 0) done) (M.getD i 0) && (any || (match clsO P o with | .eff => false | _ => true))) then some i else pickO P done M any l (i + 1)
def ordX (P : Program) (ops : List Oper) (M : List Nat) : Nat → Nat → List Nat
  | 0, _ => []
  | f + 1, done => match pickO P done M false ops 0 with
    | some i => i :: ordX P ops M f (Nat.lor done (Nat.shiftLeft 1 i))
    | none => match pickO P done M true ops 0 with
      | some i => i :: ordX P ops M f (Nat.lor done (Nat.shiftLeft 1 i))
      | none => []
/-! regions in which effects come in more than one order -/
def valG (P : Program) (G n : Nat) (all : List Oper) (o : Oper) (env : CE) (H : CH) : Option CV :=
  bif okDst n o.dst then
    match o.guard with
    | none => vX P G H env o
    | some (j, want) => match gdX all j env with
      | some c => bif gEq c want then vX P G H env o else some (.tup [])
      | none => none
  else none
def chkT (P : Program) (G n : Nat) (all : List Oper) (m : Nat) (H : CH) : WX → Bool
  | [] => true
  | (i, o, env, y) :: W => (bit m i || (match valG P G n all o env H with
    | some z => CV.eq y z
    | none => false)) && chkT P G n all m H W
def rdB (done : Nat) (o : Oper) (i : Nat) : Bool := !bit done i && (o.after.toList.all fun e => !Region.binds .any e || bit done e.on)
def pickT (P : Program) (done : Nat) : List Oper → Nat → Option Nat
  | [], _ => none
  | o :: l, i => bif rdB done o i && (match clsO P o with | .eff => false | _ => true) then some i else pickT P done l (i + 1)
def effsT (done : Nat) : List Oper → Nat → List Nat
  | [], _ => []
  | o :: l, i => bif rdB done o i then i :: effsT done l (i + 1) else effsT done l (i + 1)
def allI (run : Nat → R) : Nat → List Nat → R
  | i, [] => run i
  | i, j :: r => Both.an (run i) (allI run j r)
def treeX (fl : Nat → R) (P : Program) (G : Nat) (call : Call R) (n : Nat) (all : List Oper) (M : List Nat) (one : Bool) : Nat → Nat → WX → Lg → CE → CH → (Lg → CE → CH → R) → R
  | 0, done, _, lg, env, H, k => (match pickT P done all 0, effsT done all 0 with
    | none, [] => k lg env H
    | _, _ => fl 31)
  | f + 1, done, W, lg, env, H, k => (match pickT P done all 0 with
    | some i => (match all[i]? with
      | none => fl 7
      | some o => (match valG P G n all o env H with
        | some y => (match clsO P o with
          | .pure => treeX fl P G call n all M one f (Nat.lor done (Nat.shiftLeft 1 i)) W lg (putE env o.dst y) H k
          | .read => treeX fl P G call n all M one f (Nat.lor done (Nat.shiftLeft 1 i)) ((i, o, env, y) :: W) lg (putE env o.dst y) H k
          | .eff => fl 7)
        | none => fl 9))
    | none => (match effsT done all 0 with
      | [] => k lg env H
      | i :: r =>
        let run : Nat → R := fun i => (match all[i]? with
          | none => fl 7
          | some o => (match clsO P o with
            | .eff => stepX fl P G call n all o env H fun env' H' => bif chkT P G n all (M.getD i 0) H' W then treeX fl P G call n all M one f (Nat.lor done (Nat.shiftLeft 1 i)) W ((i, H.nx, H'.nx) :: lg) env' H' k else fl 8
            | _ => fl 7))
        bif one then run i else allI run i r))
abbrev Tre (R : Type) := Call R → Nat → List Oper → CE → CH → (CE → CH → R) → R
/-- one order of them -/
def tree1 (fl : Nat → R) (P : Program) (G : Nat) : Tre R := fun call n ops env H k => treeX fl P G call n ops (masks ops []) true ops.length 0 [] [] env H fun _ e h => k e h
def regX (fl : Nat → R) (P : Program) (G : Nat) (tr : Tre R) (call : Call R) (n : Nat) (ops : List Oper) (draw : Bool) (env : CE) (H : CH) (k : CE → CH → R) : R :=
  bif draw then
    (bif orderGood P ops (ordX P ops (masks ops []) ops.length 0) then dDX fl P G call n ops (masks ops []) [] (ordX P ops (masks ops []) ops.length 0) env H k else tr call n ops env H k)
  else opsX fl P G call n ops ops env H k

/-! code -/
def loopX (fl : Nat → R) (body : CE → CH → (Exit → CE → CH → R) → R) : Nat → CE → CH → (Exit → CE → CH → R) → R
  | 0, _, _, _ => fl 11
  | m + 1, env, H, k => body env H fun e env' H' => match e with
    | .normal => loopX fl body m env' H' k
    | .exit i => k (.exit i) env' H'
    | .goto l => k (.goto l) env' H'
    | .ret => k .ret env' H'
    | _ => fl 12
def cX (fl : Nat → R) (P : Program) (G : Nat) (tr : Tre R) (call : Call R) (lf : Nat) (n : Nat) : Code → CE → CH → (Exit → CE → CH → R) → R
  | .skip, env, H, k => k .normal env H
  | .region _ ops draw, env, H, k => regX fl P G tr call n ops.toList draw env H fun env' H' => k .normal env' H'
  | .seq x y, env, H, k => cX fl P G tr call lf n x env H fun e env' H' => match e with
    | .normal => cX fl P G tr call lf n y env' H' k
    | .exit i => k (.exit i) env' H'
    | .goto l => k (.goto l) env' H'
    | .ret => k .ret env' H'
    | _ => fl 12
  | .cond c x y, env, H, k => match evC G env c with
    | some (.bool b) => bif b then cX fl P G tr call lf n x env H k else cX fl P G tr call lf n y env H k
    | _ => fl 13
  | .block id c, env, H, k => cX fl P G tr call lf n c env H fun e env' H' => match e with
    | .normal => k .normal env' H'
    | .exit i => bif Nat.beq i id then k .normal env' H' else k (.exit i) env' H'
    | .goto l => k (.goto l) env' H'
    | .ret => k .ret env' H'
    | _ => fl 12
  | .scope c, env, H, k => cX fl P G tr call lf n c env H fun e env' H' => match e with
    | .normal => k .normal env' H'
    | .exit i => k (.exit i) env' H'
    | .ret => k .ret env' H'
    | _ => fl 12
  | .loop c, env, H, k => loopX fl (cX fl P G tr call lf n c) lf env H k
  | .exit id, env, H, k => k (.exit id) env H
  | .label _, env, H, k => k .normal env H
  | .ret, env, H, k => k .ret env H
  | _, _, _, _ => fl 14
def argsX : Nat → List CV → CE
  | _, [] => .leaf
  | i, x :: l => (argsX (i + 1) l).set i (some x)
def resX (P : Program) (H : CH) (env : CE) : List ResultVar → Option (List CV)
  | [] => some []
  | .tmp t :: r => match env.get t, resX P H env r with
    | some x, some l => some (x :: l)
    | _, _ => none
  | .cell a t :: r => match env.get a with
    | some (.ptr b o) => bif (P.underlying t).isSome then (match ldX P H t b o, resX P H env r with
      | some x, some l => some (x :: l)
      | _, _ => none) else none
    | _ => none
def resC : List CV → CV
  | [x] => x
  | l => .tup l
def callX (fl : Nat → R) (P : Program) (G : Nat) (tr : Tre R) (lf : Nat) : Nat → Call R
  | 0, _, _, _, _ => fl 15
  | m + 1, g, args, H, k => match P.funcs[g]? with
    | some fn => match fn.body with
      | some c => bif Nat.ble args.length fn.ntmps then cX (fun i => fl (i + 10000 * g)) P G tr (callX fl P G tr lf m) lf fn.ntmps c (argsX 0 args) H fun e env' H' =>
          (match e with
          | .normal => (match resX P H' env' fn.results.toList with
            | some l => k (resC l) H'
            | none => fl 16)
          | .ret => (match resX P H' env' fn.results.toList with
            | some l => k (resC l) H'
            | none => fl 16)
          | _ => fl 12) else fl 17
      | none => fl 18
    | none => fl 19
end

/-! ### soundness -/
section
variable {P : Program} {G : Nat} {h0 : Hp}
abbrev no : Nat → Bool := fun _ => false

def CallOk (P : Program) (G : Nat) (h0 : Hp) (call : Call Bool) : Prop := ∀ g args H k, call g args H k = true → ∀ σ h vs, VRs σ args vs → HR P G h0 σ H h →
  ∀ K : Value → Hp → Prop, (∀ σ' y v H' h', Le σ σ' → VR σ' y v → HR P G h0 σ' H' h' → k y H' = true → K v h') → HCalls P g ⟨vs⟩ h K

theorem vkOk_VT {t : TypeId} {σ : Sig} {x : CV} {v : Value} (hk : vkOk P t x = true) (hr : VR σ x v) {F : (vtOf P t).T → Prop} (hf : ∀ y, (vtOf P t).mk y = v → F y) : (vtOf P t).on (some v) F := by
  unfold vkOk at hk
  generalize vtOf P t = vt at hk F hf ⊢
  split at hk
  · exact kOk_on (F := F) hk hr hf
  · split at hk
    · unfold VR at hr; obtain ⟨vs, rfl, hvs⟩ := hr
      exact ksOk_on hk hvs fun y hy => hf y (by show Value.agg ⟨TL.mk _ y⟩ = _; rw [hy])
    · cases hk
theorem vksOk_on {σ : Sig} : ∀ {ts : List TypeId} {l : List CV} {vs : List Value} {F : TVs (mapT (vtOf P) ts) → Prop}, vksOk P ts l = true → VRs σ l vs → (∀ y, TVs.mk (mapT (vtOf P) ts) y = vs → F y) → TVs.on (mapT (vtOf P) ts) vs F
  | [], l, vs, F, hk, hv, hf => by
    cases l with
    | nil => unfold VRs at hv; subst hv; exact hf () rfl
    | cons => cases hk
  | [t], l, vs, F, hk, hv, hf => by
    rcases l with _ | ⟨x, _ | ⟨y, l⟩⟩
    · cases hk
    · unfold VRs at hv; obtain ⟨v, r, rfl, h1, h2⟩ := hv
      unfold VRs at h2; subst h2
      simp only [vksOk, Bool.and_true] at hk
      exact vkOk_VT hk h1 fun y hy => hf y (by simp [TVs.mk, mapT, hy])
    · simp [vksOk] at hk
  | t :: u :: ts, l, vs, F, hk, hv, hf => by
    cases l with
    | nil => cases hk
    | cons x l =>
      unfold VRs at hv; obtain ⟨v, r, rfl, h1, h2⟩ := hv
      simp only [vksOk, Bool.and_eq_true] at hk
      refine vkOk_VT hk.1 h1 fun y hy => ?_
      have hk2 : vksOk P (u :: ts) l = true := by
        cases l with
        | nil => simp [vksOk] at hk
        | cons => simpa [vksOk] using hk.2
      exact vksOk_on (ts := u :: ts) hk2 h2 fun z hz => hf (y, z) (by
        show (vtOf P t).mk y :: TVs.mk (mapT (vtOf P) (u :: ts)) z = _
        rw [hy, hz])
theorem rsOk_ok {t : TypeId} {σ : Sig} {x : CV} {v : Value} (hk : rsOk P t x = true) (hr : VR σ x v) {F : Value → Prop} (hf : F v) : resOn P t v F := by
  unfold rsOk at hk
  unfold resOn
  split at hk
  · rename_i hu; rw [hu]; exact hf
  · rename_i ts hn hu
    rw [hu]; simp only []
    split at hk
    · unfold VR at hr; obtain ⟨vs, rfl, hvs⟩ := hr
      unfold tupOn; simp only []
      exact vksOk_on hk hvs fun y hy => by rw [hy]; exact hf
    · cases hk
  · rename_i h1 h2
    split
    · rename_i hu; exact absurd hu h1
    · rename_i ts hts hu; exact absurd hu (h2 ts)
    · exact vkOk_VT hk hr fun y hy => by rw [hy]; exact hf

theorem allK_ok {k : CV → CH → Bool} : ∀ {l : List (CV × CH)}, allK no k l = true → ∀ y H', (y, H') ∈ l → k y H' = true
  | [], h, y, H', hm => by cases hm
  | [(a, A)], h, y, H', hm => by
    rw [List.mem_singleton] at hm; cases hm; exact h
  | (a, A) :: z :: l, h, y, H', hm => by
    have h2 : (k a A && allK no k (z :: l)) = true := h
    rw [Bool.and_eq_true] at h2
    cases hm with
    | head => exact h2.1
    | tail _ hm => exact allK_ok h2.2 y H' hm
theorem invX_ok {name : String} {t : TypeId} {g : Nat} (hi : invX P name t = some g) {v : Value} {h : Hp} {n : Nat} {K : FuncId × Value → Hp → Prop} (hK : K (g, v) h) : swp P (method (n + 1) t v name) h K := by
  unfold invX at hi
  split at hi
  · rename_i i hinf
    split at hi
    · rename_i m hm
      split at hi
      · rename_i f pr hp hf
        unfold method
        rw [swp_bind']
        refine typeInfo_swp hinf ?_
        rw [hm]
        simp only [hp, swp_bind']
        unfold follow
        rw [swp_pure]
        simp only [hf, swp_bind']
        split at hi
        · rename_i e hu
          cases pr with
          | false => cases hi
          | true =>
            cases hi
            unfold receiverAt
            rw [swp_bind']
            refine underlying_swp hu ?_
            exact hK
        · rename_i d hn hu
          cases pr with
          | true => cases hi
          | false =>
            cases hi
            unfold receiverAt
            rw [swp_bind']
            refine underlying_swp hu ?_
            cases d <;> first | exact hK | exact absurd rfl (hn _)
        · cases hi
      · cases hi
    · cases hi
  · cases hi
theorem opX_ok {call : Call Bool} (hc : CallOk P G h0 call) {o : Oper} {env : CE} {H : CH} {k : CV → CH → Bool} (hx : opX no P G call o env H k = true) {σ : Sig} {ρ : Env} {h : Hp} (he : ER σ env ρ) (hh : HR P G h0 σ H h)
    {K : Value → Hp → Prop} (hK : ∀ σ' y v H' h', Le σ σ' → VR σ' y v → HR P G h0 σ' H' h' → k y H' = true → K v h') : opK P (entB P) o ρ h K := by
  unfold opX at hx
  split at hx
  · rename_i y hy
    obtain ⟨v, h1, h2⟩ := vX_ok (E := entB P) he hh hy
    exact h2 K (hK σ y v H h (Le.refl σ) h1 hh hx)
  · split at hx
    · rename_i y H' hy
      exact eX_ok he hh hy fun σ' v h' hl hv hh' => hK σ' y v H' h' hl hv hh' hx
    · split at hx
      · rename_i f args ts ho
        split at hx
        · rename_i g fs cs hf
          split at hx
          · rename_i vs hvs
            obtain ⟨vf, f1, f2⟩ := evC_ok hf he hh
            obtain ⟨ws, w1, w2, w3, w4⟩ := evCs_ok he hh hvs
            unfold VR at f2; obtain ⟨xs, ys, rfl, x1, y1⟩ := f2
            unfold opK
            rw [ho]
            refine mv_ok f1 (w4 [] _ ?_)
            simp only [List.reverse_nil, List.nil_append]
            unfold callK HCallV
            simp only []
            cases hb : entB P g with
            | false =>
              rw [hb] at hx
              simp only [cond_false] at hx ⊢
              split at hx
              · rename_i e he'
                split at hx
                · rename_i y hy
                  cases hrs : rsOk P o.type y with
                  | false => rw [hrs] at hx; cases hx
                  | true =>
                    rw [hrs] at hx
                    obtain ⟨v, v1, v2⟩ := ext_ok hh he' hy (x1.app (w1.app y1))
                    exact v2 _ (rsOk_ok (F := fun v' => K v' h) hrs v1 (hK σ y v H h (Le.refl σ) v1 hh hx))
                · cases hx
              · cases hx
            | true =>
              rw [hb] at hx
              simp only [cond_true] at hx ⊢
              refine hc _ _ _ _ hx σ h _ (x1.app (w1.app y1)) hh _ ?_
              intro σ' y v H' h' hl hv hh' hky
              cases hrs : rsOk P o.type y with
              | false => rw [hrs] at hky; cases hky
              | true =>
                rw [hrs] at hky
                exact rsOk_ok (F := fun v' => K v' h') hrs hv (hK σ' y v H' h' hl hv hh' hky)
          · cases hx
        · cases hx
      · rename_i r name args ts ho
        split at hx
        · rename_i t x hrx
          split at hx
          · rename_i vs hvs
            split at hx
            · rename_i g hg
              cases hb : entB P g with
              | false => rw [hb] at hx; cases hx
              | true =>
                rw [hb] at hx
                simp only [cond_true] at hx
                obtain ⟨vr, f1, f2⟩ := evC_ok hrx he hh
                obtain ⟨ws, w1, w2, w3, _⟩ := evCs_ok he hh hvs
                unfold VR at f2; obtain ⟨xv, rfl, f3⟩ := f2
                unfold opK
                rw [ho]
                show someAny ρ P o h K
                unfold someAny
                have hokk : (okAll ρ o.op.operands.toList && !isSel o.op) = true := by
                  rw [ho]
                  simp only [Op.operands, Call.operands, isSel, Bool.not_false, Bool.and_true]
                  have : okAll ρ (r :: args.toList) = true := by simp [okAll, (some1 f1).1, w2]
                  simpa using this
                rw [hokk]
                show opS P o (evD ρ) h K
                unfold opS execOp
                rw [ho]
                simp only []
                have hres : resolve (evD ρ) ⟨.invoke r name, args, ts⟩ o.type = (pure { target := .fn (.method name) #[], args := #[.iface t xv] ++ args.map (evD ρ) } : Sem Deferred) := by
                  unfold resolve; simp only [(some1 f1).2]
                rw [hres]
                show swp P (invoke (.fn (.method name) #[]) (#[.iface t xv] ++ args.map (evD ρ))) h (nextK P K)
                have hargs : (#[.iface t xv] ++ args.map (evD ρ) : Array Value) = ⟨.iface t xv :: ws⟩ := by apply Array.ext'; simp [w3]
                rw [hargs]
                have hinv : invoke (.fn (.method name) #[]) ⟨.iface t xv :: ws⟩ = callMethod (.iface t xv) name ⟨ws⟩ := by
                  unfold invoke
                  have e0 : (⟨.iface t xv :: ws⟩ : Array Value)[0]? = some (.iface t xv) := rfl
                  simp only [e0]
                  congr 1
                  apply Array.ext'; simp
                rw [hinv]
                unfold callMethod
                simp only []
                rw [swp_bind', program_swp, swp_bind']
                have hd : P.types.size + Made.depth = (P.types.size + Made.depth - 1) + 1 := by
                  have : 0 < Made.depth := by decide
                  omega
                rw [hd]
                refine invX_ok hg ?_
                have ha : (#[xv] ++ ⟨ws⟩ : Array Value) = ⟨xv :: ws⟩ := by apply Array.ext'; simp
                simp only [ha]
                refine callFunc_swp (entB_ok P) hb ?_
                exact hc _ _ _ _ hx σ h _ (by unfold VRs; exact ⟨xv, ws, rfl, f3, w1⟩) hh _ hK
            · cases hx
          · cases hx
        · cases hx
      · rename_i x ho
        split at hx
        · rename_i c hcx
          split at hx
          · rename_i y hy
            obtain ⟨v, h1, h2⟩ := evC_ok hcx he hh
            obtain ⟨w, p, rfl, g1, g2⟩ := entX_ok (h := h) hh hy h2
            unfold opK
            rw [ho]
            exact mv_ok h1 (g2 K (hK σ y w H h (Le.refl σ) g1 hh hx))
          · cases hx
        · cases hx
      · rename_i x ho
        split at hx
        · rename_i c hcx
          split at hx
          · rename_i l hl
            obtain ⟨v, h1, h2⟩ := evC_ok hcx he hh
            obtain ⟨p, rfl, hn⟩ := mnX_ok (K := K) hh hl h2 fun y H' hm v h' hv hh' => hK σ y v H' h' (Le.refl σ) hv hh' (allK_ok hx y H' hm)
            unfold opK
            rw [ho]
            exact mv_ok h1 hn
          · cases hx
        · cases hx
      · cases hx

theorem gdX_ok {l : List Oper} {j : Nat} {env : CE} {σ : Sig} {ρ : Env} (he : ER σ env ρ) {c : Option Bool} (hg : gdX l j env = some c) {F : Option Bool → Env → Prop} (hF : F c ρ) : gK ρ (gdstL l j) F := by
  unfold gdX at hg
  unfold gK
  split at hg
  · rename_i d hd
    rw [hd]; simp only []
    split at hg
    · rename_i b hb
      cases hg
      obtain ⟨v, h1, h2⟩ := he d _ hb
      unfold VR at h2; subst h2
      rw [h1]; simp only []
      cases b
      · simp only [cond_false]; rw [putd_same h1]; exact hF
      · simp only [cond_true]; rw [putd_same h1]; exact hF
    · rename_i b hb
      cases hg
      obtain ⟨v, h1, h2⟩ := he d _ hb
      unfold VR at h2; obtain ⟨vs, rfl, _⟩ := h2
      rw [h1]; exact hF
    · cases hg
  · cases hg

theorem stepX_ok {call : Call Bool} (hc : CallOk P G h0 call) {n : Nat} {all : List Oper} {o : Oper} {env : CE} {H : CH} {k : CE → CH → Bool} (hx : stepX no P G call n all o env H k = true) {σ : Sig} {ρ : Env} {h : Hp}
    (he : ER σ env ρ) (hh : HR P G h0 σ H h) {X : Env → Hp → Prop} (hX : ∀ σ' env' ρ' H' h', Le σ σ' → ER σ' env' ρ' → HR P G h0 σ' H' h' → k env' H' = true → X ρ' h') : denOp P (entB P) n all o ρ h X := by
  unfold stepX at hx
  cases hd : okDst n o.dst with
  | false => rw [hd] at hx; cases hx
  | true =>
    rw [hd] at hx
    simp only [cond_true] at hx
    unfold denOp
    cases hg : o.guard with
    | none =>
      rw [hg] at hx
      simp only [] at hx ⊢
      rw [hd]
      exact opX_ok hc hx he hh fun σ' y v H' h' hl hv hh' hk => hX σ' _ _ H' h' hl ((he.mono hl).put o.dst hv) hh' hk
    | some g =>
      obtain ⟨j, want⟩ := g
      rw [hg] at hx
      simp only [] at hx ⊢
      split at hx
      · rename_i c hcg
        refine gdX_ok he hcg ?_
        rw [hd]
        simp only [cond_true]
        cases hq : gEq c want with
        | true =>
          rw [hq] at hx
          exact opX_ok hc hx he hh fun σ' y v H' h' hl hv hh' hk => hX σ' _ _ H' h' hl ((he.mono hl).put o.dst hv) hh' hk
        | false =>
          rw [hq] at hx
          exact hX σ _ _ H h (Le.refl σ) (he.put o.dst VR_undef) hh hx
      · cases hx
theorem opsX_ok {call : Call Bool} (hc : CallOk P G h0 call) {n : Nat} {all : List Oper} : ∀ {l : List Oper} {env : CE} {H : CH} {k : CE → CH → Bool} (hx : opsX no P G call n all l env H k = true) {σ : Sig} {ρ : Env} {h : Hp}
    (he : ER σ env ρ) (hh : HR P G h0 σ H h) {X : Env → Hp → Prop} (hX : ∀ σ' env' ρ' H' h', Le σ σ' → ER σ' env' ρ' → HR P G h0 σ' H' h' → k env' H' = true → X ρ' h'), denOps P (entB P) n all l ρ h X := by
  intro l
  induction l with
  | nil => intro env H k hx σ ρ h he hh X hX; exact hX σ env ρ H h (Le.refl σ) he hh hx
  | cons o l ih =>
    intro env H k hx σ ρ h he hh X hX
    unfold denOps
    refine stepX_ok hc (show stepX no P G call n all o env H (fun env' H' => opsX no P G call n all l env' H' k) = true from hx) he hh ?_
    intro σ' env' ρ' H' h' hl he' hh' hk
    exact ih hk he' hh' fun σ'' env'' ρ'' H'' h'' hl' => hX σ'' env'' ρ'' H'' h'' (hl.trans hl')

/-! what was read is read again -/
def WR (P : Program) (σ : Sig) : WX → Watch → Prop
  | [], W => W = []
  | (i, o, env, y) :: r, W => ∃ ρ v W', W = (i, rechk P (entB P) o ρ v) :: W' ∧ ER σ env ρ ∧ VR σ y v ∧ WR P σ r W'
theorem WR.mono {σ σ' : Sig} (hs : Le σ σ') : ∀ {w : WX} {W : Watch}, WR P σ w W → WR P σ' w W := by
  intro w
  induction w with
  | nil => intro W h; exact h
  | cons a w ih =>
    intro W h
    obtain ⟨i, o, env, y⟩ := a
    unfold WR at h ⊢; obtain ⟨ρ, v, W', h1, h2, h3, h4⟩ := h
    exact ⟨ρ, v, W', h1, h2.mono hs, h3.mono hs _ _, ih h4⟩
theorem chkW_ok {m : Nat} {H : CH} {σ : Sig} {h : Hp} (hh : HR P G h0 σ H h) {X : Prop} (hX : X) : ∀ {w : WX} {W : Watch}, chkW P G m H w = true → WR P σ w W → andW m W h X := by
  intro w
  induction w with
  | nil => intro W _ hW; unfold WR at hW; subst hW; exact hX
  | cons a w ih =>
    intro W hc hW
    obtain ⟨i, o, env, y⟩ := a
    unfold WR at hW; obtain ⟨ρ, v, W', rfl, h2, h3, h4⟩ := hW
    simp only [chkW, Bool.and_eq_true, Bool.or_eq_true] at hc
    unfold andW
    cases hb : bit m i with
    | true => exact ih hc.2 h4
    | false =>
      rw [hb] at hc
      refine ⟨?_, ih hc.2 h4⟩
      have h5 := hc.1.resolve_left (by simp)
      split at h5
      · rename_i z hz
        have := CV.eq_eq _ _ h5; subst this
        obtain ⟨v', g1, g2⟩ := vX_ok (E := entB P) h2 hh hz
        have := VR.one _ _ _ h3 g1; subst this
        exact g2 _ ⟨rfl, rfl⟩
      · cases h5
theorem dDX_ok {call : Call Bool} (hc : CallOk P G h0 call) {n : Nat} {all : List Oper} {M : List Nat} : ∀ {l : List Nat} {w : WX} {env : CE} {H : CH} {k : CE → CH → Bool} (hx : dDX no P G call n all M w l env H k = true) {σ : Sig} {ρ : Env} {h : Hp} {W : Watch}
    (he : ER σ env ρ) (hh : HR P G h0 σ H h) (hw : WR P σ w W) {X : Env → Hp → Prop} (hX : ∀ σ' env' ρ' H' h', Le σ σ' → ER σ' env' ρ' → HR P G h0 σ' H' h' → k env' H' = true → X ρ' h'), dD P (entB P) n all M X W l ρ h := by
  intro l
  induction l with
  | nil => intro w env H k hx σ ρ h W he hh hw X hX; exact hX σ env ρ H h (Le.refl σ) he hh hx
  | cons i l ih =>
    intro w env H k hx σ ρ h W he hh hw X hX
    unfold dDX at hx
    unfold dD
    cases ho : all[i]? with
    | none => rw [ho] at hx; cases hx
    | some o =>
      rw [ho] at hx
      simp only [] at hx ⊢
      cases hcl : clsO P o with
      | pure =>
        rw [hcl] at hx
        simp only [] at hx ⊢
        refine stepX_ok hc hx he hh ?_
        intro σ' env' ρ' H' h' hl he' hh' hk
        exact ih hk he' hh' (hw.mono hl) fun σ'' env'' ρ'' H'' h'' hl' => hX σ'' env'' ρ'' H'' h'' (hl.trans hl')
      | eff =>
        rw [hcl] at hx
        simp only [] at hx ⊢
        refine stepX_ok hc hx he hh ?_
        intro σ' env' ρ' H' h' hl he' hh' hk
        cases hck : chkW P G (M.getD i 0) H' w with
        | false => rw [hck] at hk; cases hk
        | true =>
          rw [hck] at hk
          exact chkW_ok hh' (ih hk he' hh' (hw.mono hl) fun σ'' env'' ρ'' H'' h'' hl' => hX σ'' env'' ρ'' H'' h'' (hl.trans hl')) hck (hw.mono hl)
      | read =>
        rw [hcl] at hx
        simp only [] at hx ⊢
        cases hd : okDst n o.dst with
        | false => rw [hd] at hx; cases hx
        | true =>
          rw [hd] at hx
          simp only [cond_true] at hx
          cases hg : o.guard with
          | none =>
            rw [hg] at hx
            simp only [cond_true] at hx ⊢
            split at hx
            · rename_i y hy
              obtain ⟨v, g1, g2⟩ := vX_ok (E := entB P) he hh hy
              refine g2 _ ?_
              refine ih hx (he.put o.dst g1) hh ?_ hX
              unfold WR; exact ⟨ρ, v, W, rfl, he, g1, hw⟩
            · cases hx
          | some g =>
            obtain ⟨j, want⟩ := g
            rw [hg] at hx
            simp only [cond_true] at hx ⊢
            split at hx
            · rename_i c hcg
              refine gdX_ok he hcg ?_
              cases hq : gEq c want with
              | true =>
                rw [hq] at hx
                simp only [cond_true] at hx ⊢
                split at hx
                · rename_i y hy
                  obtain ⟨v, g1, g2⟩ := vX_ok (E := entB P) he hh hy
                  refine g2 _ ?_
                  refine ih hx (he.put o.dst g1) hh ?_ hX
                  unfold WR; exact ⟨ρ, v, W, rfl, he, g1, hw⟩
                · cases hx
              | false =>
                rw [hq] at hx
                simp only [cond_false] at hx ⊢
                exact ih hx (he.put o.dst VR_undef) hh hw hX
            · cases hx

/-! regions in which effects come in more than one order -/
theorem gd_ok {ops : Array Oper} {j : Nat} {env : CE} {σ : Sig} {ρ : Env} (he : ER σ env ρ) {c : Option Bool} (hg : gdX ops.toList j env = some c) : ∃ v, (gdst ops j).bind ρ = some v ∧ blOf v = c := by
  unfold gdX at hg
  rw [gdstL_eq] at hg
  split at hg
  · rename_i d hd
    rw [hd]
    split at hg
    · rename_i b hb
      cases hg
      obtain ⟨v, h1, h2⟩ := he d _ hb
      unfold VR at h2; subst h2
      exact ⟨_, h1, rfl⟩
    · rename_i b hb
      cases hg
      obtain ⟨v, h1, h2⟩ := he d _ hb
      unfold VR at h2; obtain ⟨vs, rfl, _⟩ := h2
      exact ⟨_, h1, rfl⟩
    · cases hg
  · cases hg
theorem valG_ok {n : Nat} {ops : Array Oper} {o : Oper} {env : CE} {H : CH} {y : CV} (hv : valG P G n ops.toList o env H = some y) (hcl : clsO P o ≠ .eff) {σ : Sig} {ρ : Env} {h : Hp} (he : ER σ env ρ) (hh : HR P G h0 σ H h) :
    ∃ v, VR σ y v ∧ YdS P n ops o ρ h v ∧ (clsO P o = .pure → ∀ h', YdS P n ops o ρ h' v) := by
  unfold valG at hv
  cases hd : okDst n o.dst with
  | false => rw [hd] at hv; cases hv
  | true =>
    rw [hd] at hv
    simp only [cond_true] at hv
    have one : vX P G H env o = some y → ∃ v, VR σ y v ∧ ((isSel o.op = false ∧ okAll ρ o.op.operands.toList = true) ∧ Yd P o (evD ρ) h v) ∧
        (clsO P o = .pure → ∀ h', (isSel o.op = false ∧ okAll ρ o.op.operands.toList = true) ∧ Yd P o (evD ρ) h' v) := by
      intro hx
      obtain ⟨v, g1, g2⟩ := vX_ok (E := entB P) he hh hx
      have hk := g2 (Only v h) ⟨rfl, rfl⟩
      refine ⟨v, g1, yd_of_opK (entB_ok P) hcl hk, fun hp h' => ?_⟩
      obtain ⟨v', k1, k2, k3⟩ := detK hcl hk
      obtain ⟨rfl, _⟩ := k1
      exact yd_of_opK (entB_ok P) hcl (k3 hp h')
    unfold YdS
    cases hg : o.guard with
    | none =>
      rw [hg] at hv
      obtain ⟨v, g1, g2, g3⟩ := one hv
      exact ⟨v, g1, ⟨hd, g2⟩, fun hp h' => ⟨hd, g3 hp h'⟩⟩
    | some g =>
      obtain ⟨j, want⟩ := g
      rw [hg] at hv
      simp only [] at hv
      split at hv
      · rename_i c hc
        obtain ⟨cv, b1, b2⟩ := gd_ok he hc
        cases hq : gEq c want with
        | true =>
          rw [hq] at hv
          have hbl : blOf cv = some want := by rw [b2]; exact gEq_eq.1 hq
          obtain ⟨v, g1, g2, g3⟩ := one hv
          exact ⟨v, g1, ⟨hd, cv, b1, by rw [if_pos hbl]; exact g2⟩, fun hp h' => ⟨hd, cv, b1, by rw [if_pos hbl]; exact g3 hp h'⟩⟩
        | false =>
          rw [hq] at hv; cases hv
          have hbl : ¬ blOf cv = some want := by rw [b2]; intro e; rw [gEq_eq.2 e] at hq; cases hq
          exact ⟨undef, VR_undef, ⟨hd, cv, b1, by rw [if_neg hbl]⟩, fun hp h' => ⟨hd, cv, b1, by rw [if_neg hbl]⟩⟩
      · cases hv

def WT (P : Program) (n : Nat) (ops : Array Oper) (σ : Sig) : WX → Watch → Prop
  | [], W => W = []
  | (i, o, env, y) :: r, W => ∃ ρ v W', W = (i, fun h' => YdS P n ops o ρ h' v) :: W' ∧ ER σ env ρ ∧ VR σ y v ∧ clsO P o ≠ .eff ∧ WT P n ops σ r W'
theorem WT.mono {n : Nat} {ops : Array Oper} {σ σ' : Sig} (hs : Le σ σ') : ∀ {w : WX} {W : Watch}, WT P n ops σ w W → WT P n ops σ' w W := by
  intro w
  induction w with
  | nil => intro W h; exact h
  | cons a w ih =>
    intro W h
    obtain ⟨i, o, env, y⟩ := a
    unfold WT at h ⊢; obtain ⟨ρ, v, W', h1, h2, h3, h4, h5⟩ := h
    exact ⟨ρ, v, W', h1, h2.mono hs, h3.mono hs _ _, h4, ih h5⟩
theorem chkT_ok {n : Nat} {ops : Array Oper} {m : Nat} {H : CH} {σ : Sig} {h : Hp} (hh : HR P G h0 σ H h) : ∀ {w : WX} {W : Watch}, chkT P G n ops.toList m H w = true → WT P n ops σ w W → ∀ r ∈ W, bit m r.1 = false → r.2 h := by
  intro w
  induction w with
  | nil => intro W _ hW r hr; unfold WT at hW; subst hW; cases hr
  | cons a w ih =>
    intro W hc hW r hr hb
    obtain ⟨i, o, env, y⟩ := a
    unfold WT at hW; obtain ⟨ρ, v, W', rfl, h2, h3, h4, h5⟩ := hW
    simp only [chkT, Bool.and_eq_true, Bool.or_eq_true] at hc
    cases hr with
    | tail _ hm => exact ih hc.2 h5 r hm hb
    | head =>
      have h6 := hc.1.resolve_left (by rw [hb]; decide)
      split at h6
      · rename_i z hz
        have := CV.eq_eq _ _ h6; subst this
        obtain ⟨v', g1, g2, _⟩ := valG_ok hz h4 h2 hh
        have := VR.one _ _ _ h3 g1; subst this
        exact g2
      · cases h6

/-- what is done, as bits and as a row -/
def RelL (ops : Array Oper) (done : Nat) (L : Array Bool) : Prop := L.size = ops.size ∧ ∀ j, L.getD j false = bit done j
theorem rdB_ok {ops : Array Oper} {done : Nat} {L : Array Bool} (hr : RelL ops done L) {i : Nat} {o : Oper} (ho : ops.toList[i]? = some o) : rdB done o i = true ↔ i ∈ rdy ops L := by
  have hi : i < ops.size := by have := (List.getElem?_eq_some_iff.1 ho).1; simpa using this
  have ho' : ops[i]? = some o := by rw [← Array.getElem?_toList]; exact ho
  have hd : L.getD i true = bit done i := by
    rw [← hr.2 i, Array.getD_eq_getD_getElem?, Array.getD_eq_getD_getElem?, Array.getElem?_eq_getElem (by rw [hr.1]; exact hi)]; rfl
  unfold rdB
  rw [Go.Hw.mem_ready]
  simp only [Bool.and_eq_true, Bool.not_eq_true', List.all_eq_true, Bool.or_eq_true]
  constructor
  · rintro ⟨h1, h2⟩
    refine ⟨hi, by rw [hd]; exact h1, o, ho', fun e he hb => ?_⟩
    rw [hr.2]
    rcases h2 e he with h3 | h3
    · rw [hb] at h3; cases h3
    · exact h3
  · rintro ⟨_, h1, o', ho2, h2⟩
    rw [ho'] at ho2; cases ho2
    refine ⟨by rw [← hd]; exact h1, fun e he => ?_⟩
    cases hb : Region.binds .any e with
    | false => exact .inl rfl
    | true => exact .inr (by rw [← hr.2]; exact h2 e he hb)
theorem RelL.set {ops : Array Oper} {done : Nat} {L : Array Bool} (hr : RelL ops done L) {i : Nat} (hi : i < ops.size) : RelL ops (Nat.lor done (Nat.shiftLeft 1 i)) (setD L i) := by
  refine ⟨by simp [hr.1], fun j => ?_⟩
  rw [bit_eq]
  have e1 : (Nat.lor done (Nat.shiftLeft 1 i)).testBit j = (done.testBit j || decide (i = j)) := by
    show (done ||| 1 <<< i).testBit j = _
    rw [Nat.testBit_or, Nat.one_shiftLeft, Nat.testBit_two_pow]
  rw [e1, ← bit_eq, ← hr.2 j, Array.getD_eq_getD_getElem?, Array.getD_eq_getD_getElem?]
  by_cases e : i = j
  · subst e
    rw [Array.getElem?_setIfInBounds_self, if_pos (by rw [hr.1]; exact hi)]
    simp
  · rw [Array.getElem?_setIfInBounds_ne e]; simp [e]
theorem pickT_some {done : Nat} : ∀ {l : List Oper} {k i : Nat}, pickT P done l k = some i → ∃ o, k ≤ i ∧ l[i - k]? = some o ∧ rdB done o i = true ∧ clsO P o ≠ .eff := by
  intro l
  induction l with
  | nil => intro k i h; cases h
  | cons o l ih =>
    intro k i h
    unfold pickT at h
    cases hb : rdB done o k && (match clsO P o with | .eff => false | _ => true) with
    | true =>
      rw [hb] at h; cases h
      simp only [Bool.and_eq_true] at hb
      refine ⟨o, Nat.le_refl _, by simp, hb.1, fun e => ?_⟩
      have := hb.2
      rw [e] at this; cases this
    | false =>
      rw [hb] at h
      obtain ⟨o', h1, h2, h3, h4⟩ := ih h
      refine ⟨o', by omega, ?_, h3, h4⟩
      rw [show i - k = (i - (k + 1)) + 1 by omega, List.getElem?_cons_succ]; exact h2
theorem pickT_none {done : Nat} : ∀ {l : List Oper} {k : Nat}, pickT P done l k = none → ∀ {i : Nat} {o : Oper}, l[i]? = some o → rdB done o (k + i) = true → clsO P o = .eff := by
  intro l
  induction l with
  | nil => intro k _ i o h; simp at h
  | cons x l ih =>
    intro k h i o ho hr
    unfold pickT at h
    cases hb : rdB done x k && (match clsO P x with | .eff => false | _ => true) with
    | true => rw [hb] at h; cases h
    | false =>
      rw [hb] at h
      cases i with
      | zero =>
        simp at ho; subst ho
        rw [Nat.add_zero] at hr
        rw [hr] at hb
        cases hc : clsO P x with
        | eff => rfl
        | pure => rw [hc] at hb; cases hb
        | read => rw [hc] at hb; cases hb
      | succ i => simp at ho; exact ih h ho (by rw [show k + 1 + i = k + (i + 1) by omega]; exact hr)
theorem effsT_mem {done : Nat} : ∀ {l : List Oper} {k i : Nat}, i ∈ effsT done l k ↔ ∃ o, k ≤ i ∧ l[i - k]? = some o ∧ rdB done o i = true := by
  intro l
  induction l with
  | nil => intro k i; simp [effsT]
  | cons x l ih =>
    intro k i
    unfold effsT
    have step : (∃ o, k + 1 ≤ i ∧ l[i - (k + 1)]? = some o ∧ rdB done o i = true) ↔ (∃ o, k < i ∧ (x :: l)[i - k]? = some o ∧ rdB done o i = true) := by
      constructor
      · rintro ⟨o, h1, h2, h3⟩
        exact ⟨o, by omega, by rw [show i - k = (i - (k + 1)) + 1 by omega, List.getElem?_cons_succ]; exact h2, h3⟩
      · rintro ⟨o, h1, h2, h3⟩
        rw [show i - k = (i - (k + 1)) + 1 by omega, List.getElem?_cons_succ] at h2
        exact ⟨o, by omega, h2, h3⟩
    cases hb : rdB done x k with
    | true =>
      simp only [cond_true, List.mem_cons, ih, step]
      constructor
      · rintro (rfl | ⟨o, h1, h2, h3⟩)
        · exact ⟨x, Nat.le_refl _, by simp, hb⟩
        · exact ⟨o, by omega, h2, h3⟩
      · rintro ⟨o, h1, h2, h3⟩
        by_cases e : i = k
        · exact .inl e
        · exact .inr ⟨o, by omega, h2, h3⟩
    | false =>
      simp only [cond_false, ih, step]
      constructor
      · rintro ⟨o, h1, h2, h3⟩
        exact ⟨o, by omega, h2, h3⟩
      · rintro ⟨o, h1, h2, h3⟩
        by_cases e : i = k
        · subst e; simp at h2; subst h2; rw [hb] at h3; cases h3
        · exact ⟨o, by omega, h2, h3⟩
theorem allI_ok {run : Nat → Bool} : ∀ {r : List Nat} {i : Nat}, allI run i r = true → ∀ j ∈ i :: r, run j = true := by
  intro r
  induction r with
  | nil => intro i h j hj; rw [List.mem_singleton] at hj; subst hj; exact h
  | cons x r ih =>
    intro i h j hj
    have h2 : (run i && allI run x r) = true := h
    rw [Bool.and_eq_true] at h2
    cases hj with
    | head => exact h2.1
    | tail _ hm => exact ih h2.2 j hm

theorem treeX_ok {call : Call Bool} (hc : CallOk P G h0 call) {n : Nat} {ops : Array Oper} : ∀ (f : Nat) {done : Nat} {w : WX} {lg : Lg} {env : CE} {H : CH} {k : Lg → CE → CH → Bool} (hx : treeX no P G call n ops.toList (masks ops.toList []) false f done w lg env H k = true)
    {σ : Sig} {ρ : Env} {h : Hp} {W : Watch} {L : Array Bool} (he : ER σ env ρ) (hh : HR P G h0 σ H h) (hw : WT P n ops σ w W) (hr : RelL ops done L) {X : Env → Hp → Prop}
    (hX : ∀ σ' lg' env' ρ' H' h', Le σ σ' → ER σ' env' ρ' → HR P G h0 σ' H' h' → k lg' env' H' = true → X ρ' h'), Tr P n ops X f L W ρ h := by
  have noR : ∀ {done : Nat} {L : Array Bool}, RelL ops done L → pickT P done ops.toList 0 = none → effsT done ops.toList 0 = [] → rdy ops L = [] := by
    intro done L hr hp hee
    rw [List.eq_nil_iff_forall_not_mem]
    intro i hi
    obtain ⟨_, _, o, ho, _⟩ := Go.Hw.mem_ready.1 hi
    have ho' : ops.toList[i]? = some o := by rw [Array.getElem?_toList]; exact ho
    have : i ∈ effsT done ops.toList 0 := effsT_mem.2 ⟨o, Nat.zero_le _, by simpa using ho', (rdB_ok hr ho').2 hi⟩
    rw [hee] at this; cases this
  intro f
  induction f with
  | zero =>
    intro done w lg env H k hx σ ρ h W L he hh hw hr X hX
    unfold treeX at hx
    split at hx
    · rename_i hp hee
      exact ⟨noR hr hp hee, hX σ lg env ρ H h (Le.refl σ) he hh hx⟩
    · cases hx
  | succ f ih =>
    intro done w lg env H k hx σ ρ h W L he hh hw hr X hX
    unfold treeX at hx
    split at hx
    · rename_i i hp
      obtain ⟨o, _, ho, hrd, hcl⟩ := pickT_some hp
      rw [Nat.sub_zero] at ho
      have hi : i < ops.size := by have := (List.getElem?_eq_some_iff.1 ho).1; simpa using this
      have hri := (rdB_ok hr ho).1 hrd
      rw [ho] at hx
      simp only [] at hx
      split at hx
      · rename_i y hy
        obtain ⟨v, g1, g2, g3⟩ := valG_ok hy hcl he hh
        cases hk : clsO P o with
        | pure =>
          rw [hk] at hx
          exact .inr (.inl ⟨i, o, v, hri, ho, hk, g3 hk, ih hx (he.put o.dst g1) hh hw (hr.set hi) hX⟩)
        | read =>
          rw [hk] at hx
          refine .inr (.inr (.inl ⟨i, o, v, hri, ho, hk, g2, ih hx (he.put o.dst g1) hh ?_ (hr.set hi) hX⟩))
          unfold WT
          exact ⟨ρ, v, W, rfl, he, g1, hcl, hw⟩
        | eff => exact absurd hk hcl
      · cases hx
    · rename_i hp
      split at hx
      · rename_i hee
        exact .inl ⟨noR hr hp hee, hX σ lg env ρ H h (Le.refl σ) he hh hx⟩
      · rename_i i r hee
        simp only [cond_false] at hx
        have hall := allI_ok hx
        refine .inr (.inr (.inr ⟨?_, ?_⟩))
        · intro hnil
          have him : i ∈ effsT done ops.toList 0 := by rw [hee]; exact List.mem_cons_self ..
          obtain ⟨o, _, ho, hrd⟩ := effsT_mem.1 him
          rw [Nat.sub_zero] at ho
          have := (rdB_ok hr ho).1 hrd
          rw [hnil] at this; cases this
        · intro j hj
          obtain ⟨_, _, o, ho, _⟩ := Go.Hw.mem_ready.1 hj
          have ho' : ops.toList[j]? = some o := by rw [Array.getElem?_toList]; exact ho
          have hjr := (rdB_ok hr ho').2 hj
          have hjm : j ∈ effsT done ops.toList 0 := effsT_mem.2 ⟨o, Nat.zero_le _, by simpa using ho', hjr⟩
          have hcl := pickT_none hp ho' (by rw [Nat.zero_add]; exact hjr)
          have hrun := hall j (by rw [← hee]; exact hjm)
          rw [ho'] at hrun
          simp only [] at hrun
          rw [hcl] at hrun
          simp only [] at hrun
          refine ⟨o, ho', hcl, denOp_step (entB_ok P) (stepX_ok hc hrun he hh ?_)⟩
          intro σ' env' ρ' H' h' hl he' hh' hk
          cases hck : chkT P G n ops.toList ((masks ops.toList []).getD j 0) H' w with
          | false => rw [hck] at hk; cases hk
          | true =>
            rw [hck] at hk
            have hi : j < ops.size := by have := (List.getElem?_eq_some_iff.1 ho').1; simpa using this
            exact ⟨chkT_ok hh' hck (hw.mono hl), ih hk he' hh' (hw.mono hl) (hr.set hi) fun σ'' lg'' env'' ρ'' H'' h'' hl' => hX σ'' lg'' env'' ρ'' H'' h'' (hl.trans hl')⟩

def TreOk (P : Program) (G : Nat) (h0 : Hp) (tr : Tre Bool) : Prop := ∀ call, CallOk P G h0 call → ∀ n id (ops : Array Oper) env H k, tr call n ops.toList env H k = true → ∀ σ ρ h, ER σ env ρ → HR P G h0 σ H h → ∀ Q : Post,
  (∀ σ' env' ρ' H' h', Le σ σ' → ER σ' env' ρ' → HR P G h0 σ' H' h' → k env' H' = true → Q .normal ρ' h') → D P n (.region id ops true) ρ h Q
/-- every order, compared with one of them -/
def treeB (P : Program) (G : Nat) (callO : Call (Option (Lg × CE × CH))) : Tre Bool := fun call n ops env H k =>
  slotsAll P ops (masks ops []) ops 0 && (match treeX (fun _ => none) P G callO n ops (masks ops []) true ops.length 0 [] [] env H fun lg e h => some (lg, e, h) with
  | some (la, ea, HA) => treeX no P G call n ops (masks ops []) false ops.length 0 [] [] env H (fun lb eb HB => oneX G H.nx lb la eb ea HB HA) && k ea HA
  | none => false)
theorem treeB_ok (hm : P.follows .mixedOrders = true) {callO : Call (Option (Lg × CE × CH))} : TreOk P G h0 (treeB P G callO) := by
  intro call hc n id ops env H k hx σ ρ h he hh Q hQ
  unfold treeB at hx
  rw [Bool.and_eq_true] at hx
  obtain ⟨hsl, hx⟩ := hx
  split at hx
  · rename_i la ea HA _
    rw [Bool.and_eq_true] at hx
    obtain ⟨hx, hk⟩ := hx
    refine D_draw_tree hm hsl ?_
    rw [Array.length_toList] at hx
    refine treeX_ok hc ops.size hx he hh (by unfold WT; rfl) ?_ ?_
    · refine ⟨by simp, fun j => ?_⟩
      rw [bit_eq, Nat.zero_testBit, Array.getD_eq_getD_getElem?, Array.getElem?_replicate]
      split <;> rfl
    · intro σ' lg' env' ρ' H' h' hl he' hh' hone
      obtain ⟨τ, t1, t2, t3⟩ := oneX_ok hone (fun b hb => hh.fresh b hb) hl he' hh'
      exact hQ τ ea ρ' HA h' t1 t2 t3 hk
  · cases hx

/-! ### loops, unrolled -/
def DLW (P : Program) (n : Nat) (c : Code) (ρ : Env) (h : Hp) (Q : Post) : Prop :=
  ∀ a w, Ag n ρ a → hpOf w = h → LW P c (fun e a' w' => ∃ ρ', Ag n ρ' a' ∧ Sm (.loop c) a w a' w' ∧ Q e ρ' (hpOf w')) a w
theorem DLW_D {n : Nat} {c : Code} {ρ : Env} {h : Hp} {Q : Post} (hd : DLW P n c ρ h Q) : D P n (.loop c) ρ h Q := fun a w ha hw => LW_loop (hd a w ha hw)
theorem LW.mono {c : Code} {Q Q' : Exit → Act → World → Prop} {a : Act} {w : World} (h : LW P c Q a w) (hq : ∀ e a' w', Q e a' w' → Q' e a' w') : LW P c Q' a w :=
  fun b k cs => let ⟨e, a', w', q, r⟩ := h b k cs; ⟨e, a', w', hq _ _ _ q, r⟩
theorem DLW_round {n : Nat} {c : Code} {ρ : Env} {h : Hp} {Q : Post} (hd : D P n c ρ h (thenQ (fun ρ' h' => DLW P n c ρ' h' Q) Q)) : DLW P n c ρ h Q := by
  intro a w ha hw
  refine LW_round (wp_mono (hd a w ha hw) ?_)
  rintro e a' w' ⟨ρ', h1, h2, h3⟩
  cases e with
  | normal =>
    refine LW.mono (h3 a' w' h1 rfl) ?_
    rintro e a2 w2 ⟨ρ2, g1, g2, g3⟩
    exact ⟨ρ2, g1, ⟨fun t ht => (g2.1 t ht).trans (h2.1 t ht), h2.2.trans g2.2⟩, g3⟩
  | exit i => exact ⟨ρ', h1, h2, h3⟩
  | goto l => exact ⟨ρ', h1, h2, h3⟩
  | ret => exact ⟨ρ', h1, h2, h3⟩
  | panic ch => exact h3.elim
  | outgrown => exact h3.elim

def BodyOk (P : Program) (G : Nat) (h0 : Hp) (n : Nat) (c : Code) (body : CE → CH → (Exit → CE → CH → Bool) → Bool) : Prop :=
  ∀ env H k, body env H k = true → ∀ σ ρ h, ER σ env ρ → HR P G h0 σ H h → ∀ Q : Post, (∀ e σ' env' ρ' H' h', Le σ σ' → ER σ' env' ρ' → HR P G h0 σ' H' h' → k e env' H' = true → Q e ρ' h') → D P n c ρ h Q
theorem loopX_ok {n : Nat} {c : Code} {body : CE → CH → (Exit → CE → CH → Bool) → Bool} (hb : BodyOk P G h0 n c body) : ∀ (m : Nat) (env : CE) (H : CH) (k : Exit → CE → CH → Bool), loopX no body m env H k = true →
    ∀ σ ρ h, ER σ env ρ → HR P G h0 σ H h → ∀ Q : Post, (∀ e σ' env' ρ' H' h', Le σ σ' → ER σ' env' ρ' → HR P G h0 σ' H' h' → k e env' H' = true → Q e ρ' h') → DLW P n c ρ h Q := by
  intro m
  induction m with
  | zero => intro env H k hx; cases hx
  | succ m ih =>
    intro env H k hx σ ρ h he hh Q hQ
    unfold loopX at hx
    refine DLW_round (hb env H _ hx σ ρ h he hh _ ?_)
    intro e σ' env' ρ' H' h' hl he' hh' hk
    cases e with
    | normal => exact ih env' H' k hk σ' ρ' h' he' hh' Q fun e σ'' env'' ρ'' H'' h'' hl' => hQ e σ'' env'' ρ'' H'' h'' (hl.trans hl')
    | exit i => exact hQ _ σ' env' ρ' H' h' hl he' hh' hk
    | goto l => exact hQ _ σ' env' ρ' H' h' hl he' hh' hk
    | ret => exact hQ _ σ' env' ρ' H' h' hl he' hh' hk
    | panic ch => cases hk
    | outgrown => cases hk

theorem cX_ok {call : Call Bool} (hc : CallOk P G h0 call) (hm : P.follows .mixedOrders = true) {tr : Tre Bool} (ht : TreOk P G h0 tr) {lf n : Nat} : ∀ (c : Code), BodyOk P G h0 n c (cX no P G tr call lf n c) := by
  intro c
  induction c with
  | skip => intro env H k hx σ ρ h he hh Q hQ; exact D_skip (hQ _ σ env ρ H h (Le.refl σ) he hh hx)
  | region id ops draw =>
    intro env H k hx σ ρ h he hh Q hQ
    unfold cX regX at hx
    cases draw with
    | false =>
      exact D_region (entB_ok P) (opsX_ok hc hx he hh fun σ' env' ρ' H' h' hl he' hh' hk => hQ _ σ' env' ρ' H' h' hl he' hh' hk)
    | true =>
      simp only [cond_true] at hx
      cases ho : orderGood P ops.toList (ordX P ops.toList (masks ops.toList []) ops.toList.length 0) with
      | false =>
        rw [ho] at hx
        exact ht call hc n id ops env H _ hx σ ρ h he hh Q fun σ' env' ρ' H' h' hl he' hh' hk => hQ _ σ' env' ρ' H' h' hl he' hh' hk
      | true =>
        rw [ho] at hx
        refine D_draw (entB_ok P) hm (l := ordX P ops.toList (masks ops.toList []) ops.toList.length 0) ?_
        unfold denDraw
        rw [ho]
        exact dDX_ok hc hx he hh (W := []) (by unfold WR; rfl) fun σ' env' ρ' H' h' hl he' hh' hk => hQ _ σ' env' ρ' H' h' hl he' hh' hk
  | seq x y ihx ihy =>
    intro env H k hx σ ρ h he hh Q hQ
    unfold cX at hx
    refine D_seq (ihx env H _ hx σ ρ h he hh _ ?_)
    intro e σ' env' ρ' H' h' hl he' hh' hk
    cases e with
    | normal => exact ihy env' H' k hk σ' ρ' h' he' hh' Q fun e σ'' env'' ρ'' H'' h'' hl' => hQ e σ'' env'' ρ'' H'' h'' (hl.trans hl')
    | exit i => exact hQ _ σ' env' ρ' H' h' hl he' hh' hk
    | goto l => exact hQ _ σ' env' ρ' H' h' hl he' hh' hk
    | ret => exact hQ _ σ' env' ρ' H' h' hl he' hh' hk
    | panic ch => cases hk
    | outgrown => cases hk
  | cond c x y ihx ihy =>
    intro env H k hx σ ρ h he hh Q hQ
    unfold cX at hx
    split at hx
    · rename_i b hb
      obtain ⟨v, h1, h2⟩ := evC_ok hb he hh
      unfold VR at h2; subst h2
      refine D_cond h1 ?_
      cases b with
      | true => exact ihx env H k hx σ ρ h he hh Q hQ
      | false => exact ihy env H k hx σ ρ h he hh Q hQ
    · cases hx
  | block id c ih =>
    intro env H k hx σ ρ h he hh Q hQ
    unfold cX at hx
    refine D_block (ih env H _ hx σ ρ h he hh _ ?_)
    intro e σ' env' ρ' H' h' hl he' hh' hk
    cases e with
    | normal => exact hQ _ σ' env' ρ' H' h' hl he' hh' hk
    | exit i =>
      simp only [blockQ]
      simp only [] at hk
      cases hb : Nat.beq i id with
      | true => rw [hb] at hk; exact hQ _ σ' env' ρ' H' h' hl he' hh' hk
      | false => rw [hb] at hk; exact hQ _ σ' env' ρ' H' h' hl he' hh' hk
    | goto l => exact hQ _ σ' env' ρ' H' h' hl he' hh' hk
    | ret => exact hQ _ σ' env' ρ' H' h' hl he' hh' hk
    | panic ch => cases hk
    | outgrown => cases hk
  | loop c ih =>
    intro env H k hx σ ρ h he hh Q hQ
    unfold cX at hx
    exact DLW_D (loopX_ok ih lf env H k hx σ ρ h he hh Q hQ)
  | rangeFunc f ps x y ihx ihy => intro env H k hx; cases hx
  | exit id => intro env H k hx σ ρ h he hh Q hQ; exact D_exit (hQ _ σ env ρ H h (Le.refl σ) he hh hx)
  | scope c ih =>
    intro env H k hx σ ρ h he hh Q hQ
    unfold cX at hx
    refine D_scope (ih env H _ hx σ ρ h he hh _ ?_)
    intro e σ' env' ρ' H' h' hl he' hh' hk
    cases e with
    | normal => exact hQ _ σ' env' ρ' H' h' hl he' hh' hk
    | exit i => exact hQ _ σ' env' ρ' H' h' hl he' hh' hk
    | goto l => cases hk
    | ret => exact hQ _ σ' env' ρ' H' h' hl he' hh' hk
    | panic ch => cases hk
    | outgrown => cases hk
  | label l => intro env H k hx σ ρ h he hh Q hQ; exact D_label (hQ _ σ env ρ H h (Le.refl σ) he hh hx)
  | goto l => intro env H k hx; cases hx
  | ret => intro env H k hx σ ρ h he hh Q hQ; exact D_ret (hQ _ σ env ρ H h (Le.refl σ) he hh hx)
  | refuse s => intro env H k hx; cases hx

theorem argsX_ok {σ : Sig} : ∀ {l : List CV} {vs : List Value} (i : Nat), VRs σ l vs → ER σ (argsX i l) (argsE i vs) := by
  intro l
  induction l with
  | nil => intro vs i h; unfold VRs at h; subst h; intro t x hx; cases hx
  | cons x l ih =>
    intro vs i h
    unfold VRs at h; obtain ⟨v, r, rfl, h1, h2⟩ := h
    exact (ih (i + 1) h2).put (some i) h1
theorem resX_ok {σ : Sig} {H : CH} {h : Hp} {env : CE} {ρ : Env} (he : ER σ env ρ) (hh : HR P G h0 σ H h) : ∀ {rs : List ResultVar} {l : List CV}, resX P H env rs = some l →
    ∃ vs, VRs σ l vs ∧ ∀ (acc : List Value) (F : List Value → Prop), F (acc.reverse ++ vs) → resM P h rs ρ acc F := by
  intro rs
  induction rs with
  | nil => intro l hl; cases hl; exact ⟨[], by unfold VRs; rfl, fun acc F hF => by simpa [resM] using hF⟩
  | cons r rs ih =>
    intro l hl
    cases r with
    | tmp t =>
      simp only [resX] at hl
      split at hl
      · rename_i x l' hx hl'
        cases hl
        obtain ⟨v, h1, h2⟩ := he t x hx
        obtain ⟨vs, h3, h4⟩ := ih hl'
        refine ⟨v :: vs, by unfold VRs; exact ⟨v, vs, rfl, h2, h3⟩, fun acc F hF => ?_⟩
        unfold resM; rw [h1]
        exact h4 _ F (by simpa using hF)
      · cases hl
    | cell a t =>
      simp only [resX] at hl
      split at hl
      · rename_i b o ha
        cases hu : (P.underlying t).isSome with
        | false => rw [hu] at hl; cases hl
        | true =>
          rw [hu] at hl
          simp only [cond_true] at hl
          split at hl
          · rename_i x l' hx hl'
            cases hl
            obtain ⟨v, h1, h2⟩ := he a _ ha
            unfold VR at h2; obtain ⟨p, hp, rfl⟩ := h2
            obtain ⟨w, g1, g2⟩ := ldX_ok hh hx hp
            obtain ⟨vs, h3, h4⟩ := ih hl'
            refine ⟨w :: vs, by unfold VRs; exact ⟨w, vs, rfl, g1, h3⟩, fun acc F hF => ?_⟩
            unfold resM; rw [h1]
            simp only [vK, xP, nn]
            rw [hu]
            exact g2 _ (h4 _ F (by simpa using hF))
          · cases hl
      · cases hl
theorem resC_ok {σ : Sig} {l : List CV} {vs : List Value} (h : VRs σ l vs) : VR σ (resC l) (resV vs) := by
  rcases l with _ | ⟨x, _ | ⟨y, l⟩⟩
  · unfold VRs at h; subst h; exact VR_undef
  · unfold VRs at h; obtain ⟨v, r, rfl, h1, h2⟩ := h
    unfold VRs at h2; subst h2; exact h1
  · have h' := h
    unfold VRs at h; obtain ⟨v, r, rfl, h1, h2⟩ := h
    unfold VRs at h2; obtain ⟨w, r, rfl, h2, h3⟩ := h2
    show VR σ (.tup (x :: y :: l)) (.tuple ⟨v :: w :: r⟩)
    unfold VR; exact ⟨_, rfl, h'⟩
theorem callX_ok (hm : P.follows .mixedOrders = true) {tr : Tre Bool} (ht : TreOk P G h0 tr) {lf : Nat} : ∀ (m : Nat), CallOk P G h0 (callX no P G tr lf m) := by
  intro m
  induction m with
  | zero => intro g args H k hx; cases hx
  | succ m ih =>
    intro g args H k hx σ h vs hv hh K hK
    unfold callX at hx
    split at hx
    · rename_i fn hfn
      split at hx
      · rename_i c hc
        cases hb : Nat.ble args.length fn.ntmps with
        | false => rw [hb] at hx; cases hx
        | true =>
          rw [hb] at hx
          simp only [cond_true] at hx
          refine calls_of_M hfn hc (by simpa [hv.len] using hb) ?_
          refine cX_ok ih hm ht c _ H _ hx σ _ h (argsX_ok 0 hv) hh _ ?_
          intro e σ' env' ρ' H' h' hl he' hh' hk
          have fin : ∀ l, resX P H' env' fn.results.toList = some l → k (resC l) H' = true → resM P h' fn.results.toList ρ' [] fun l => K (resV l) h' := by
            intro l hl' hk'
            obtain ⟨ws, w1, w2⟩ := resX_ok he' hh' hl'
            exact w2 [] _ (hK σ' _ _ H' h' hl (resC_ok w1) hh' hk')
          cases e with
          | normal =>
            simp only [] at hk
            split at hk
            · rename_i l hl'; exact fin l hl' hk
            · cases hk
          | ret =>
            simp only [] at hk
            split at hk
            · rename_i l hl'; exact fin l hl' hk
            · cases hk
          | exit i => cases hk
          | goto l => cases hk
          | panic ch => cases hk
          | outgrown => cases hk
      · cases hx
    · cases hx
end
end Go.Ix

/-
  A closed call, reckoned: it gives what the small machine gives, and leaves all that was there.
-/
set_option linter.unusedSimpArgs false
set_option linter.unusedVariables false
namespace Go.Ix
open Go Go.Hw

def H0 (G e : Nat) : List (Nat × List CV) → CH
  | [] => ⟨.leaf, G + e⟩
  | (g, cs) :: l => ⟨(H0 G e l).t.set g (some (.tab cs)), G + e⟩
/-- the variables, and what they point to -/
def σ0 (G : Nat) (bs : List Addr) : Sig := fun b => if b < G then some ⟨b, 0, 0, 0⟩ else match bs[b - G]? with
  | some a => some ⟨a.block, a.off, 0, 0⟩
  | none => none
theorem H0_get {G e : Nat} : ∀ {l : List (Nat × List CV)} {b : Nat} {o : CO}, (H0 G e l).t.get b = some o → ∃ cs, (b, cs) ∈ l ∧ o = .tab cs := by
  intro l
  induction l with
  | nil => intro b o h; cases h
  | cons x l ih =>
    intro b o h
    obtain ⟨g, cs⟩ := x
    simp only [H0, T.get_set] at h
    split at h
    · rename_i e; subst e; cases h; exact ⟨cs, List.mem_cons_self .., rfl⟩
    · obtain ⟨c, h1, h2⟩ := ih h; exact ⟨c, List.mem_cons_of_mem _ h1, h2⟩
theorem H0_nx {G e : Nat} : ∀ {l : List (Nat × List CV)}, (H0 G e l).nx = G + e
  | [] => rfl
  | (_, _) :: _ => rfl
/-- a table as the memory has it -/
def TabAt (σ : Sig) (h : Hp) (g : Nat) (cs : List CV) : Prop := ∃ (vs : List Value) (e : TypeId) (fr : Nat × Nat), h g = some (.cells ⟨vs⟩ e fr) ∧ ∀ (i : Nat) (c : CV), cs[i]? = some c → ∃ v, vs[i]? = some v ∧ VR σ c v
theorem H0_ok {P : Program} {G : Nat} {h : Hp} {l : List (Nat × List CV)} {bs : List Addr} (hg : ∀ x ∈ l, x.1 < G) (ht : ∀ x ∈ l, TabAt (σ0 G bs) h x.1 x.2) : HR P G h (σ0 G bs) (H0 G bs.length l) h := by
  refine ⟨?_, ?_, ?_, fun _ _ h => h, ?_⟩
  · intro b o hb
    obtain ⟨cs, h1, rfl⟩ := H0_get hb
    obtain ⟨vs, e, fr, h2, h3⟩ := ht _ h1
    refine ⟨⟨b, 0, 0, 0⟩, _, by simp [σ0, hg _ h1], h2, ?_⟩
    unfold OR
    refine ⟨vs, e, fr, rfl, fun i c hc => ?_⟩
    obtain ⟨v, h4, h5⟩ := h3 i c hc
    exact ⟨v, by simpa using h4, h5⟩
  · intro b b' o o' p p' g1 g2 hne hp hp'
    obtain ⟨cs, h1, rfl⟩ := H0_get g1
    obtain ⟨cs', h2, rfl⟩ := H0_get g2
    unfold σ0 at hp hp'
    rw [if_pos (hg _ h1)] at hp
    rw [if_pos (hg _ h2)] at hp'
    cases hp; cases hp'; exact hne
  · intro b hb
    rw [H0_nx] at hb
    unfold σ0; rw [if_neg (by omega)]
    rw [List.getElem?_eq_none (by omega)]
  · intro g hgg
    exact ⟨⟨g, 0, 0, 0⟩, by simp [σ0, hgg], rfl, rfl⟩
theorem err_vr {G j t : Nat} {bs : List Addr} {a : Addr} (hj : bs[j]? = some a) (hs : a.spot = none) : VR (σ0 G bs) (.ifc t (.ptr (G + j) 0)) (.iface t (.pointer (some a))) := by
  unfold VR
  refine ⟨_, rfl, ?_⟩
  unfold VR
  refine ⟨⟨a.block, a.off, 0, 0⟩, ?_, ?_⟩
  · unfold σ0
    rw [if_neg (by omega), Nat.add_sub_cancel_left, hj]
  · cases a; simp at hs; subst hs; rfl
theorem spot_of {h : Hp} {a : Addr} {v : Value} (hc : cell h a = some v) : a.spot = none := by
  unfold cell at hc
  split at hc
  · split at hc
    · cases hc
    · rename_i hs; simpa using hs
  · cases hc
/-- a call as it is reckoned -/
def runC (P : Program) (G lf m : Nat) : Call Bool := callX no P G (treeB P G (callX (fun _ => none) P G (tree1 (fun _ => none) P G) lf m)) lf m
/-- a closed call that gives 'true' -/
theorem closed {P : Program} (hm : P.follows .mixedOrders = true) {G e lf m f : Nat} {l : List (Nat × List CV)} (hg : (l.all fun x => Nat.blt x.1 G) = true)
    (hx : runC P G lf m f [] (H0 G e l) (fun y _ => CV.eq y (.bool true)) = true) {h : Hp} {bs : List Addr} (he : bs.length = e) (ht : ∀ x ∈ l, TabAt (σ0 G bs) h x.1 x.2) {K : Value → Hp → Prop}
    (hK : ∀ h', Ext none' h h' → K (.bool true) h') : HCalls P f ⟨[]⟩ h K := by
  have hg' : ∀ x ∈ l, x.1 < G := fun x hx => by have := List.all_eq_true.1 hg x hx; simpa [Nat.blt_eq] using this
  subst he
  refine callX_ok (h0 := h) hm (treeB_ok hm) m f [] _ _ hx (σ0 G bs) h [] (by unfold VRs; rfl) (H0_ok hg' ht) K ?_
  intro σ' y v H' h' hl hv hh' hk
  have := CV.eq_eq _ _ hk; subst this
  unfold VR at hv; subst hv
  exact hK h' fun b o hb _ => hh'.keep b o hb
end Go.Ix

/-
  The frame of the laws: what is laid; a world that meets it; the tables as they are read.
-/
set_option linter.unusedSimpArgs false
set_option linter.unusedVariables false
namespace Go.Proofs.YtedklcmdjoojfaaDoor
open Go Go.Hw Go.Ix
open Go.ChangeShapes Go.WideShapes Go.ChangeAt Go.RowKit

theorem own_knob : ownKnob Tryd.prog.godebug = none := by kernel_rfl
theorem laid_out : laidOutB Tryd.prog = true := by kernel_rfl
theorem follows_mixed : Tryd.prog.follows .mixedOrders = true := by kernel_rfl
/-- the world with the variables as they are laid -/
noncomputable def low : Nat := (World.holding Tryd.prog default ⟨#[], #[], []⟩).heap.size
def rowOf {H : Type} (d : DataW H) : Array Value := match d with
  | .agg l => (l.flatMap fun
    | .lit (.int k n) => [Value.int k n]
    | .agg m => m.map fun | .lit (.int k n) => Value.int k n | _ => .nilIface
    | _ => []).toArray
  | _ => #[]
def layAt (w : World) (g : Nat) (cs : Array Value) : World :=
  { w with heap := w.heap.modify g fun
      | .cells _ t frozen => .cells cs t frozen
      | o => o }
noncomputable def laidWorld (os : Os) : World :=
  layAt (layAt (layAt (layAt (layAt (World.holding Tryd.prog os ⟨#[.cells #[.string ⟨⟨[118, 97, 108, 117, 101, 32, 111, 117, 116, 32, 111, 102, 32, 114, 97, 110, 103, 101]⟩⟩] 134, .cells #[.string ⟨⟨[105, 110, 118, 97, 108, 105, 100, 32, 115, 121, 110, 116, 97, 120]⟩⟩] 134], #[], []⟩) 2 (rowOf (H := Unit) Rows.laid_math_bits_deBruijn32tab)) 3 (rowOf (H := Unit) Rows.laid_math_bits_deBruijn64tab)) 1 (rowOf (H := Unit) Rows.laid_internal_strconv_uint64pow10)) 5 #[.iface 132 (.pointer (some ⟨low + 0, 0, none⟩))]) 4 #[.iface 132 (.pointer (some ⟨low + 1, 0, none⟩))]
abbrev laidL : List (String × DataW Unit) := Rows.tftpNumbersRow.laid
theorem laid_met (os : Os) (args : Array Value) : laidMetH Tryd.prog laidL ((laidWorld os).forCall (fun _ _ => 0) ⟨#[], args, []⟩).memory := by
  have h : laidMet Tryd.prog laidL ((laidWorld os).forCall (fun _ _ => 0) ⟨#[], args, []⟩).memory := laidMet_of_run' 8 (by kernel_rfl) (by kernel_rfl)
  exact h
theorem none_handles : (laidL.filter fun x => x.2.handleName?.isSome) = [] := by kernel_rfl
def tab0L : List Int := [0, 1, 28, 2, 29, 14, 24, 3, 30, 22, 20, 15, 25, 17, 4, 8, 31, 27, 13, 23, 21, 19, 16, 7, 26, 12, 18, 6, 11, 5, 10, 9]
theorem tab0 {W : World} (h : laidMetH Tryd.prog laidL W) (σ : Sig) : TabAt σ (hpOf W) 2 (tab0L.map fun z => CV.int .u8 z) := by
  have hp := laid_one h none_handles (n := "math/bits.deBruijn32tab") (d := Rows.laid_math_bits_deBruijn32tab) (by kernel_rfl)
  rw [show (Rows.laid_math_bits_deBruijn32tab : DataW Unit) = Lib.tabData .u8 tab0L by kernel_rfl] at hp
  have hg : Tryd.prog.globalNamed "math/bits.deBruijn32tab" = some 2 := by kernel_rfl
  have tab : Lib.TabIs Tryd.prog W "math/bits.deBruijn32tab" .u8 tab0L :=
    Lib.tabIs_of_head hg (t := 123) (e := 5) (n := 32) (by kernel_rfl) (by kernel_rfl) (by kernel_rfl) (by kernel_rfl) (by kernel_rfl) hp
  unfold Lib.TabIs World.var? at tab
  rw [hg] at tab
  simp only [Option.bind_some] at tab
  cases hb : W.heap[2]? with
  | none => rw [hb] at tab; cases tab
  | some o =>
    rw [hb] at tab
    cases o <;> simp at tab
    rename_i c e fr
    refine ⟨c.toList, e, fr, hb, fun i x hx => ?_⟩
    rw [List.getElem?_map] at hx
    cases hz : tab0L[i]? with
    | none => rw [hz] at hx; cases hx
    | some z =>
      rw [hz] at hx; cases hx
      refine ⟨.int .u8 z, by rw [tab]; simp [hz], by unfold VR; rfl⟩
def tab1L : List Int := [0, 1, 56, 2, 57, 49, 28, 3, 61, 58, 42, 50, 38, 29, 17, 4, 62, 47, 59, 36, 45, 43, 51, 22, 53, 39, 33, 30, 24, 18, 12, 5, 63, 55, 48, 27, 60, 41, 37, 16, 46, 35, 44, 21, 52, 32, 23, 11, 54, 26, 40, 15, 34, 20, 31, 10, 25, 14, 19, 9, 13, 8, 7, 6]
theorem tab1 {W : World} (h : laidMetH Tryd.prog laidL W) (σ : Sig) : TabAt σ (hpOf W) 3 (tab1L.map fun z => CV.int .u8 z) := by
  have hp := laid_one h none_handles (n := "math/bits.deBruijn64tab") (d := Rows.laid_math_bits_deBruijn64tab) (by kernel_rfl)
  rw [show (Rows.laid_math_bits_deBruijn64tab : DataW Unit) = Lib.tabData .u8 tab1L by kernel_rfl] at hp
  have hg : Tryd.prog.globalNamed "math/bits.deBruijn64tab" = some 3 := by kernel_rfl
  have tab : Lib.TabIs Tryd.prog W "math/bits.deBruijn64tab" .u8 tab1L :=
    Lib.tabIs_of_head hg (t := 124) (e := 5) (n := 64) (by kernel_rfl) (by kernel_rfl) (by kernel_rfl) (by kernel_rfl) (by kernel_rfl) hp
  unfold Lib.TabIs World.var? at tab
  rw [hg] at tab
  simp only [Option.bind_some] at tab
  cases hb : W.heap[3]? with
  | none => rw [hb] at tab; cases tab
  | some o =>
    rw [hb] at tab
    cases o <;> simp at tab
    rename_i c e fr
    refine ⟨c.toList, e, fr, hb, fun i x hx => ?_⟩
    rw [List.getElem?_map] at hx
    cases hz : tab1L[i]? with
    | none => rw [hz] at hx; cases hx
    | some z =>
      rw [hz] at hx; cases hx
      refine ⟨.int .u8 z, by rw [tab]; simp [hz], by unfold VR; rfl⟩
def tab2L : List Int := [1, 10, 100, 1000, 10000, 100000, 1000000, 10000000, 100000000, 1000000000, 10000000000, 100000000000, 1000000000000, 10000000000000, 100000000000000, 1000000000000000, 10000000000000000, 100000000000000000, 1000000000000000000, 10000000000000000000]
theorem tab2 {W : World} (h : laidMetH Tryd.prog laidL W) (σ : Sig) : TabAt σ (hpOf W) 1 (tab2L.map fun z => CV.int .u64 z) := by
  have hp := laid_one h none_handles (n := "internal/strconv.uint64pow10") (d := Rows.laid_internal_strconv_uint64pow10) (by kernel_rfl)
  rw [show (Rows.laid_internal_strconv_uint64pow10 : DataW Unit) = Lib.tabData .u64 tab2L by kernel_rfl] at hp
  have hg : Tryd.prog.globalNamed "internal/strconv.uint64pow10" = some 1 := by kernel_rfl
  have tab : Lib.TabIs Tryd.prog W "internal/strconv.uint64pow10" .u64 tab2L :=
    Lib.tabIs_of_head hg (t := 106) (e := 80) (n := 20) (by kernel_rfl) (by kernel_rfl) (by kernel_rfl) (by kernel_rfl) (by kernel_rfl) hp
  unfold Lib.TabIs World.var? at tab
  rw [hg] at tab
  simp only [Option.bind_some] at tab
  cases hb : W.heap[1]? with
  | none => rw [hb] at tab; cases tab
  | some o =>
    rw [hb] at tab
    cases o <;> simp at tab
    rename_i c e fr
    refine ⟨c.toList, e, fr, hb, fun i x hx => ?_⟩
    rw [List.getElem?_map] at hx
    cases hz : tab2L[i]? with
    | none => rw [hz] at hx; cases hx
    | some z =>
      rw [hz] at hx; cases hx
      refine ⟨.int .u64 z, by rw [tab]; simp [hz], by unfold VR; rfl⟩
theorem errstr (u : TypeId) (h : Tryd.prog.typeName? 3 u = some "*errors.errorString") : u = 132 :=
  typeName_ptr_named (nm := "errors.errorString") (by rw [show "*" ++ "errors.errorString" = "*errors.errorString" by decide]; kernel_rfl) (by kernel_rfl) (by decide) u (by rw [show "*" ++ "errors.errorString" = "*errors.errorString" by decide]; exact h)
theorem err0 {W : World} (h : laidMetH Tryd.prog laidL W) : ∃ a : Addr, a.spot = none ∧ ∃ e fr, hpOf W 5 = some (.cells ⟨[.iface 132 (.pointer (some a))]⟩ e fr) := by
  have hs := laid_one h none_handles (n := "strconv.ErrRange") (d := Rows.laid_strconv_ErrRange) (by kernel_rfl)
  have hg : Tryd.prog.globalNamed "strconv.ErrRange" = some 5 := by kernel_rfl
  obtain ⟨a, s, hv, hc, _, _⟩ := laid_sentinel (ti := 99) (tp := 132) (te := 134) (ts := 9) (ms := #[("Error", 135)]) (f := ⟨"s", 9, 0, false, "", "errors", 0⟩) hs hg (by kernel_rfl) (by kernel_rfl) errstr (by kernel_rfl) (by kernel_rfl) rfl rfl (by kernel_rfl) (by kernel_rfl) (by kernel_rfl)
  refine ⟨a, spot_of (h := hpOf W) (by rw [cell_hp]; exact hc), ?_⟩
  unfold World.var? at hv
  rw [hg] at hv
  simp only [Option.bind_some] at hv
  cases hb : W.heap[5]? with
  | none => rw [hb] at hv; cases hv
  | some o =>
    rw [hb] at hv
    cases o <;> simp at hv
    rename_i c e fr
    exact ⟨e, fr, by show W.heap[5]? = _; rw [hb, hv]⟩
theorem err1 {W : World} (h : laidMetH Tryd.prog laidL W) : ∃ a : Addr, a.spot = none ∧ ∃ e fr, hpOf W 4 = some (.cells ⟨[.iface 132 (.pointer (some a))]⟩ e fr) := by
  have hs := laid_one h none_handles (n := "strconv.ErrSyntax") (d := Rows.laid_strconv_ErrSyntax) (by kernel_rfl)
  have hg : Tryd.prog.globalNamed "strconv.ErrSyntax" = some 4 := by kernel_rfl
  obtain ⟨a, s, hv, hc, _, _⟩ := laid_sentinel (ti := 99) (tp := 132) (te := 134) (ts := 9) (ms := #[("Error", 135)]) (f := ⟨"s", 9, 0, false, "", "errors", 0⟩) hs hg (by kernel_rfl) (by kernel_rfl) errstr (by kernel_rfl) (by kernel_rfl) rfl rfl (by kernel_rfl) (by kernel_rfl) (by kernel_rfl)
  refine ⟨a, spot_of (h := hpOf W) (by rw [cell_hp]; exact hc), ?_⟩
  unfold World.var? at hv
  rw [hg] at hv
  simp only [Option.bind_some] at hv
  cases hb : W.heap[4]? with
  | none => rw [hb] at hv; cases hv
  | some o =>
    rw [hb] at hv
    cases o <;> simp at hv
    rename_i c e fr
    exact ⟨e, fr, by show W.heap[4]? = _; rw [hb, hv]⟩
def tabL : List (Nat × List CV) := [(2, tab0L.map fun z => CV.int .u8 z), (3, tab1L.map fun z => CV.int .u8 z), (1, tab2L.map fun z => CV.int .u64 z), (5, [.ifc 132 (.ptr (6 + 0) 0)]), (4, [.ifc 132 (.ptr (6 + 1) 0)])]
def erN : Nat := 2
theorem tabs_of {W : World} (h : laidMetH Tryd.prog laidL W) : ∃ bs : List Addr, bs.length = erN ∧ ∀ x ∈ tabL, TabAt (σ0 6 bs) (hpOf W) x.1 x.2 := by
  obtain ⟨a0, s0, e0, f0, c0⟩ := err0 h
  obtain ⟨a1, s1, e1, f1, c1⟩ := err1 h
  refine ⟨[a0, a1], rfl, ?_⟩
  intro x hx
  simp only [tabL, List.mem_cons, List.mem_nil_iff, or_false] at hx
  rcases hx with rfl | rfl | rfl | rfl | rfl
  · exact tab0 h _
  · exact tab1 h _
  · exact tab2 h _
  · exact ⟨_, e0, f0, c0, fun i c hc => by
      cases i with
      | zero => cases hc; exact ⟨_, rfl, err_vr (j := 0) rfl s0⟩
      | succ i => cases hc⟩
  · exact ⟨_, e1, f1, c1, fun i c hc => by
      cases i with
      | zero => cases hc; exact ⟨_, rfl, err_vr (j := 1) rfl s1⟩
      | succ i => cases hc⟩
def glN : Nat := 6
end Go.Proofs.YtedklcmdjoojfaaDoor

/-
  What is laid is what the walks of layer 17 ask for; what a few calls answer (live).
-/
set_option linter.unusedSimpArgs false
set_option linter.unusedVariables false
namespace Go.Proofs.YtedklcmdjoojfaaDoor
open Go Go.Hw
open Go.ChangeShapes Go.WideShapes Go.ChangeAt Go.RowKit

theorem g_pow : Tryd.prog.globalNamed "internal/strconv.uint64pow10" = some 1 := by kernel_rfl
theorem g_syn : Tryd.prog.globalNamed "strconv.ErrSyntax" = some 4 := by kernel_rfl
theorem g_rng : Tryd.prog.globalNamed "strconv.ErrRange" = some 5 := by kernel_rfl
theorem one_pow : (laidL.filter fun x => x.1 == "internal/strconv.uint64pow10") = [("internal/strconv.uint64pow10", Rows.laid_internal_strconv_uint64pow10)] := by kernel_rfl
theorem one_syn : (laidL.filter fun x => x.1 == "strconv.ErrSyntax") = [("strconv.ErrSyntax", Rows.laid_strconv_ErrSyntax)] := by kernel_rfl
theorem one_rng : (laidL.filter fun x => x.1 == "strconv.ErrRange") = [("strconv.ErrRange", Rows.laid_strconv_ErrRange)] := by kernel_rfl
theorem pow_data : (Rows.laid_internal_strconv_uint64pow10 : DataW Unit) = Lib.tabData .u64 Lib.pow10Tab := by kernel_rfl
theorem glob_of {W : World} (h : laidMetH Tryd.prog laidL W) (hsh : W.ShapedOpen Tryd.prog) : Glob (hpOf W) := by
  have hp := laid_one h none_handles one_pow
  have hs := laid_one h none_handles one_syn
  have hr := laid_one h none_handles one_rng
  rw [pow_data] at hp
  have tab : Lib.TabIs Tryd.prog W "internal/strconv.uint64pow10" .u64 Lib.pow10Tab := by
    obtain ⟨t, e, n, q1, q2, q3, q4, q5⟩ : ∃ t e n, (Tryd.prog.globals[1]?).map (·.type) = some t ∧ Tryd.prog.underlying t = some (.array n e) ∧ Tryd.prog.underlying e = some (.int .u64) ∧ Tryd.prog.cellsOf e = 1 ∧ Tryd.prog.cellsOf t = n := ⟨106, 80, 20, by kernel_rfl, by kernel_rfl, by kernel_rfl, by kernel_rfl, by kernel_rfl⟩
    exact Lib.tabIs_of_head g_pow q1 q2 q3 q4 q5 hp
  have hvar := tab
  unfold Lib.TabIs at hvar
  refine ⟨fun i z hz => ?_, ?_, ?_, ?_, ?_⟩
  · have hi := lt_of_get hz
    have := World.var?_cell g_pow hvar i
    rw [cell_hp, this]
    simp [hz]
  · unfold World.var? at hvar
    rw [g_pow] at hvar
    simp only [Option.bind_some] at hvar
    cases hb : W.heap[1]? with
    | none => rw [hb] at hvar; cases hvar
    | some o =>
      rw [hb] at hvar
      cases o <;> simp at hvar
      rename_i c e fr
      exact ⟨c.toList, e, fr, hb, by rw [hvar]; simp [pow_len]⟩
  · obtain ⟨a, s, hv, _, _, _⟩ := laid_sentinel (ti := 99) (tp := 132) (te := 134) (ts := 9) (ms := #[("Error", 135)]) (f := ⟨"s", 9, 0, false, "", "errors", 0⟩) hs g_syn (by kernel_rfl) (by kernel_rfl) errstr (by kernel_rfl) (by kernel_rfl) rfl rfl (by kernel_rfl) (by kernel_rfl) (by kernel_rfl)
    exact ⟨_, _, by rw [cell_hp]; have := World.var?_cell g_syn hv 0; simpa using this⟩
  · obtain ⟨a, s, hv, _, _, _⟩ := laid_sentinel (ti := 99) (tp := 132) (te := 134) (ts := 9) (ms := #[("Error", 135)]) (f := ⟨"s", 9, 0, false, "", "errors", 0⟩) hr g_rng (by kernel_rfl) (by kernel_rfl) errstr (by kernel_rfl) (by kernel_rfl) rfl rfl (by kernel_rfl) (by kernel_rfl) (by kernel_rfl)
    exact ⟨_, _, by rw [cell_hp]; have := World.var?_cell g_rng hv 0; simpa using this⟩
  · obtain ⟨m, hm⟩ := cell_of_shapedOpen_int (g := 0) (t := 3) (zero := #[.int .i64 0]) (k := .i64) hsh (of_decide_eq_true (by kernel_rfl)) (by kernel_rfl) (by kernel_rfl) (by kernel_rfl) (by kernel_rfl) (by kernel_rfl)
    exact ⟨m, hm⟩

set_option maxRecDepth 100000 in
theorem live_reckoned : Ix.runC Tryd.prog glN 1000000 1000 8 [] (Ix.H0 glN erN tabL) (fun y _ => Ix.CV.eq y (.bool true)) = true := by kernel_rfl
theorem tab_ext {σ : Ix.Sig} {h h' : Hp} {g : Nat} {cs : List Ix.CV} (H : Ix.TabAt σ h g cs) (he : Ext none' h h') : Ix.TabAt σ h' g cs := by
  obtain ⟨vs, e, fr, h1, h2⟩ := H
  exact ⟨vs, e, fr, he _ _ h1 (fun e => e), h2⟩
/-- the variables, as they are laid -/
def Laid (h : Hp) : Prop := ∃ bs : List Addr, bs.length = erN ∧ ∀ x ∈ tabL, Ix.TabAt (Ix.σ0 glN bs) h x.1 x.2
theorem Laid.ext {h h' : Hp} (H : Laid h) (he : Ext none' h h') : Laid h' := let ⟨bs, h1, h2⟩ := H; ⟨bs, h1, fun x hx => tab_ext (h2 x hx) he⟩
/-- the given variables' text gives them -/
theorem laid_of {W : World} (h : laidMetH Tryd.prog laidL W) : Laid (hpOf W) := tabs_of h
theorem c_live {h : Hp} {K : Bool → Hp → Prop} (L : Laid h) (hK : ∀ h', Ext none' h h' → K true h') : C8 h K := by
  obtain ⟨bs, hb, ht⟩ := L
  unfold C8
  exact (Ix.closed (bs := bs) follows_mixed (by kernel_rfl) live_reckoned hb ht (K := fun v h' => v = .bool true ∧ Ext none' h h') fun h' he => ⟨rfl, he⟩).mono fun v h' ⟨e, he⟩ => by subst e; exact hK h' he
end Go.Proofs.YtedklcmdjoojfaaDoor
