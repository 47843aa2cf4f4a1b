/-
 append, copy, make, min and max, len; maps.
-/
import Derived.Test.YtbbnpmikjdgdpaaGreatPa
set_option linter.unusedSimpArgs false
set_option linter.unusedVariables false
namespace Go.Hw
open Go
def lnK (y : Value) (F : Nat → Prop) : Prop :=
 match y with
 | .slice _ n _ => F n
 | .string s => F s.size
 | _ => False
def srcK (h : Hp) (sz n : Nat) (y : Value) (F : List Value → Prop) : Prop :=
 match y with
 | .slice p _ _ => match p with
  | none => F []
  | some a => match rdN h a 0 (n * sz) with
   | some l => F l
   | none => False
 | .string s => F ((bcells s).take n)
 | _ => False
def zc (P : Program) (e : TypeId) : List Value := match P.info? e with
 | some i => match i.zero with
  | some v => vcells v
  | none => []
 | none => []
def zOk (P : Program) (e : TypeId) : Bool := match P.info? e with
 | some i => i.zero.isSome
 | none => false
def zeros (P : Program) (e : TypeId) (n : Nat) : Array Value := Builtin.zeroCells ⟨zc P e⟩ n
def apK (P : Program) (e : TypeId) (s : Sl) (y : Value) (h : Hp) (F : Sl → Hp → Prop) : Prop :=
 lnK y fun n =>
 (s.n + n ≤ s.c → srcK h (P.cellsOf e) n y fun l => match s.p with
  | some a => wrL (a.add (s.n * P.cellsOf e)) 0 l h fun h' => F ⟨s.p, s.n + n, s.c⟩ h'
  | none => F ⟨none, s.n + n, s.c⟩ h) ∧
 (s.c < s.n + n → Builtin.nextslicecap (s.n + n) s.c * P.bytesOf e ≤ 2 ^ 48 ∧ srcK h (P.cellsOf e) s.n s.v fun old => srcK h (P.cellsOf e) n y fun l =>
  ∀ c b, s.n + n ≤ c → h b = none → F ⟨some ⟨b, 0, none⟩, s.n + n, c⟩ (upd h b (.cells (⟨old ++ l⟩ ++ zeros P e (c - (s.n + n))) e)))
def bytes0 (P : Program) (e : TypeId) : Bool := (P.info? e).isSome && zOk P e && Nat.blt 0 (P.bytesOf e)
theorem lenOf_swp {P : Program} {y : Value} {h : Hp} {K : Nat → Hp → Prop} (hk : lnK y fun n => K n h) : swp P (Builtin.lenOf y) h K := by
 unfold lnK at hk
 split at hk
 ·exact hk
 ·exact hk
 ·exact hk.elim
theorem firstCells_swp {P : Program} {sz n : Nat} {y : Value} {h : Hp} {K : Array Value → Hp → Prop} (hk : srcK h sz n y fun l => K ⟨l⟩ h) : swp P (Builtin.firstCells sz n y) h K := by
 unfold srcK at hk
 unfold Builtin.firstCells
 split at hk
 ·split at hk
  ·exact hk
  ·split at hk
   ·rename_i a l hl
    exact loadCells_swp hl hk
   ·exact hk.elim
 ·rename_i s
  simp only []
  have : (Array.map (fun b => Value.int .u8 b.toNat) (s.extract 0 n).data) = ⟨(bcells s).take n⟩ := by
   apply Array.ext'
   simp [bcells, ByteArray.data_extract, List.map_take]
  change K _ h
  rw [this]; exact hk
 ·exact hk.elim
theorem zeroValue_swp {P : Program} {e : TypeId} {h : Hp} {K : Value → Hp → Prop} (hz : zOk P e = true) (hk : ∀ v, v.cells = ⟨zc P e⟩ → K v h) : swp P (zeroValue e) h K := by
 unfold zOk at hz
 cases hi : P.info? e with
 | none => rw [hi] at hz; cases hz
 | some i =>
  rw [hi] at hz
  cases hv : i.zero with
  | none => simp [hv] at hz
  | some v =>
   unfold zeroValue
   rw [swp_bind']
   refine typeInfo_swp hi ?_
   rw [hv]
   refine hk v ?_
   apply Array.ext'
   rw [vcells_eq]
   simp [zc, hi, hv]
theorem askRoom_swp {P : Program} {n : Nat} {h : Hp} {K : Unit → Hp → Prop} (hk : K () h) : swp P (askRoom n) h K := by
 unfold askRoom
 split <;> exact hk
theorem pureEq {P : Program} {α : Type} {x y : α} {h : Hp} {K : α → Hp → Prop} (e : x = y) (hk : K y h) : swp P (pure x : Sem α) h K := by subst e; exact hk
theorem lnK_some {y : Value} {F : Nat → Prop} (h : lnK y F) : ∃ n, ∀ G : Nat → Prop, lnK y G = G n := by
 unfold lnK at h
 split at h
 ·exact ⟨_, fun _ => rfl⟩
 ·exact ⟨_, fun _ => rfl⟩
 ·exact h.elim
theorem srcK_mono {h : Hp} {sz n : Nat} {y : Value} {F G : List Value → Prop} (hf : ∀ l, F l → G l) (hs : srcK h sz n y F) : srcK h sz n y G := by
 unfold srcK at hs ⊢
 split
 ·simp only [] at hs
  split
  ·exact hf _ hs
  ·simp only [] at hs
   split
   ·rename_i l hl; rw [hl] at hs; exact hf _ hs
   ·rename_i hl; rw [hl] at hs; exact hs
 ·exact hf _ hs
 ·rename_i h1 h2
  split at hs
  ·exact (h1 _ _ _ rfl).elim
  ·exact (h2 _ rfl).elim
  ·exact hs
theorem apK_swp {P : Program} {ts : Array TypeId} {t : TypeId} {e : TypeId} {s : Sl} {y : Value} {h : Hp} {K : Value → Hp → Prop} {sT xT : TypeId}
  (hT : ts[0]? = some sT) (hX : ts[1]? = some xT) (hu : P.underlying sT = some (.slice e)) (hx : ∃ d, P.underlying xT = some d ∧ ∀ k, d ≠ .int k)
  (hb : bytes0 P e = true) (hk : apK P e s y h fun r h' => K (.slice r.p r.n r.c) h') : swp P (Builtin.append_ ts t #[s.v, y]) h K := by
 obtain ⟨d, hd, hdi⟩ := hx
 unfold Builtin.append_
 have a0 : (#[s.v, y] : Array Value)[0]? = some s.v := rfl
 have a1 : (#[s.v, y] : Array Value)[1]? = some y := rfl
 simp only [hT, hX, a0, a1, swp_bind']
 refine underlying_swp hu ?_
 simp only [Sl.v, swp_bind']
 simp only [bytes0, Bool.and_eq_true] at hb
 refine sizeOf_swp hb.1.1 ?_
 refine underlying_swp hd ?_
 refine pureEq (y := false) ?_ ?_
 ·cases d <;> first | rfl | exact absurd rfl (hdi _)
 simp only [Bool.false_eq_true, if_false, Bool.not_false, if_true, swp_bind']
 refine lenOf_swp ?_
 obtain ⟨n, hn⟩ := lnK_some (show lnK y _ from hk)
 unfold apK at hk
 rw [hn] at hk ⊢
 obtain ⟨hin, hgr⟩ := hk
 by_cases hc : s.n + n ≤ s.c
 ·simp only [hc, if_true, swp_bind']
  refine firstCells_swp (srcK_mono (fun l hl => ?_) (hin hc))
  cases hp : s.p with
  | none =>
   rw [hp] at hl
   simp only [swp_pure] at hl ⊢
   exact hl
  | some a =>
   rw [hp] at hl
   simp only [swp_bind']
   exact storeCells_swp hl
 ·obtain ⟨h48, hgr⟩ := hgr (by omega)
  have hbt : P.bytesOf e ≠ 0 := by have := hb.2; simp [Nat.blt_eq] at this; omega
  obtain ⟨i, hi⟩ := Option.isSome_iff_exists.1 hb.1.1
  have hbi : i.bytes = P.bytesOf e := by simp [Program.bytesOf, hi]
  simp only [hc, if_false, swp_bind']
  refine typeInfo_swp hi ?_
  have n1 : ¬ (((s.n + n : Nat) : Int) > IntKind.i64.max ∧ (False ∨ i.bytes = 0)) := by rw [hbi]; simp [hbt]
  simp only [n1, if_false, swp_bind']
  refine typeInfo_swp hi ?_
  have n2 : ¬ (Builtin.nextslicecap (s.n + n) s.c * i.bytes > 2 ^ 48) := by rw [hbi]; omega
  simp only [n2, if_false, swp_bind']
  intro t
  have hle : s.n + n ≤ (Question.appendCap (s.n + n) s.c e).cut t := by simp only [Question.cut]; omega
  generalize (Question.appendCap (s.n + n) s.c e).cut t = c at hle
  rw [spure_swp]
  refine typeInfo_swp hi (askRoom_swp ?_)
  refine firstCells_swp (srcK_mono (fun old hgr => ?_) hgr)
  refine firstCells_swp (srcK_mono (fun l hgr => ?_) hgr)
  refine zeroValue_swp hb.1.2 (fun z hz => ?_)
  rw [newRow_swp]
  intro b hb'
  rw [swp_pure, hz]
  have := hgr c b hle hb'
  have e1 : (⟨old⟩ : Array Value) ++ ⟨l⟩ = ⟨old ++ l⟩ := by apply Array.ext'; simp
  rw [e1]; exact this
def cpK (P : Program) (e : TypeId) (s : Sl) (y : Value) (h : Hp) (F : Nat → Hp → Prop) : Prop :=
 lnK y fun m => srcK h (P.cellsOf e) (Nat.min m s.n) y fun l => match s.p with
  | some a => wrL a 0 l h fun h' => F (Nat.min m s.n) h'
  | none => F (Nat.min m s.n) h
theorem cpK_swp {P : Program} {ts : Array TypeId} {t : TypeId} {e : TypeId} {s : Sl} {y : Value} {h : Hp} {K : Value → Hp → Prop} {sT : TypeId}
  (hT : ts[0]? = some sT) (hu : P.underlying sT = some (.slice e)) (hi : (P.info? e).isSome = true)
  (hk : cpK P e s y h fun r h' => K (.int .i64 r) h') : swp P (Builtin.copy_ ts t #[s.v, y]) h K := by
 unfold Builtin.copy_
 have a0 : (#[s.v, y] : Array Value)[0]? = some s.v := rfl
 have a1 : (#[s.v, y] : Array Value)[1]? = some y := rfl
 simp only [hT, a0, a1, swp_bind']
 refine underlying_swp hu ?_
 simp only [Sl.v, swp_bind']
 refine lenOf_swp ?_
 obtain ⟨n, hn⟩ := lnK_some (show lnK y _ from hk)
 unfold cpK at hk
 rw [hn] at hk ⊢
 refine sizeOf_swp hi ?_
 refine firstCells_swp (srcK_mono (fun l hl => ?_) hk)
 cases hp : s.p with
 | none => rw [hp] at hl; exact hl
 | some a =>
  rw [hp] at hl
  simp only [swp_bind']
  exact storeCells_swp hl
def mkK (P : Program) (e : TypeId) (l c : Int) (h : Hp) (F : Sl → Hp → Prop) : Prop :=
 bif decide (0 ≤ l) && decide (l ≤ c) && decide (P.bytesOf e * c ≤ 2 ^ 48) && decide (c ≤ 9223372036854775807) then
  ∀ b, h b = none → F ⟨some ⟨b, 0, none⟩, l.toNat, c.toNat⟩ (upd h b (.cells (zeros P e c.toNat) e))
 else False
theorem wrap_i64 (n : Int) : IntKind.i64.wrap n = if 9223372036854775808 ≤ n % 18446744073709551616 then n % 18446744073709551616 - 18446744073709551616 else n % 18446744073709551616 := by
 change (if (true && decide (n % 18446744073709551616 ≥ 9223372036854775808)) = true then n % 18446744073709551616 - 18446744073709551616 else n % 18446744073709551616) = _
 simp only [Bool.true_and, decide_eq_true_eq, ge_iff_le]
theorem wrap_id {n : Int} (h0 : -9223372036854775808 ≤ n) (h1 : n ≤ 9223372036854775807) : IntKind.i64.wrap n = n := by
 rw [wrap_i64]; split <;> omega
theorem zeros_eq (P : Program) (e : TypeId) (v : Value) (n : Nat) (hv : v.cells = ⟨zc P e⟩) (hsz : P.cellsOf e = (zc P e).length) :
  (Array.range (n * P.cellsOf e)).map (fun i => v.cells[i % v.cells.size]!) = zeros P e n := by
 unfold zeros Builtin.zeroCells
 rw [hv]; simp only [List.size_toArray, hsz]
theorem mkK_swp {P : Program} {t e : TypeId} {j k : IntKind} {l c : Int} {h : Hp} {K : Value → Hp → Prop} (hu : P.underlying t = some (.slice e)) (hz : zOk P e = true)
  (hi : (P.info? e).isSome = true) (hsz : Nat.beq (P.cellsOf e) (zc P e).length = true)
  (hk : mkK P e l c h fun r h' => K (.slice r.p r.n r.c) h') : swp P (Instr.makeSlice t (.int j l) (.int k c)) h K := by
 unfold mkK at hk
 cases hd : decide (0 ≤ l) && decide (l ≤ c) && decide (P.bytesOf e * c ≤ 2 ^ 48) && decide (c ≤ 9223372036854775807) with
 | false => rw [hd] at hk; exact hk.elim
 | true =>
  rw [hd] at hk
  simp only [Bool.and_eq_true, decide_eq_true_eq] at hd
  obtain ⟨⟨⟨h0, h1⟩, h2⟩, h3⟩ := hd
  unfold Instr.makeSlice
  simp only [swp_bind']
  refine underlying_swp hu ?_
  obtain ⟨i, hi'⟩ := Option.isSome_iff_exists.1 hi
  have hbi : i.bytes = P.bytesOf e := by simp [Program.bytesOf, hi']
  simp only [swp_bind']
  change swp P (typeInfo e) h _
  refine typeInfo_swp hi' ?_
  have w1 : IntKind.i64.wrap l = l := wrap_id (by omega) (by omega)
  have w2 : IntKind.i64.wrap c = c := wrap_id (by omega) (by omega)
  simp only [w1, w2, hbi]
  have t1 : (decide (c < 0) || decide ((P.bytesOf e : Int) * c > 2 ^ 48)) = false := by
   simp only [Bool.or_eq_false_iff, decide_eq_false_iff_not]; omega
  have t2 : decide (l < 0) = false := by simp; omega
  have t3 : decide (l > c) = false := by simp; omega
  simp only [t1, t2, t3, Bool.or_self, Bool.false_eq_true, if_false, swp_bind']
  refine askRoom_swp ?_
  refine sizeOf_swp hi ?_
  have hsz' := Nat.eq_of_beq_eq_true hsz
  by_cases hn : c.toNat * P.cellsOf e = 0
  ·simp only [hn, if_true, swp_bind', swp_pure]
   rw [newRow_swp]
   intro b hb
   have := hk b hb
   have e0 : zeros P e c.toNat = #[] := by
    unfold zeros Builtin.zeroCells
    simp [List.size_toArray, ← hsz', hn]
   rw [e0] at this
   have r0 : Array.range 0 = #[] := rfl
   rw [r0]; simpa using this
  ·simp only [hn, if_false, swp_bind']
   refine zeroValue_swp hz (fun z hz' => ?_)
   rw [swp_pure]
   rw [newRow_swp]
   intro b hb
   rw [zeros_eq P e z _ hz' hsz']
   exact hk b hb
def mmK (f : Int → Int → Int) (k : IntKind) : Int → List Value → (Value → Prop) → Prop
 | a, [], F => F (.int k a)
 | a, .int _ b :: l, F => mmK f k (f a b) l F
 | _, _, _ => False
def mn (x y : Int) : Int := if y < x then y else x
def mx (x y : Int) : Int := if y > x then y else x
def mmsK (f : Int → Int → Int) (l : List Value) (F : Value → Prop) : Prop :=
 match l with
 | .int k a :: l => mmK f k a l F
 | _ => False
theorem min_swp {P : Program} {ts : Array TypeId} {t : TypeId} {l : List Value} {h : Hp} {K : Value → Hp → Prop} (hk : mmsK mn l fun v => K v h) : swp P (Builtin.min_ ts t ⟨l⟩) h K := by
 unfold mmsK at hk
 split at hk
 ·rename_i k a l
  unfold Builtin.min_
  simp only []
  have : ∀ (l : List Value) (a : Int), (mmK mn k a l fun v => K v h) → swp P (l.foldlM Builtin.min2 (.int k a)) h K := by
   intro l
   induction l with
   | nil => intro a hk; exact hk
   | cons v l ih =>
    intro a hk
    cases v <;> first | exact hk.elim | skip
    rw [List.foldlM_cons, swp_bind']
    exact ih _ hk
  exact this l a hk
 ·exact hk.elim
theorem max_swp {P : Program} {ts : Array TypeId} {t : TypeId} {l : List Value} {h : Hp} {K : Value → Hp → Prop} (hk : mmsK mx l fun v => K v h) : swp P (Builtin.max_ ts t ⟨l⟩) h K := by
 unfold mmsK at hk
 split at hk
 ·rename_i k a l
  unfold Builtin.max_
  simp only []
  have : ∀ (l : List Value) (a : Int), (mmK mx k a l fun v => K v h) → swp P (l.foldlM Builtin.max2 (.int k a)) h K := by
   intro l
   induction l with
   | nil => intro a hk; exact hk
   | cons v l ih =>
    intro a hk
    cases v <;> first | exact hk.elim | skip
    rw [List.foldlM_cons, swp_bind']
    exact ih _ hk
  exact this l a hk
 ·exact hk.elim
def xMap (h : Hp) (r : Option Nat) (F : List MapEntry → Nat → Prop) : Prop :=
 match r with
 | none => F [] 0
 | some b => match h b with
  | some (.map es c) => F es.toList c
  | _ => False
def keyAt (kd : TypeDesc) (k : Value) (es : List MapEntry) (F : Option (Nat × Value) → Prop) : Prop :=
 match Instr.findNow kd k es 0 with
 | some r => F r
 | none => False
def plainKey : TypeDesc → Bool
 | .int _ | .string | .bool => true
 | _ => false
def zv1 (P : Program) (e : TypeId) (F : Value → Prop) : Prop :=
 match P.info? e with
 | some i => match i.zero with
  | some v => F v
  | none => False
 | none => False
def rval (r : Option (Nat × Value)) (z : Value) : Value := match r with
 | some (_, v) => v
 | none => z
def lkR (P : Program) (et : TypeId) (ok : Bool) (F : Value → Prop) (r : Option (Nat × Value)) : Prop :=
 zv1 P et fun z => (vtOf P et).on (some (rval r z)) fun x => F (bif ok then .tuple ⟨[(vtOf P et).mk x, .bool r.isSome]⟩ else (vtOf P et).mk x)
def lkK (P : Program) (t : TypeId) (m k : Value) (ok : Bool) (h : Hp) (F : Value → Prop) : Prop :=
 match P.underlying t with
 | some (.map kt et) =>
  match P.underlying kt with
  | some kd => bif plainKey kd then
    match m with
    | .map r => xMap h r fun es _ => keyAt kd k es (lkR P et ok F)
    | _ => False
   else False
  | none => False
 | _ => False
theorem checkKey_swp {P : Program} {b : Bool} {n : Nat} {kt : TypeId} {kd : TypeDesc} {k : Value} {h : Hp} {K : Unit → Hp → Prop} (hu : P.underlying kt = some kd) (hp : plainKey kd = true)
  (hk : K () h) : swp P (Instr.checkKey b (n + 1) kt k) h K := by
 unfold Instr.checkKey
 simp only [swp_bind']
 refine underlying_swp hu ?_
 cases kd <;> first | exact hk | (simp [plainKey] at hp; done)
theorem findKey_swp {P : Program} {kt : TypeId} {kd : TypeDesc} {k : Value} {es : List MapEntry} {h : Hp} {K : Option (Nat × Value) → Hp → Prop} (hu : P.underlying kt = some kd)
  (hk : keyAt kd k es fun r => K r h) : swp P (Instr.findKey kt k es) h K := by
 unfold Instr.findKey
 simp only [swp_bind']
 refine underlying_swp hu ?_
 unfold keyAt at hk
 split at hk
 ·rename_i r hr; rw [hr]; exact hk
 ·exact hk.elim
theorem keyAt_mono {kd : TypeDesc} {k : Value} {es : List MapEntry} {F G : Option (Nat × Value) → Prop} (hf : ∀ r, Instr.findNow kd k es 0 = some r → F r → G r) (hk : keyAt kd k es F) : keyAt kd k es G := by
 unfold keyAt at hk ⊢
 split
 ·rename_i r hr; rw [hr] at hk; exact hf _ hr hk
 ·rename_i hr; rw [hr] at hk; exact hk
theorem lkK_swp {P : Program} {t : TypeId} {m k : Value} {ok : Bool} {h : Hp} {K : Value → Hp → Prop} (hk : lkK P t m k ok h fun v => K v h) : swp P (Instr.lookup t m k ok) h K := by
 unfold lkK at hk
 split at hk
 ·rename_i kt et hu
  split at hk
  ·rename_i kd hkd
   cases hp : plainKey kd with
   | false => rw [hp] at hk; exact hk.elim
   | true =>
    rw [hp] at hk
    simp only [cond_true] at hk
    split at hk
    ·rename_i r
     have key : ∀ es : Array MapEntry, keyAt kd k es.toList (lkR P et ok fun v => K v h) →
       swp P (do
        Instr.checkKey es.isEmpty 10000 kt k
        let (v, ok') ← match ← Instr.findKey kt k es.toList with
         | some (_, v) => pure (v, true)
         | none => pure (← zeroValue et, false)
        pure (if ok then .tuple #[v, .bool ok'] else v)) h K := by
      intro es hx
      simp only [swp_bind']
      refine checkKey_swp hkd hp ?_
      refine findKey_swp hkd (keyAt_mono (fun r _ hr => ?_) hx)
      unfold lkR zv1 at hr
      split at hr
      ·rename_i i hi
       split at hr
       ·rename_i z hz
        obtain ⟨x, hx, hr⟩ := VT.on_some hr
        simp only [Option.some.injEq] at hx
        cases r with
        | none =>
         simp only [swp_bind']
         unfold zeroValue
         simp only [swp_bind']
         refine typeInfo_swp hi ?_
         rw [hz]
         simp only [rval] at hx
         rw [← hx] at hr
         cases ok <;> exact hr
        | some p =>
         obtain ⟨i, v⟩ := p
         simp only [rval] at hx
         rw [← hx] at hr
         cases ok <;> exact hr
       ·exact hr.elim
      ·exact hr.elim
     unfold Instr.lookup
     simp only [swp_bind']
     refine underlying_swp hu ?_
     cases r with
     | none => exact key #[] hk
     | some b =>
      unfold xMap at hk
      simp only [] at hk
      split at hk
      ·rename_i es c hb
       simp only [swp_bind']
       exact ⟨_, hb, rfl, key es hk⟩
      ·exact hk.elim
    ·exact hk.elim
  ·exact hk.elim
 ·exact hk.elim
end Go.Hw

/-
 Stores into maps; 'opK': every operation in its readable form, and that it is the machine's.
-/
set_option linter.unusedSimpArgs false
set_option linter.unusedVariables false
namespace Go.Hw
open Go
def mset (es : Array MapEntry) (c : Nat) (k x : Value) : Option (Nat × Value) → Obj
 | some (i, _) => .map (es.modify i fun e => { e with key := k, val := x }) c
 | none => .map (es.push { key := k, val := x, born := c }) (c + 1)
def mdel (es : Array MapEntry) (c : Nat) : Option (Nat × Value) → Obj
 | some (i, _) => .map (es.eraseIdxIfInBounds i) c
 | none => .map es c
def xMapO (h : Hp) (r : Option Nat) (F : Nat → Array MapEntry → Nat → Prop) : Prop :=
 match r with
 | none => False
 | some b => match h b with
  | some (.map es c) => F b es c
  | _ => False
def muK (P : Program) (t : TypeId) (m k x : Value) (h : Hp) (F : Hp → Prop) : Prop :=
 match P.underlying t with
 | some (.map kt et) =>
  match P.underlying kt with
  | some kd => bif plainKey kd then
    match m with
    | .map r => xMapO h r fun b es c => keyAt kd k es.toList fun r => F (upd h b (mset es c k x r))
    | _ => False
   else False
  | none => False
 | _ => False
def mdK (P : Program) (t : TypeId) (m k : Value) (h : Hp) (F : Hp → Prop) : Prop :=
 match P.underlying t with
 | some (.map kt et) =>
  match P.underlying kt with
  | some kd => bif plainKey kd then
    match m with
    | .map none => F h
    | .map (some b) => xMapO h (some b) fun b es c => keyAt kd k es.toList fun r => F (upd h b (mdel es c r))
    | _ => False
   else False
  | none => False
 | _ => False
theorem findNow_at {kd : TypeDesc} {k : Value} : ∀ {es : List MapEntry} {n j : Nat} {v : Value}, Instr.findNow kd k es n = some (some (j, v)) →
  ∃ e, es[j - n]? = some e ∧ n ≤ j ∧ e.val = v ∧ Instr.sameNow kd k e.key = some true := by
 intro es
 induction es with
 | nil => intro n j v h; simp [Instr.findNow] at h
 | cons e es ih =>
  intro n j v h
  simp only [Instr.findNow] at h
  split at h
  ·rename_i hs
   simp only [Option.some.injEq, Prod.mk.injEq] at h
   obtain ⟨rfl, rfl⟩ := h
   exact ⟨e, by simp, Nat.le_refl _, rfl, hs⟩
  ·obtain ⟨e', h1, h2, h3, h4⟩ := ih h
   refine ⟨e', ?_, by omega, h3, h4⟩
   obtain ⟨m, hm⟩ : ∃ m, j - n = m + 1 := ⟨j - n - 1, by omega⟩
   have : j - (n + 1) = m := by omega
   rw [this] at h1
   rw [hm]; simpa using h1
  ·cases h
theorem beq_ba {a b : ByteArray} (h : (a == b) = true) : a = b := by
 cases a; cases b
 exact congrArg _ (eq_of_beq (show ((_ : Array UInt8) == _) = true from h))
theorem sameNow_bits {kd : TypeDesc} {k k' : Value} {n : Nat} (h : Instr.sameNow kd k k' = some true) : Instr.sameBits n k' k = true := by
 unfold Instr.sameNow at h
 split at h
 ·rename_i k1 a k2 b
  split at h
  ·rename_i e; subst e; simp at h; subst h; unfold Instr.sameBits; simp
  ·cases h
 ·rename_i a b; simp only [Option.some.injEq] at h; have := beq_ba h; subst this; unfold Instr.sameBits; exact h
 ·rename_i a b; simp at h; subst h; unfold Instr.sameBits; simp
 ·cases h
theorem muK_swp {P : Program} {t : TypeId} {m k x : Value} {h : Hp} {K : Unit → Hp → Prop} (hk : muK P t m k x h fun h' => K () h') : swp P (Instr.mapUpdate t m k x) h K := by
 unfold muK at hk
 split at hk
 ·rename_i kt et hu
  split at hk
  ·rename_i kd hkd
   cases hp : plainKey kd with
   | false => rw [hp] at hk; exact hk.elim
   | true =>
    rw [hp] at hk
    simp only [cond_true] at hk
    split at hk
    ·rename_i r
     unfold xMapO at hk
     split at hk
     ·exact hk.elim
     ·rename_i b
      split at hk
      ·rename_i es c hb
       unfold Instr.mapUpdate
       simp only [swp_bind']
       refine underlying_swp hu ?_
       simp only [swp_bind']
       refine ⟨_, hb, rfl, ?_⟩
       simp only [spure_swp, swp_bind']
       refine checkKey_swp hkd hp ?_
       refine findKey_swp hkd (keyAt_mono (fun r hf hr => ?_) hk)
       cases r with
       | none => exact ⟨⟨_, hb, rfl⟩, hr⟩
       | some p =>
        obtain ⟨i, v⟩ := p
        obtain ⟨e, he, _, _, hs⟩ := findNow_at hf
        simp only [Nat.sub_zero] at he
        have he' : es[i]? = some e := by simpa using he
        have hs' : Instr.sameBits 10000 e.key k = true := sameNow_bits hs
        simp only [he', Option.map_some, Option.getD_some, swp_bind']
        unfold Instr.keyThatStays
        rw [hs']
        exact ⟨⟨_, hb, rfl⟩, hr⟩
      ·exact hk.elim
    ·exact hk.elim
  ·exact hk.elim
 ·exact hk.elim
theorem mdK_swp {P : Program} {ts : Array TypeId} {t : TypeId} {tt : TypeId} {m k : Value} {h : Hp} {K : Value → Hp → Prop} (hT : ts[0]? = some t)
  (hk : mdK P t m k h fun h' => K (.tuple #[]) h') : swp P (Builtin.delete_ ts tt #[m, k]) h K := by
 unfold mdK at hk
 split at hk
 ·rename_i kt et hu
  split at hk
  ·rename_i kd hkd
   cases hp : plainKey kd with
   | false => rw [hp] at hk; exact hk.elim
   | true =>
    rw [hp] at hk
    simp only [cond_true] at hk
    unfold Builtin.delete_
    have a0 : (#[m, k] : Array Value)[0]? = some m := rfl
    have a1 : (#[m, k] : Array Value)[1]? = some k := rfl
    simp only [hT, a0, a1, swp_bind']
    refine underlying_swp hu ?_
    split at hk
    ·simp only [swp_bind']
     exact checkKey_swp hkd hp hk
    ·rename_i b
     unfold xMapO at hk
     simp only [] at hk
     split at hk
     ·rename_i es c hb
      simp only [swp_bind']
      refine ⟨_, hb, rfl, ?_⟩
      simp only [spure_swp, swp_bind']
      refine checkKey_swp hkd hp ?_
      refine findKey_swp hkd (keyAt_mono (fun r hf hr => ?_) hk)
      cases r with
      | none => exact ⟨⟨_, hb, rfl⟩, hr⟩
      | some p => exact ⟨⟨_, hb, rfl⟩, hr⟩
     ·exact hk.elim
    ·exact hk.elim
  ·exact hk.elim
 ·exact hk.elim
def lenK (P : Program) (t : TypeId) (v : Value) (h : Hp) (F : Nat → Prop) : Prop :=
 match P.underlying t with
 | some .string => match v with | .string s => F s.size | _ => False
 | some (.slice _) => match v with | .slice _ n _ => F n | _ => False
 | some (.array n _) => F n
 | some (.pointer e) => match P.underlying e with | some (.array n _) => F n | _ => False
 | some (.map _ _) => match v with | .map r => xMap h r fun es _ => F es.length | _ => False
 | _ => False
theorem lenK_swp {P : Program} {ts : Array TypeId} {t tt : TypeId} {v : Value} {h : Hp} {K : Value → Hp → Prop} (hT : ts[0]? = some t) (hk : lenK P t v h fun n => K (.int .i64 n) h) :
  swp P (Builtin.len_ ts tt #[v]) h K := by
 unfold Builtin.len_
 have a0 : (#[v] : Array Value)[0]? = some v := rfl
 simp only [hT, a0, swp_bind']
 unfold lenK at hk
 split at hk
 ·rename_i hu
  refine underlying_swp hu ?_
  split at hk
  ·exact hk
  ·exact hk.elim
 ·rename_i hu
  refine underlying_swp hu ?_
  split at hk
  ·exact hk
  ·exact hk.elim
 ·rename_i hu
  refine underlying_swp hu ?_
  exact hk
 ·rename_i e hu
  refine underlying_swp hu ?_
  split at hk
  ·rename_i hu2
   simp only [swp_bind']
   refine underlying_swp hu2 ?_
   exact hk
  ·exact hk.elim
 ·rename_i hu
  refine underlying_swp hu ?_
  split at hk
  ·rename_i r
   unfold xMap at hk
   split at hk
   ·exact hk
   ·split at hk
    ·rename_i es c hb
     simp only [swp_bind']
     refine ⟨_, hb, rfl, ?_⟩
     simpa [spure_swp, swp_pure, goInt] using hk
    ·exact hk.elim
  ·exact hk.elim
 ·exact hk.elim
def elT (P : Program) (t : TypeId) (F : TypeId → Prop) : Prop := match P.underlying t with | some (.slice e) => F e | _ => False
def notIntT (P : Program) (t : TypeId) : Bool := match P.underlying t with | some (.int _) => false | some _ => true | none => false
def clM (h : Hp) (m : Option Nat) (F : Hp → Prop) : Prop :=
 match m with
 | none => F h
 | some b => match h b with
  | some (.map _ c) => F (upd h b (.map #[] c))
  | _ => False
def bltK (P : Program) (b : Builtin) (ts : List TypeId) (vs : List Value) (h : Hp) (K : Value → Hp → Prop) : Prop :=
 match b, ts, vs with
 | .len, t :: _, [v] => lenK P t v h fun n => K (.int .i64 n) h
 | .cap, t :: _, [v] => match P.underlying t with
  | some (.slice _) => match v with | .slice _ _ c => K (.int .i64 c) h | _ => False
  | _ => False
 | .append, t :: u :: _, [s, y] => elT P t fun e => bif bytes0 P e && notIntT P u then
   match s with | .slice p n c => apK P e ⟨p, n, c⟩ y h fun r h' => K (.slice r.p r.n r.c) h' | _ => False
   else False
 | .copy, t :: _, [s, y] => elT P t fun e => bif (P.info? e).isSome then
   match s with | .slice p n c => cpK P e ⟨p, n, c⟩ y h fun r h' => K (.int .i64 r) h' | _ => False
   else False
 | .min, _, vs => mmsK mn vs fun v => K v h
 | .max, _, vs => mmsK mx vs fun v => K v h
 | .delete, t :: _, [m, k] => mdK P t m k h fun h' => K (.tuple #[]) h'
 | .clear, t :: _, [m] => match P.underlying t with
  | some (.map _ _) => match m with
   | .map m => clM h m fun h' => K (.tuple #[]) h'
   | _ => False
  | _ => False
 | _, _, _ => False
theorem elT_some {P : Program} {t : TypeId} {F : TypeId → Prop} (h : elT P t F) : ∃ e, P.underlying t = some (.slice e) ∧ F e := by
 unfold elT at h
 split at h
 ·exact ⟨_, ‹_›, h⟩
 ·exact h.elim
theorem cap_swp {P : Program} {ts : Array TypeId} {t tt e : TypeId} {p : Option Addr} {n c : Nat} {h : Hp} {K : Value → Hp → Prop} (hT : ts[0]? = some t) (hu : P.underlying t = some (.slice e))
  (hk : K (.int .i64 c) h) : swp P (Builtin.cap_ ts tt #[.slice p n c]) h K := by
 unfold Builtin.cap_
 have a0 : (#[Value.slice p n c] : Array Value)[0]? = some (.slice p n c) := rfl
 simp only [hT, a0, swp_bind']
 exact underlying_swp hu hk
theorem clear_swp {P : Program} {ts : List TypeId} {t : TypeId} {tt kt et : TypeId} {m : Value} {h : Hp} {K : Value → Hp → Prop} (hu : P.underlying t = some (.map kt et))
  (hk : match m with
   | .map m => clM h m fun h' => K (.tuple #[]) h'
   | _ => False) : swp P (Builtin.clear_ ⟨t :: ts⟩ tt ⟨[m]⟩) h K := by
 unfold Builtin.clear_
 change swp P (underlying t >>= fun d => _) h K
 rw [swp_bind']
 refine underlying_swp hu ?_
 split at hk
 ·rename_i m
  unfold clM at hk
  cases m with
  | none => exact hk
  | some b =>
   simp only [] at hk
   split at hk
   ·rename_i es c hb
    refine Eq.mpr (swp_bind' (getObj b) _ h _) ?_
    refine ⟨_, hb, rfl, ?_⟩
    exact ⟨⟨_, hb, rfl⟩, hk⟩
   ·exact hk.elim
 ·exact hk.elim
theorem bltK_swp {P : Program} {b : Builtin} {ts : List TypeId} {vs : List Value} {tt : TypeId} {cs : Array Bool} {h : Hp} {K : Value → Hp → Prop} (hk : bltK P b ts vs h K) :
  swp P (builtin b ⟨ts⟩ tt cs ⟨vs⟩) h (nextK P K) := by
 unfold bltK at hk
 split at hk
 ·exact vswp (lenK_swp rfl hk)
 ·split at hk
  ·rename_i hu
   split at hk
   ·exact vswp (cap_swp rfl hu hk)
   ·exact hk.elim
  ·exact hk.elim
 ·rename_i t u _ s y
  obtain ⟨e, hu, hk⟩ := elT_some hk
  cases hb : bytes0 P e && notIntT P u with
  | false => rw [hb] at hk; exact hk.elim
  | true =>
   rw [hb] at hk
   simp only [cond_true] at hk
   simp only [Bool.and_eq_true] at hb
   obtain ⟨p, n, c, rfl⟩ : ∃ p n c, s = .slice p n c := by cases s <;> first | exact hk.elim | exact ⟨_, _, _, rfl⟩
   refine vswp (apK_swp (s := ⟨p, n, c⟩) rfl rfl hu ?_ hb.1 hk)
   have := hb.2
   unfold notIntT at this
   cases hq : P.underlying u with
   | none => rw [hq] at this; cases this
   | some d =>
    refine ⟨d, hq, ?_⟩
    rintro k rfl
    rw [hq] at this; cases this
 ·rename_i t _ s y
  obtain ⟨e, hu, hk⟩ := elT_some hk
  cases hb : (P.info? e).isSome with
  | false => rw [hb] at hk; exact hk.elim
  | true =>
   rw [hb] at hk
   simp only [cond_true] at hk
   obtain ⟨p, n, c, rfl⟩ : ∃ p n c, s = .slice p n c := by cases s <;> first | exact hk.elim | exact ⟨_, _, _, rfl⟩
   exact vswp (cpK_swp (s := ⟨p, n, c⟩) rfl hu hb hk)
 ·exact vswp (min_swp hk)
 ·exact vswp (max_swp hk)
 ·exact vswp (mdK_swp rfl hk)
 ·split at hk
  ·rename_i hu
   exact vswp (clear_swp hu hk)
  ·exact hk.elim
 ·exact hk.elim
def EnterOk (P : Program) (E : Nat → Bool) : Prop := ∀ f, E f = true → ∃ fn, P.funcs[f]? = some fn ∧ fn.body.isNone = false ∧ (fn.name == "runtime.NumGoroutine") = false
def HCallV (P : Program) (E : Nat → Bool) (fv : Value) (vs : List Value) (h : Hp) (K : Value → Hp → Prop) : Prop :=
 match fv with
 | .func (.func g) ⟨fs⟩ ⟨cs⟩ => bif E g then HCalls P g ⟨fs ++ (vs ++ cs)⟩ h K else swp P (callFunc g ⟨fs ++ (vs ++ cs)⟩) h (nextK P K)
 | _ => False
def callK (P : Program) (E : Nat → Bool) (rt : TypeId) (fv : Value) (vs : List Value) (h : Hp) (K : Value → Hp → Prop) : Prop :=
 HCallV P E fv vs h fun v h' => resOn P rt v fun v' => K v' h'
theorem callFunc_swp {P : Program} {E : Nat → Bool} (hE : EnterOk P E) {g : Nat} {args : Array Value} {h : Hp} {K : Next → Hp → Prop} (hg : E g = true) (hk : K (.enter g args) h) :
  swp P (callFunc g args) h K := by
 obtain ⟨fn, h1, h2, h3⟩ := hE g hg
 unfold callFunc
 simp only [swp_bind']
 change swp P (match P.funcs[g]? with | none => _ | some fn => _) h K
 rw [h1]
 simp only [h3, h2, Bool.false_eq_true, if_false]
 exact hk
def binK (P : Program) (op : BinOp) (t : TypeId) (x y : Value) (h : Hp) (F : Value → Prop) : Prop :=
 match x with
 | .int k a => match y with | .int k' b => binI op k k' a b F | _ => False
 | .string a => match y with | .string b => binS op a b F | _ => False
 | .bool a => match y with
  | .bool b => match op with
   | .eql => bif eqOk P 1 t then vK ((eqV P 1 t x y).map .bool) F else False
   | .neq => bif eqOk P 1 t then vK ((eqV P 1 t x y).map fun b => .bool !b) F else False
   | _ => False
  | _ => False
 | .pointer p => match y with
  | .pointer q => match P.underlying t with
   | some (.pointer e) => bif (P.info? e).isSome && Nat.blt 0 (P.cellsOf e) then
     match op with
     | .eql => peq h p q fun b => F (.bool b)
     | .neq => peq h p q fun b => F (.bool !b)
     | _ => False
    else False
   | _ => False
  | _ => False
 | .slice p _ _ => match y with
  | .slice none _ _ => match P.underlying t with
   | some (.slice _) => match op with
    | .eql => F (.bool p.isNone)
    | .neq => F (.bool !p.isNone)
    | _ => False
   | _ => False
  | _ => False
 | .agg _ => match y with
  | .agg _ => bif eqOk P 8 t && !P.eqGuardType P.depth t then
    match op with
    | .eql => vK ((eqV P 8 t x y).map .bool) F
    | .neq => vK ((eqV P 8 t x y).map fun b => .bool !b) F
    | _ => False
   else False
  | _ => False
 | _ => False
theorem eqv_get {o : Option Bool} {F : Value → Prop} {g : Bool → Value} (h : vK (o.map g) F) : ∃ b, o = some b ∧ F (g b) := by
 cases o with
 | none => exact h.elim
 | some b => exact ⟨b, rfl, h⟩
theorem equal_swp {P : Program} {t : TypeId} {x y : Value} {h : Hp} {K : Value → Hp → Prop} {n : Nat} (hn : n ≤ 10000) (hok : eqOk P n t = true) (hk : vK ((eqV P n t x y).map .bool) fun v => K v h) :
  swp P (do pure (Value.bool (← Op.equal t x y))) h K := by
 obtain ⟨b, hb, hk⟩ := eqv_get hk
 rw [swp_bind']
 exact eqV_swp n 10000 t x y b h _ hn hb hok hk
theorem nequal_swp {P : Program} {t : TypeId} {x y : Value} {h : Hp} {K : Value → Hp → Prop} {n : Nat} (hn : n ≤ 10000) (hok : eqOk P n t = true) (hk : vK ((eqV P n t x y).map fun b => .bool !b) fun v => K v h) :
  swp P (do pure (Value.bool (!(← Op.equal t x y)))) h K := by
 obtain ⟨b, hb, hk⟩ := eqv_get hk
 rw [swp_bind']
 exact eqV_swp n 10000 t x y b h _ hn hb hok hk
theorem peq_swp {P : Program} {t e : TypeId} {p q : Option Addr} {h : Hp} {K : Bool → Hp → Prop} (hu : P.underlying t = some (.pointer e)) (hi : (P.info? e).isSome = true) (hc : P.cellsOf e ≠ 0)
  (hk : peq h p q fun b => K b h) : swp P (Op.equal t (.pointer p) (.pointer q)) h K := by
 unfold Op.equal Op.maxDepth Op.equalIn
 rw [swp_bind']
 refine underlying_swp hu ?_
 unfold peq at hk
 split at hk
 ·exact hk
 ·exact hk
 ·simp only [swp_bind']
  refine sizeOf_swp hi ?_
  simp only [hc, ne_eq, not_false_eq_true, if_true]
  exact sameAddr_swp hk
theorem guard_no {P : Program} {op : BinOp} {t : TypeId} {x y : Operand} {a b : Value} {h : Hp} {K : Unit → Hp → Prop} (hn : (a matches .agg _) = false ∨ P.eqGuardType P.depth t = false) (hi : (a matches .nilIface) = false) (hk : K () h) :
  swp P (eqGuard op t x y a b) h K := by
 unfold eqGuard
 have main : swp P (match a, b with
  | .nilIface, .nilIface =>
   if (x matches .const _) || (y matches .const _) then pure () else do
   if ← Op.eqGuardIn Op.maxDepth t a b then unsupported (.noEntry "binop/eql: two nil values of an interface type with methods, neither of them the literal nil")
   else pure ()
  | .agg _, .agg _ => do
   if !(← program).eqGuardType (← program).depth t then pure () else
   if ← Op.eqGuardIn Op.maxDepth t a b then unsupported (.noEntry "binop/eql: two nil values of an interface type with methods, in a part of a struct or an array")
   else pure ()
  | _, _ => pure ()) h K := by
  cases a <;> cases b <;> first | exact hk | (cases hi; done) | skip
  rcases hn with hn | hn
  ·cases hn
  ·simp only [swp_bind', program_swp, hn, Bool.not_false, if_true]
   exact hk
 cases op <;> first | exact hk | exact main
end Go.Hw

/-
 Maps that are walked: what the operations range, next, entry, extract are over heaps.
-/
set_option linter.unusedSimpArgs false
set_option linter.unusedVariables false
namespace Go.Hw
open Go
def rgM (h : Hp) (m : Option Nat) (F : Option Addr → Hp → Prop) : Prop :=
 match m with
 | none => ∀ b, h b = none → F (some ⟨b, 0, none⟩) (upd h b (.mapIter none 0 #[] 0))
 | some m => match h m with
  | some (.map _ c) => ∀ b, h b = none → F (some ⟨b, 0, none⟩) (upd h b (.mapIter (some m) c #[] c))
  | _ => False
def rgS (h : Hp) (s : ByteArray) (F : Option Addr → Hp → Prop) : Prop := ∀ b, h b = none → F (some ⟨b, 0, none⟩) (upd h b (.stringIter s 0))
def nxS (h : Hp) (p : Option Addr) (F : Int → Int → Hp → Prop) (G : Hp → Prop) : Prop :=
 match p with
 | some ⟨b, 0, _⟩ => match h b with
  | some (.stringIter s n) => bif decide (n < s.size) then F n (Utf8.decode s n).1 (upd h b (.stringIter s (n + (Utf8.decode s n).2))) else G h
  | _ => False
 | _ => False
def rgK (P : Program) (t : TypeId) (v : Value) (h : Hp) (F : Option Addr → Hp → Prop) : Prop :=
 match P.underlying t with
 | some (.map _ _) => match v with
  | .map m => rgM h m F
  | _ => False
 | some .string => match v with
  | .string s => rgS h s F
  | _ => False
 | _ => False
def leftM (seen : Array Nat) (es : Array MapEntry) : Array MapEntry := es.filter fun e => !seen.contains e.born
def nxM (h : Hp) (p : Option Addr) (F : Bool → List Value → Hp → Prop) : Prop :=
 match p with
 | some ⟨b, 0, _⟩ => match h b with
  | some (.mapIter none _ _ _) => F false [] h
  | some (.mapIter (some m) since seen last) => match h m with
   | some (.map es c) => (!seen.isEmpty && !es.isEmpty && es.all (·.born ≥ last)) = false ∧ (∀ e ∈ leftM seen es, e.born < since) ∧
     (leftM seen es = #[] → F false [] h) ∧ ∀ e ∈ leftM seen es, F true [e.key, e.val] (upd h b (.mapIter (some m) since (seen.push e.born) c))
   | _ => False
  | _ => False
 | _ => False
def enM (h : Hp) (p : Option Addr) (F : Value → Value → Prop) : Prop :=
 match p with
 | some ⟨b, 0, _⟩ => match h b with
  | some (.mapIter (some m) _ seen stepped) => match seen.back?, h m with
   | some stamp, some (.map es c) => c = stepped ∧ match es.find? (·.born == stamp) with
    | some e => F e.key e.val
    | none => False
   | _, _ => False
  | _ => False
 | _ => False
def exK (P : Program) (t : TypeId) (v : Value) (i : Nat) (F : Value → Prop) : Prop :=
 match v with
 | .tuple ⟨l⟩ => match l[i]? with
  | some w => xC (ctOf P t) (some w) F
  | none => False
 | _ => False
section
variable {P : Program} {h : Hp}
theorem newObj_swp' {o : Obj} {K : Nat → Hp → Prop} : swp P (newObj o) h K = ∀ b, h b = none → K b (upd h b o) := rfl
theorem choose_swp' {n : Nat} (hn : 0 < n) {K : Nat → Hp → Prop} (hK : ∀ j, j < n → K j h) : swp P (choose (.mapNext n)) h K := by
 unfold choose
 show bif (Question.mapNext n).forced then K 0 h else ∀ t, K ((Question.mapNext n).cut t) h
 cases hf : (Question.mapNext n).forced with
 | true => exact hK 0 hn
 | false => intro t; exact hK _ (Nat.mod_lt _ hn)
theorem rgK_swp {t : TypeId} {v : Value} {K : Value → Hp → Prop} (hk : rgK P t v h fun p h' => K (.pointer p) h') : swp P (Instr.range t v) h K := by
 unfold rgK at hk
 split at hk
 ·rename_i hu
  split at hk
  ·rename_i m
   unfold Instr.range
   simp only [swp_bind']
   refine underlying_swp hu ?_
   cases m with
   | none =>
    refine Eq.mpr (swp_bind' (newObj (.mapIter none 0 #[] 0)) (fun r => pure (Value.pointer (some ⟨r, 0, none⟩))) h K) ?_
    rw [newObj_swp']
    intro b hb
    exact hk b hb
   | some m =>
    unfold rgM at hk
    simp only [] at hk
    split at hk
    ·rename_i es c hm
     refine Eq.mpr (swp_bind' (getObj m) _ h K) ?_
     refine ⟨_, hm, rfl, ?_⟩
     refine Eq.mpr (swp_bind' (newObj (.mapIter (some m) c #[] c)) (fun r => pure (Value.pointer (some ⟨r, 0, none⟩))) h K) ?_
     rw [newObj_swp']
     intro b hb
     exact hk b hb
    ·exact hk.elim
  ·exact hk.elim
 ·rename_i hu
  split at hk
  ·rename_i s
   unfold Instr.range
   simp only [swp_bind']
   refine underlying_swp hu ?_
   refine Eq.mpr (swp_bind' (newObj (.stringIter s 0)) (fun r => pure (Value.pointer (some ⟨r, 0, none⟩))) h K) ?_
   rw [newObj_swp']
   intro b hb
   exact hk b hb
  ·exact hk.elim
 ·exact hk.elim
theorem nxS_swp {t : TypeId} {p : Option Addr} {K : Value → Hp → Prop} (hk : nxS h p (fun i c h' => K (.tuple ⟨[.bool true, goInt i, .int .i32 c]⟩) h') fun h' => K (.tuple ⟨[.bool false]⟩) h') : swp P (Instr.next (.pointer p) true t) h K := by
 unfold nxS at hk
 split at hk
 ·rename_i _ b _
  split at hk
  ·rename_i s n hb
   unfold Instr.next
   refine Eq.mpr (swp_bind' (getObj b) _ h K) ?_
   refine ⟨_, hb, rfl, ?_⟩
   change swp P (if n < s.size then (do setObj b (.stringIter s (n + (Utf8.decode s n).2)); pure (.tuple #[.bool true, goInt n, .int .i32 (Utf8.decode s n).1])) else pure (.tuple #[.bool false])) h K
   by_cases hlt : n < s.size
   ·rw [if_pos hlt]
    simp only [hlt, decide_true, cond_true] at hk
    refine Eq.mpr (swp_bind' (setObj b _) _ h K) ?_
    exact ⟨⟨_, hb, rfl⟩, hk⟩
   ·rw [if_neg hlt]
    simp only [hlt, decide_false, cond_false] at hk
    exact hk
  ·exact hk.elim
 ·exact hk.elim
theorem exK_swp {t : TypeId} {v : Value} {i : Nat} {K : Value → Hp → Prop} (hk : exK P t v i fun w => K w h) : swp P (Instr.extract v i) h K := by
 unfold exK at hk
 split at hk
 ·rename_i l
  split at hk
  ·rename_i w hw
   obtain ⟨w', e, hk⟩ := xC_some hk
   cases e
   unfold Instr.extract
   have : (⟨l⟩ : Array Value)[i]? = some w := by simpa using hw
   simp only [this]
   exact hk
  ·exact hk.elim
 ·exact hk.elim
theorem enM_swp {p : Option Addr} {K : Value → Hp → Prop} (hk : enM h p fun a b => K (.tuple ⟨[a, b]⟩) h) : swp P (Instr.entry (.pointer p)) h K := by
 unfold enM at hk
 split at hk
 ·rename_i _ b _
  split at hk
  ·rename_i m _ seen stepped hb
   split at hk
   ·rename_i stamp es c hs hm
    obtain ⟨rfl, hk⟩ := hk
    split at hk
    ·rename_i e he
     unfold Instr.entry
     refine Eq.mpr (swp_bind' (getObj b) _ h K) ?_
     refine ⟨_, hb, rfl, ?_⟩
     rw [spure_swp]
     simp only [hs]
     refine Eq.mpr (swp_bind' (getObj m) _ h K) ?_
     refine ⟨_, hm, rfl, ?_⟩
     rw [spure_swp]
     simp only [bne_self_eq_false, Bool.false_eq_true, if_false, he]
     exact hk
    ·exact hk.elim
   ·exact hk.elim
  ·exact hk.elim
 ·exact hk.elim
theorem nxM_swp {t : TypeId} {p : Option Addr} {K : Value → Hp → Prop} (hk : nxM h p fun b r h' => K (.tuple ⟨.bool b :: r⟩) h') : swp P (Instr.next (.pointer p) false t) h K := by
 unfold nxM at hk
 split at hk
 ·rename_i _ b _
  split at hk
  ·rename_i since seen last hb
   unfold Instr.next
   refine Eq.mpr (swp_bind' (getObj b) _ h K) ?_
   refine ⟨_, hb, rfl, ?_⟩
   exact hk
  ·rename_i m since seen last hb
   split at hk
   ·rename_i es c hm
    obtain ⟨hno, hall, hnil, hone⟩ := hk
    unfold Instr.next
    refine Eq.mpr (swp_bind' (getObj b) _ h K) ?_
    refine ⟨_, hb, rfl, ?_⟩
    refine Eq.mpr (swp_bind' (getObj m) _ h K) ?_
    refine ⟨_, hm, rfl, ?_⟩
    rw [spure_swp]
    simp only []
    rw [hno]
    simp only [Bool.false_eq_true, if_false]
    have e1 : (es.filter fun e => !seen.contains e.born) = leftM seen es := rfl
    rw [e1]
    generalize leftM seen es = left at hall hnil hone ⊢
    have e2 : left.filter (·.born < since) = left := by
     apply Array.ext'
     rw [Array.toList_filter, List.filter_eq_self.2 fun e he => by simpa using hall e (by simpa using he)]
    have e3 : left.filter (·.born ≥ since) = #[] := by
     apply Array.ext'
     rw [Array.toList_filter, List.filter_eq_nil_iff.2 fun e he => by have := hall e (by simpa using he); simpa using this]
    rw [e2, e3]
    simp only [Array.append_empty]
    rw [swp_bind']
    cases hemp : left.isEmpty with
    | true =>
     have hl0 : left = #[] := by simpa using hemp
     subst hl0
     have hz : ((if true = true then #[none] else #[]) ++ Array.map some (#[] : Array MapEntry)) = (#[none] : Array (Option MapEntry)) := by simp
     rw [hz]
     refine choose_swp' (show 0 < (#[none] : Array (Option MapEntry)).size by simp) fun j hj => ?_
     have hj : j < 1 := hj
     have : j = 0 := by omega
     subst this
     exact hnil rfl
    | false =>
     simp only [Bool.false_eq_true, if_false, Array.empty_append, Array.size_map]
     have hpos : 0 < left.size := by
      rcases Nat.eq_zero_or_pos left.size with h0 | h0
      ·have : left = #[] := Array.eq_empty_of_size_eq_zero h0
       rw [this] at hemp; cases hemp
      ·exact h0
     refine choose_swp' hpos fun j hj => ?_
     have hget : (left.map some)[j]? = some (some left[j]) := by simp [hj]
     rw [hget]
     simp only []
     refine Eq.mpr (swp_bind' (setObj b _) _ h K) ?_
     refine ⟨⟨_, hb, rfl⟩, ?_⟩
     exact hone left[j] (Array.getElem_mem hj)
   ·exact hk.elim
  ·exact hk.elim
 ·exact hk.elim
end
end Go.Hw

/-
 'opK': one operation in its readable form; that it is the machine's.
-/
set_option linter.unusedSimpArgs false
set_option linter.unusedVariables false
namespace Go.Hw
open Go
def someAny (ρ : Env) (P : Program) (o : Oper) (h : Hp) (K : Value → Hp → Prop) : Prop :=
 bif okAll ρ o.op.operands.toList && !isSel o.op then opS P o (evD ρ) h K else False
def isIfT (P : Program) (t : TypeId) : Bool := match P.underlying t with | some (.interface _) => true | _ => false
def isC : Operand → Bool
 | .const _ => true
 | _ => false
def ifn (x : Value) (F : Bool → Prop) : Prop :=
 match x with
 | .nilIface => F true
 | .iface _ _ => F false
 | _ => False
def binIf (op : BinOp) (c : Bool) (x y : Value) (F : Value → Prop) : Prop :=
 match y with
 | .nilIface => bif c then (match op with
  | .eql => ifn x fun b => F (.bool b)
  | .neq => ifn x fun b => F (.bool !b)
  | _ => False) else False
 | .iface _ _ => match x with
  | .nilIface => (match op with
   | .eql => F (.bool false)
   | .neq => F (.bool true)
   | _ => False)
  | _ => False
 | _ => False
def isFuT (P : Program) (t : TypeId) : Bool := match P.underlying t with | some (.func _ _ _) => true | _ => false
def fuN (x : Value) (F : Bool → Prop) : Prop :=
 match x with
 | .nilFunc => F true
 | .func _ _ _ => F false
 | _ => False
def binFu (op : BinOp) (x y : Value) (F : Value → Prop) : Prop :=
 match y with
 | .nilFunc => (match op with
  | .eql => fuN x fun b => F (.bool b)
  | .neq => fuN x fun b => F (.bool !b)
  | _ => False)
 | _ => False
def knownB : Builtin → Bool
 | .len | .cap | .append | .copy | .min | .max | .delete | .clear => true
 | _ => false
def invX (P : Program) (name : String) (t : TypeId) : Option Nat := match P.info? t with
 | some i => match i.methods.find? (·.name == name) with
  | some m => match m.path.toList, m.func with
   | [], some (f, pr) => match P.underlying t with
    | some (.pointer _) => bif pr then some f else none
    | some _ => bif pr then none else some f
    | none => none
   | _, _ => none
  | none => none
 | none => none
def invK (P : Program) (E : Nat → Bool) (m : String) (v : Value) (vs : List Value) (h : Hp) (K : Value → Hp → Prop) : Prop :=
 match v with
 | .iface t x => (match invX P m t with
  | some g => bif E g then HCalls P g ⟨x :: vs⟩ h K else False
  | none => False)
 | _ => False
def asK (ty : TypeId) (v : Value) (A : Value → Prop) (B : Prop) : Prop :=
 match v with
 | .nilIface => B
 | .iface t x => bif Nat.beq t ty then A x else B
 | _ => False
def taK (P : Program) (ty : TypeId) (ok : Bool) (v : Value) (F : Value → Prop) : Prop :=
 match P.underlying ty with
 | some (.interface _) => False
 | some _ => bif ok then asK ty v (fun x => (vtOf P ty).on (some x) fun y => F (.tuple ⟨[(vtOf P ty).mk y, .bool true]⟩)) (zv1 P ty fun z => F (.tuple ⟨[z, .bool false]⟩))
  else asK ty v (fun x => (vtOf P ty).on (some x) fun y => F ((vtOf P ty).mk y)) False
 | none => False
def opK (P : Program) (E : Nat → Bool) (o : Oper) (ρ : Env) (h : Hp) (K : Value → Hp → Prop) : Prop :=
 match o.op with
 | .move x => mv ρ x fun v => K v h
 | .assign x => mv ρ x fun v => K v h
 | .pick c a b => mv ρ c fun vc => mv ρ a fun va => mv ρ b fun vb => xB (some vc) fun c => bif c then K va h else K vb h
 | .load t x => mv ρ x fun v => bif (P.underlying t).isSome then ldK P t v h K else False
 | .store t a x => mv ρ a fun va => mv ρ x fun vx => stK P t va vx h fun h' => K undef h'
 | .nilCheck x => mv ρ x fun v => nilK v fun v' => K v' h
 | .fieldAddr s x f => mv ρ x fun v => faK P s f v fun v' => K v' h
 | .indexAddr t x i => mv ρ x fun v => mv ρ i fun vi => iaK P t v vi fun v' => K v' h
 | .index t x i => mv ρ x fun v => mv ρ i fun vi => ixK P t v vi fun v' => K v' h
 | .slice t x lo hi mx => mv ρ x fun v => mvo ρ lo fun vl => mvo ρ hi fun vh => mvo ρ mx fun vm => slK P t v vl vh vm fun v' => K v' h
 | .convert s d x => mv ρ x fun v => cvK P s d v h K
 | .binOp op t x y _ => mv ρ x fun vx => mv ρ y fun vy => bif isIfT P t then binIf op (isC y) vx vy fun v => K v h else bif isFuT P t then binFu op vx vy fun v => K v h else binK P op t vx vy h fun v => K v h
 | .typeAssert x _ ty ok => mv ρ x fun v => taK P ty ok v fun v' => K v' h
 | .lookup t x i ok => mv ρ x fun v => mv ρ i fun vi => lkK P t v vi ok h fun v' => K v' h
 | .extract x i => mv ρ x fun v => exK P o.type v i fun w => K w h
 | .range t x => mv ρ x fun v => rgK P t v h fun p h' => K (.pointer p) h'
 | .next x s => mv ρ x fun v => match v with
  | .pointer p => bif s then nxS h p (fun i c h' => K (.tuple ⟨[.bool true, goInt i, .int .i32 c]⟩) h') (fun h' => K (.tuple ⟨[.bool false]⟩) h') else nxM h p fun b r h' => K (.tuple ⟨.bool b :: r⟩) h'
  | _ => False
 | .entry x => mv ρ x fun v => match v with
  | .pointer p => enM h p fun a b => K (.tuple ⟨[a, b]⟩) h
  | _ => False
 | .mapUpdate t m k x => mv ρ m fun vm => mv ρ k fun vk => mv ρ x fun vx => muK P t vm vk vx h fun h' => K undef h'
 | .makeSlice t l c => mv ρ l fun vl => mv ρ c fun vc => elT P t fun e =>
   bif zOk P e && (P.info? e).isSome && Nat.beq (P.cellsOf e) (zc P e).length then
    match vl, vc with
    | .int _ l, .int _ c => mkK P e l c h fun r h' => K (.slice r.p r.n r.c) h'
    | _, _ => False
   else False
 | .call ⟨.value f, args, _⟩ => mv ρ f fun fv => mvs ρ args.toList [] fun vs => callK P E o.type fv vs h K
 | .call ⟨.invoke r m, args, _⟩ => mv ρ r fun v => mvs ρ args.toList [] fun vs => invK P E m v vs h K
 | .call ⟨.builtin b, args, ts⟩ => bif knownB b then mvs ρ args.toList [] fun vs => bltK P b ts.toList vs h K else someAny ρ P o h K
 | _ => someAny ρ P o h K
theorem callK_swp {P : Program} {E : Nat → Bool} (hE : EnterOk P E) {rt : TypeId} {fv : Value} {vs : List Value} {h : Hp} {K : Value → Hp → Prop} (hk : callK P E rt fv vs h K) :
  swp P (do let d ← Deferred.ofValue fv ⟨vs⟩; invoke d.target d.args) h (nextK P K) := by
 unfold callK HCallV at hk
 split at hk
 ·rename_i g fs cs
  rw [swp_bind']
  change swp P (callFunc g ((⟨fs⟩ ++ ⟨vs⟩ : Array Value) ++ ⟨cs⟩)) h (nextK P K)
  have e : ((⟨fs⟩ ++ ⟨vs⟩ : Array Value) ++ ⟨cs⟩) = ⟨fs ++ (vs ++ cs)⟩ := by apply Array.ext'; simp
  rw [e]
  cases hg : E g with
  | false =>
   rw [hg] at hk
   simp only [cond_false] at hk
   exact swp_mono _ h (fun n h' => nextK_mono (fun _ _ => resOn_some) n h') hk
  | true =>
   rw [hg] at hk
   simp only [cond_true] at hk
   exact callFunc_swp hE hg (hk.mono fun _ _ => resOn_some)
 ·exact hk.elim
theorem binK_swp {P : Program} {op : BinOp} {t : TypeId} {ox oy : Operand} {x y : Value} {h : Hp} {K : Value → Hp → Prop} (hk : binK P op t x y h fun v => K v h) :
  swp P (do eqGuard op t ox oy x y; binOp op t x y) h K := by
 rw [swp_bind']
 unfold binK at hk
 split at hk
 ·split at hk
  ·exact guard_no (.inl rfl) rfl (binI_swp hk)
  ·exact hk.elim
 ·split at hk
  ·exact guard_no (.inl rfl) rfl (binS_swp hk)
  ·exact hk.elim
 ·split at hk
  ·refine guard_no (.inl rfl) rfl ?_
   split at hk
   ·cases hb : eqOk P 1 t with
    | false => rw [hb] at hk; exact hk.elim
    | true => rw [hb] at hk; exact equal_swp (by omega) hb hk
   ·cases hb : eqOk P 1 t with
    | false => rw [hb] at hk; exact hk.elim
    | true => rw [hb] at hk; exact nequal_swp (by omega) hb hk
   ·exact hk.elim
  ·exact hk.elim
 ·split at hk
  ·refine guard_no (.inl rfl) rfl ?_
   split at hk
   ·rename_i e hu
    cases hb : (P.info? e).isSome && Nat.blt 0 (P.cellsOf e) with
    | false => rw [hb] at hk; exact hk.elim
    | true =>
     rw [hb] at hk
     simp only [Bool.and_eq_true] at hb
     have hc : P.cellsOf e ≠ 0 := by have := hb.2; simp [Nat.blt_eq] at this; omega
     simp only [cond_true] at hk
     split at hk
     ·change swp P (do pure (Value.bool (← Op.equal t _ _))) h K
      rw [swp_bind']
      exact peq_swp hu hb.1 hc hk
     ·change swp P (do pure (Value.bool (!(← Op.equal t _ _)))) h K
      rw [swp_bind']
      exact peq_swp hu hb.1 hc hk
     ·exact hk.elim
   ·exact hk.elim
  ·exact hk.elim
 ·split at hk
  ·refine guard_no (.inl rfl) rfl ?_
   split at hk
   ·rename_i e hu
    have key : ∀ (p : Option Addr) (n c n' c' : Nat) (K' : Bool → Hp → Prop), K' p.isNone h → swp P (Op.equal t (.slice p n c) (.slice none n' c')) h K' := by
     intro p n c n' c' K' hk'
     unfold Op.equal Op.maxDepth Op.equalIn
     rw [swp_bind']
     refine underlying_swp hu ?_
     cases p <;> exact hk'
    split at hk
    ·change swp P (do pure (Value.bool (← Op.equal t _ _))) h K
     rw [swp_bind']
     exact key _ _ _ _ _ _ hk
    ·change swp P (do pure (Value.bool (!(← Op.equal t _ _)))) h K
     rw [swp_bind']
     exact key _ _ _ _ _ _ hk
    ·exact hk.elim
   ·exact hk.elim
  ·exact hk.elim
 ·split at hk
  ·rename_i l1 l2
   cases hb : eqOk P 8 t && !P.eqGuardType P.depth t with
   | false => rw [hb] at hk; exact hk.elim
   | true =>
    rw [hb] at hk
    simp only [Bool.and_eq_true, Bool.not_eq_true'] at hb
    refine guard_no (.inr hb.2) rfl ?_
    simp only [cond_true] at hk
    split at hk
    ·exact equal_swp (by omega) hb.1 hk
    ·exact nequal_swp (by omega) hb.1 hk
    ·exact hk.elim
  ·exact hk.elim
 ·exact hk.elim
theorem ifn_some {x : Value} {F : Bool → Prop} (h : ifn x F) : (x = .nilIface ∧ F true) ∨ ∃ t v, x = .iface t v ∧ F false := by
 cases x <;> first | exact .inl ⟨rfl, h⟩ | exact .inr ⟨_, _, rfl, h⟩ | exact h.elim
theorem binIf_swp {P : Program} {op : BinOp} {t : TypeId} {ox oy : Operand} {x y : Value} {h : Hp} {K : Value → Hp → Prop} (hi : isIfT P t = true) (hk : binIf op (isC oy) x y fun v => K v h) :
  swp P (do eqGuard op t ox oy x y; binOp op t x y) h K := by
 rw [swp_bind']
 obtain ⟨ms, hu⟩ : ∃ ms, P.underlying t = some (.interface ms) := by
  unfold isIfT at hi
  split at hi
  ·rename_i ms h; exact ⟨ms, h⟩
  ·cases hi
 unfold binIf at hk
 split at hk
 ·cases hc : isC oy with
  | false => rw [hc] at hk; exact hk.elim
  | true =>
   rw [hc] at hk
   simp only [cond_true] at hk
   have hoy : (oy matches .const _) = true := by cases oy <;> simp [isC] at hc <;> rfl
   have eqn : ∀ (K' : Bool → Hp → Prop), (x = .nilIface ∧ K' true h) ∨ (∃ t v, x = .iface t v ∧ K' false h) → swp P (Op.equal t x .nilIface) h K' := by
    rintro K' (⟨rfl, hk'⟩ | ⟨t', v, rfl, hk'⟩)
    ·unfold Op.equal Op.maxDepth Op.equalIn
     rw [swp_bind']
     exact underlying_swp hu hk'
    ·unfold Op.equal Op.maxDepth Op.equalIn
     rw [swp_bind']
     exact underlying_swp hu hk'
   have grd : ∀ (K' : Unit → Hp → Prop), (x = .nilIface ∨ ∃ t v, x = .iface t v) → K' () h → swp P (eqGuard op t ox oy x .nilIface) h K' := by
    rintro K' (rfl | ⟨t', v, rfl⟩) hk'
    ·unfold eqGuard
     obtain ⟨v, rfl⟩ : ∃ v, oy = .const v := by
      cases oy <;> simp at hoy
      exact ⟨_, rfl⟩
     cases op <;> (try exact hk') <;> (simp only [Bool.or_true, Bool.not_true, Bool.false_eq_true, if_true, if_false]; exact hk')
    ·exact guard_no (.inl rfl) rfl hk'
   split at hk
   ·have hx := ifn_some hk
    refine grd _ ?_ ?_
    ·rcases hx with ⟨h1, _⟩ | ⟨t', v, h1, _⟩
     ·exact .inl h1
     ·exact .inr ⟨t', v, h1⟩
    ·have : binOp .eql t x .nilIface = (do pure (.bool (← Op.equal t x .nilIface))) := by
      rcases hx with ⟨h1, _⟩ | ⟨t', v, h1, _⟩ <;> subst h1 <;> rfl
     rw [this, swp_bind']
     exact eqn _ hx
   ·have hx := ifn_some hk
    refine grd _ ?_ ?_
    ·rcases hx with ⟨h1, _⟩ | ⟨t', v, h1, _⟩
     ·exact .inl h1
     ·exact .inr ⟨t', v, h1⟩
    ·have : binOp .neq t x .nilIface = (do pure (.bool (!(← Op.equal t x .nilIface)))) := by
      rcases hx with ⟨h1, _⟩ | ⟨t', v, h1, _⟩ <;> subst h1 <;> rfl
     rw [this, swp_bind']
     exact eqn (fun b h' => K (.bool !b) h') hx
   ·exact hk.elim
 ·rename_i t' v'
  have eqn : ∀ (K' : Bool → Hp → Prop), K' false h → swp P (Op.equal t .nilIface (.iface t' v')) h K' := by
   intro K' hk'
   unfold Op.equal Op.maxDepth Op.equalIn
   rw [swp_bind']
   exact underlying_swp hu hk'
  split at hk
  ·split at hk
   ·show swp P (binOp .eql t .nilIface (.iface t' v')) h K
    have : binOp .eql t .nilIface (.iface t' v') = (do pure (.bool (← Op.equal t .nilIface (.iface t' v')))) := rfl
    rw [this, swp_bind']
    exact eqn _ hk
   ·show swp P (binOp .neq t .nilIface (.iface t' v')) h K
    have : binOp .neq t .nilIface (.iface t' v') = (do pure (.bool (!(← Op.equal t .nilIface (.iface t' v'))))) := rfl
    rw [this, swp_bind']
    exact eqn (fun b h' => K (.bool !b) h') hk
   ·exact hk.elim
  ·exact hk.elim
 ·exact hk.elim
theorem fuN_some {x : Value} {F : Bool → Prop} (h : fuN x F) : (x = .nilFunc ∧ F true) ∨ ∃ f a b, x = .func f a b ∧ F false := by
 unfold fuN at h
 split at h
 ·exact .inl ⟨rfl, h⟩
 ·exact .inr ⟨_, _, _, rfl, h⟩
 ·exact h.elim
theorem binFu_swp {P : Program} {op : BinOp} {t : TypeId} {ox oy : Operand} {x y : Value} {h : Hp} {K : Value → Hp → Prop} (hi : isFuT P t = true) (hk : binFu op x y fun v => K v h) :
  swp P (do eqGuard op t ox oy x y; binOp op t x y) h K := by
 rw [swp_bind']
 obtain ⟨ps, rs, va, hu⟩ : ∃ ps rs va, P.underlying t = some (.func ps rs va) := by
  unfold isFuT at hi
  split at hi
  ·rename_i h; exact ⟨_, _, _, h⟩
  ·cases hi
 unfold binFu at hk
 split at hk
 ·have eqn : ∀ (K' : Bool → Hp → Prop), (x = .nilFunc ∧ K' true h) ∨ (∃ f a b, x = .func f a b ∧ K' false h) → swp P (Op.equal t x .nilFunc) h K' := by
   rintro K' (⟨rfl, hk'⟩ | ⟨f, a, b, rfl, hk'⟩)
   ·unfold Op.equal Op.maxDepth Op.equalIn
    rw [swp_bind']
    exact underlying_swp hu hk'
   ·unfold Op.equal Op.maxDepth Op.equalIn
    rw [swp_bind']
    exact underlying_swp hu hk'
  split at hk
  ·have hx := fuN_some hk
   refine guard_no (.inl ?_) ?_ ?_
   ·rcases hx with ⟨h1, _⟩ | ⟨f, a, b, h1, _⟩ <;> subst h1 <;> rfl
   ·rcases hx with ⟨h1, _⟩ | ⟨f, a, b, h1, _⟩ <;> subst h1 <;> rfl
   ·have : binOp .eql t x .nilFunc = (do pure (.bool (← Op.equal t x .nilFunc))) := by
     rcases hx with ⟨h1, _⟩ | ⟨f, a, b, h1, _⟩ <;> subst h1 <;> rfl
    rw [this, swp_bind']
    exact eqn _ hx
  ·have hx := fuN_some hk
   refine guard_no (.inl ?_) ?_ ?_
   ·rcases hx with ⟨h1, _⟩ | ⟨f, a, b, h1, _⟩ <;> subst h1 <;> rfl
   ·rcases hx with ⟨h1, _⟩ | ⟨f, a, b, h1, _⟩ <;> subst h1 <;> rfl
   ·have : binOp .neq t x .nilFunc = (do pure (.bool (!(← Op.equal t x .nilFunc)))) := by
     rcases hx with ⟨h1, _⟩ | ⟨f, a, b, h1, _⟩ <;> subst h1 <;> rfl
    rw [this, swp_bind']
    exact eqn (fun b h' => K (.bool !b) h') hx
  ·exact hk.elim
 ·exact hk.elim
theorem invX_ok {P : Program} {name : String} {t : TypeId} {g : Nat} (hi : invX P name t = some g) {v : Value} {h : Hp} {n : Nat} {K : FuncId × Value → Hp → Prop} (hK : K (g, v) h) : swp P (method (n + 1) t v name) h K := by
 unfold invX at hi
 split at hi
 ·rename_i i hinf
  split at hi
  ·rename_i m hm
   split at hi
   ·rename_i f pr hp hf
    unfold method
    rw [swp_bind']
    refine typeInfo_swp hinf ?_
    rw [hm]
    simp only [hp, swp_bind']
    unfold follow
    rw [swp_pure]
    simp only [hf, swp_bind']
    split at hi
    ·rename_i e hu
     cases pr with
     | false => cases hi
     | true =>
      cases hi
      unfold receiverAt
      rw [swp_bind']
      refine underlying_swp hu ?_
      exact hK
    ·rename_i d hn hu
     cases pr with
     | true => cases hi
     | false =>
      cases hi
      unfold receiverAt
      rw [swp_bind']
      refine underlying_swp hu ?_
      cases d <;> first | exact hK | exact absurd rfl (hn _)
    ·cases hi
   ·cases hi
  ·cases hi
 ·cases hi
theorem invK_swp {P : Program} {E : Nat → Bool} (hE : EnterOk P E) {m : String} {v : Value} {vs : List Value} {h : Hp} {K : Value → Hp → Prop} (hk : invK P E m v vs h K) :
  ∃ t x, v = .iface t x ∧ swp P (callMethod (.iface t x) m ⟨vs⟩) h (nextK P K) := by
 unfold invK at hk
 split at hk
 ·rename_i t x
  split at hk
  ·rename_i g hg
   cases hb : E g with
   | false => rw [hb] at hk; exact hk.elim
   | true =>
    rw [hb] at hk
    simp only [cond_true] at hk
    refine ⟨t, x, rfl, ?_⟩
    unfold callMethod
    simp only []
    rw [swp_bind', program_swp, swp_bind']
    have hd : P.types.size + Made.depth = (P.types.size + Made.depth - 1) + 1 := by
     have : 0 < Made.depth := by decide
     omega
    rw [hd]
    refine invX_ok hg ?_
    have ha : (#[x] ++ ⟨vs⟩ : Array Value) = ⟨x :: vs⟩ := by apply Array.ext'; simp
    simp only [ha]
    exact callFunc_swp hE hb hk
  ·exact hk.elim
 ·exact hk.elim
theorem taK_swp {P : Program} {xt ty : TypeId} {ok : Bool} {v : Value} {h : Hp} {K : Value → Hp → Prop} (hk : taK P ty ok v fun v' => K v' h) : swp P (Instr.typeAssert v xt ty ok) h K := by
 unfold taK at hk
 split at hk
 ·exact hk.elim
 ·rename_i d hn hu
  have zero : zv1 P ty (fun z => K (.tuple ⟨[z, .bool false]⟩) h) → swp P (do let y ← zeroValue ty; pure (Value.tuple #[y, .bool false])) h K := by
   intro hz
   unfold zv1 at hz
   split at hz
   ·rename_i i hi
    split at hz
    ·rename_i z hzz
     rw [swp_bind']
     unfold zeroValue
     rw [swp_bind']
     refine typeInfo_swp hi ?_
     rw [hzz]
     exact hz
    ·exact hz.elim
   ·exact hz.elim
  unfold Instr.typeAssert
  simp only [swp_bind']
  refine underlying_swp hu ?_
  cases ok with
  | true =>
   simp only [cond_true] at hk
   unfold asK at hk
   split at hk
   ·have := zero hk
    cases d <;> first | exact this | exact absurd rfl (hn _)
   ·rename_i t x
    cases hb : Nat.beq t ty with
    | true =>
     rw [hb] at hk
     simp only [cond_true] at hk
     have := Nat.eq_of_beq_eq_true hb; subst this
     obtain ⟨y, hy, hk2⟩ := VT.on_some hk
     have hy := Option.some.inj hy
     subst hy
     cases d <;> first | exact absurd rfl (hn _) | (simp only [if_true, ↓reduceIte]; exact hk2)
    | false =>
     rw [hb] at hk
     simp only [cond_false] at hk
     have hne := Nat.ne_of_beq_eq_false hb
     have := zero hk
     cases d <;> first | (simp only [if_neg hne]; exact this) | exact absurd rfl (hn _)
   ·exact hk.elim
  | false =>
   simp only [cond_false] at hk
   unfold asK at hk
   split at hk
   ·exact hk.elim
   ·rename_i t x
    cases hb : Nat.beq t ty with
    | true =>
     rw [hb] at hk
     simp only [cond_true] at hk
     have := Nat.eq_of_beq_eq_true hb; subst this
     obtain ⟨y, hy, hk2⟩ := VT.on_some hk
     have hy := Option.some.inj hy
     subst hy
     cases d <;> first | exact absurd rfl (hn _) | (simp only [if_true, ↓reduceIte]; exact hk2)
    | false => rw [hb] at hk; exact hk.elim
   ·exact hk.elim
 ·exact hk.elim
theorem opK_sound {P : Program} {E : Nat → Bool} (hE : EnterOk P E) {o : Oper} {ρ : Env} {h : Hp} {K : Value → Hp → Prop} (hk : opK P E o ρ h K) :
  (isSel o.op = false ∧ okAll ρ o.op.operands.toList = true) ∧ opS P o (evD ρ) h K := by
 obtain ⟨dst, op, type, pos, after, guard⟩ := o
 have base : ∀ (o : Oper), someAny ρ P o h K → (isSel o.op = false ∧ okAll ρ o.op.operands.toList = true) ∧ opS P o (evD ρ) h K := by
  intro o hs
  unfold someAny at hs
  cases hb : okAll ρ o.op.operands.toList && !isSel o.op with
  | false => rw [hb] at hs; exact hs.elim
  | true => rw [hb] at hs; simp only [Bool.and_eq_true, Bool.not_eq_true'] at hb; exact ⟨⟨hb.2, hb.1⟩, hs⟩
 cases op <;> (try exact base _ hk) <;> simp only [opK] at hk <;> unfold opS <;> simp only [execOp, isSel, Op.operands, true_and]
 case move x => obtain ⟨h1, hk⟩ := mv_some hk; exact ⟨by simp [okAll, h1], hk⟩
 case assign x => obtain ⟨h1, hk⟩ := mv_some hk; exact ⟨by simp [okAll, h1], hk⟩
 case pick c a b =>
  obtain ⟨h1, hk⟩ := mv_some hk
  obtain ⟨h2, hk⟩ := mv_some hk
  obtain ⟨h3, hk⟩ := mv_some hk
  refine ⟨by simp [okAll, h1, h2, h3], ?_⟩
  unfold xB at hk
  split at hk
  ·rename_i b' e
   simp only [Option.some.injEq] at e
   rw [e]
   cases b' <;> exact hk
  ·exact hk.elim
 case load t x =>
  obtain ⟨h1, hk⟩ := mv_some hk
  refine ⟨by simp [okAll, h1], ?_⟩
  obtain ⟨d, hd, hk⟩ := isSome_cond hk
  refine vswp ?_
  unfold ldK at hk
  split at hk
  ·rename_i p hp
   obtain ⟨a, rfl, hk⟩ := nn_some hk
   rw [hp]
   unfold Instr.loadAt
   rw [swp_bind']
   exact loadVar_swp (by rw [hd]; rfl) hk
  ·exact hk.elim
 case store t a x =>
  obtain ⟨h1, hk⟩ := mv_some hk
  obtain ⟨h2, hk⟩ := mv_some hk
  exact ⟨by simp [okAll, h1, h2], uswp (stK_swp hk)⟩
 case nilCheck x =>
  obtain ⟨h1, hk⟩ := mv_some hk
  refine ⟨by simp [okAll, h1], ?_⟩
  unfold nilK at hk
  split at hk
  ·rename_i p hp
   obtain ⟨a, rfl, hk⟩ := nn_some hk
   rw [hp]; exact hk
  all_goals first | exact hk.elim | (rename_i hp; rw [hp]; exact hk)
 case fieldAddr s x f =>
  obtain ⟨h1, hk⟩ := mv_some hk
  exact ⟨by simp [okAll, h1], vswp (faK_swp hk)⟩
 case indexAddr t x i =>
  obtain ⟨h1, hk⟩ := mv_some hk
  obtain ⟨h2, hk⟩ := mv_some hk
  exact ⟨by simp [okAll, h1, h2], vswp (iaK_swp hk)⟩
 case index t x i =>
  obtain ⟨h1, hk⟩ := mv_some hk
  obtain ⟨h2, hk⟩ := mv_some hk
  exact ⟨by simp [okAll, h1, h2], vswp (ixK_swp hk)⟩
 case slice t x lo hi mx =>
  obtain ⟨h1, hk⟩ := mv_some hk
  obtain ⟨h2, hk⟩ := mvo_some hk
  obtain ⟨h3, hk⟩ := mvo_some hk
  obtain ⟨h4, hk⟩ := mvo_some hk
  refine ⟨?_, vswp (slK_swp hk)⟩
  cases lo <;> cases hi <;> cases mx <;> simp_all [okAll]
 case convert s d x =>
  obtain ⟨h1, hk⟩ := mv_some hk
  exact ⟨by simp [okAll, h1], vswp (cvK_swp hk)⟩
 case binOp op t x y _ =>
  obtain ⟨h1, hk⟩ := mv_some hk
  obtain ⟨h2, hk⟩ := mv_some hk
  refine ⟨by simp [okAll, h1, h2], vswp ?_⟩
  cases hi : isIfT P t with
  | true => rw [hi] at hk; exact binIf_swp hi hk
  | false =>
   rw [hi] at hk
   simp only [cond_false] at hk
   cases hf : isFuT P t with
   | true => rw [hf] at hk; exact binFu_swp hf hk
   | false => rw [hf] at hk; exact binK_swp hk
 case typeAssert x xt ty ok =>
  obtain ⟨h1, hk⟩ := mv_some hk
  exact ⟨by simp [okAll, h1], vswp (taK_swp hk)⟩
 case lookup t x i ok =>
  obtain ⟨h1, hk⟩ := mv_some hk
  obtain ⟨h2, hk⟩ := mv_some hk
  exact ⟨by simp [okAll, h1, h2], vswp (lkK_swp hk)⟩
 case extract x i =>
  obtain ⟨h1, hk⟩ := mv_some hk
  exact ⟨by simp [okAll, h1], vswp (exK_swp hk)⟩
 case range t x =>
  obtain ⟨h1, hk⟩ := mv_some hk
  exact ⟨by simp [okAll, h1], vswp (rgK_swp hk)⟩
 case next x s =>
  obtain ⟨h1, hk⟩ := mv_some hk
  refine ⟨by simp [okAll, h1], vswp ?_⟩
  split at hk
  ·rename_i p hp
   rw [hp]
   cases s with
   | true => exact nxS_swp hk
   | false => exact nxM_swp hk
  ·exact hk.elim
 case entry x =>
  obtain ⟨h1, hk⟩ := mv_some hk
  refine ⟨by simp [okAll, h1], vswp ?_⟩
  split at hk
  ·rename_i p hp
   rw [hp]
   exact enM_swp hk
  ·exact hk.elim
 case mapUpdate t m k x =>
  obtain ⟨h1, hk⟩ := mv_some hk
  obtain ⟨h2, hk⟩ := mv_some hk
  obtain ⟨h3, hk⟩ := mv_some hk
  exact ⟨by simp [okAll, h1, h2, h3], uswp (muK_swp hk)⟩
 case makeSlice t l c =>
  obtain ⟨h1, hk⟩ := mv_some hk
  obtain ⟨h2, hk⟩ := mv_some hk
  refine ⟨by simp [okAll, h1, h2], vswp ?_⟩
  obtain ⟨e, hu, hk⟩ := elT_some hk
  cases hb : zOk P e && (P.info? e).isSome && Nat.beq (P.cellsOf e) (zc P e).length with
  | false => rw [hb] at hk; exact hk.elim
  | true =>
   rw [hb] at hk
   simp only [Bool.and_eq_true] at hb
   simp only [cond_true] at hk
   split at hk
   ·rename_i hl hc
    rw [hl, hc]
    exact mkK_swp hu hb.1.1 hb.1.2 hb.2 hk
   ·exact hk.elim
 case call c =>
  obtain ⟨cal, args, ts⟩ := c
  cases cal with
  | invoke r m =>
   simp only [opK] at hk
   obtain ⟨h1, hk⟩ := mv_some hk
   obtain ⟨h2, hk⟩ := mvs_some hk
   refine ⟨by simp [Call.operands, okAll, h1, h2], ?_⟩
   simp only [List.reverse_nil, List.nil_append] at hk
   obtain ⟨t, x, hv, hs⟩ := invK_swp hE hk
   have e : args.map (evD ρ) = ⟨args.toList.map (evD ρ)⟩ := by apply Array.ext'; simp
   unfold resolve
   simp only [hv]
   show swp P (invoke (.fn (.method m) #[]) (#[.iface t x] ++ args.map (evD ρ))) h (nextK P K)
   rw [e]
   have hargs : (#[.iface t x] ++ ⟨args.toList.map (evD ρ)⟩ : Array Value) = ⟨.iface t x :: args.toList.map (evD ρ)⟩ := by apply Array.ext'; simp
   rw [hargs]
   have hinv : invoke (.fn (.method m) #[]) ⟨.iface t x :: args.toList.map (evD ρ)⟩ = callMethod (.iface t x) m ⟨args.toList.map (evD ρ)⟩ := by
    unfold invoke
    have e0 : (⟨.iface t x :: args.toList.map (evD ρ)⟩ : Array Value)[0]? = some (.iface t x) := rfl
    simp only [e0]
    congr 1
    apply Array.ext'; simp [List.take_of_length_le]
   rw [hinv]
   exact hs
  | value f =>
   simp only [opK] at hk
   obtain ⟨h1, hk⟩ := mv_some hk
   obtain ⟨h2, hk⟩ := mvs_some hk
   refine ⟨by simp [Call.operands, okAll, h1, h2], ?_⟩
   simp only [List.reverse_nil, List.nil_append] at hk
   have := callK_swp hE hk
   unfold resolve
   have e : args.map (evD ρ) = ⟨args.toList.map (evD ρ)⟩ := by apply Array.ext'; simp
   simp only [e]
   exact this
  | builtin b =>
   simp only [opK] at hk
   cases hkb : knownB b with
   | false =>
    rw [hkb] at hk
    simp only [cond_false] at hk
    unfold someAny at hk
    cases hb : okAll ρ (Op.call ⟨.builtin b, args, ts⟩).operands.toList && !isSel (Op.call ⟨.builtin b, args, ts⟩) with
    | false => rw [hb] at hk; exact hk.elim
    | true => rw [hb] at hk; simp only [Bool.and_eq_true, Bool.not_eq_true'] at hb; exact ⟨hb.1, hk⟩
   | true =>
   rw [hkb] at hk
   simp only [cond_true] at hk
   obtain ⟨h2, hk⟩ := mvs_some hk
   refine ⟨by simp [Call.operands, h2], ?_⟩
   simp only [List.reverse_nil, List.nil_append] at hk
   unfold resolve
   have e : args.map (evD ρ) = ⟨args.toList.map (evD ρ)⟩ := by apply Array.ext'; simp
   simp only [e, swp_bind']
   exact bltK_swp hk
end Go.Hw

/-
 Regions whose operations come in the order of the text.
-/
set_option linter.unusedSimpArgs false
set_option linter.unusedVariables false
namespace Go.Hw
open Go
def gK (ρ : Env) (d : Option Nat) (F : Option Bool → Env → Prop) : Prop :=
 match d with
 | some d =>
  match ρ d with
  | some (.bool c) => bif c then F (some true) (putd ρ (some d) (.bool true)) else F (some false) (putd ρ (some d) (.bool false))
  | some (.tuple _) => F none ρ
  | _ => False
 | none => False
def gEq : Option Bool → Bool → Bool
 | some true, b => b
 | some false, b => !b
 | none, _ => false
def gdstL (l : List Oper) (j : Nat) : Option Nat := match l[j]? with
 | some o => o.dst
 | none => none
def denOp (P : Program) (E : Nat → Bool) (n : Nat) (all : List Oper) (o : Oper) (ρ : Env) (h : Hp) (X : Env → Hp → Prop) : Prop :=
 match o.guard with
 | none => bif okDst n o.dst then opK P E o ρ h fun v h' => X (putd ρ o.dst v) h' else False
 | some (j, want) => gK ρ (gdstL all j) fun c ρ1 =>
   bif okDst n o.dst then (bif gEq c want then opK P E o ρ1 h fun v h' => X (putd ρ1 o.dst v) h' else X (putd ρ1 o.dst undef) h) else False
def denOps (P : Program) (E : Nat → Bool) (n : Nat) (all : List Oper) : List Oper → Env → Hp → (Env → Hp → Prop) → Prop
 | [], ρ, h, X => X ρ h
 | o :: l, ρ, h, X => denOp P E n all o ρ h fun ρ' h' => denOps P E n all l ρ' h' X
theorem putd_same {ρ : Env} {d : Nat} {v : Value} (h : ρ d = some v) : putd ρ (some d) v = ρ := by
 funext t
 simp only [putd]
 cases hb : Nat.beq t d with
 | true => have := Nat.eq_of_beq_eq_true hb; subst this; simp [h]
 | false => rfl
theorem gK_some {ρ : Env} {d : Option Nat} {F : Option Bool → Env → Prop} (h : gK ρ d F) : ∃ c, d.bind ρ = some c ∧ F (blOf c) ρ := by
 unfold gK at h
 split at h
 ·rename_i d
  split at h
  ·rename_i c hc
   refine ⟨.bool c, hc, ?_⟩
   cases c
   ·have := putd_same hc; rw [this] at h; exact h
   ·have := putd_same hc; rw [this] at h; exact h
  ·rename_i t hc
   exact ⟨.tuple t, hc, h⟩
  ·exact h.elim
 ·exact h.elim
theorem gdstL_eq (ops : Array Oper) (j : Nat) : gdstL ops.toList j = gdst ops j := by
 unfold gdstL gdst
 simp only [Array.getElem?_toList]
 cases ops[j]? <;> rfl
theorem gEq_eq {a : Option Bool} {b : Bool} : gEq a b = true ↔ a = some b := by
 cases a with
 | none => simp [gEq]
 | some a => cases a <;> cases b <;> simp [gEq]
theorem runS_opK {P : Program} {E : Nat → Bool} (hE : EnterOk P E) {n : Nat} {o : Oper} {ρ : Env} {h : Hp} {X : Env → Hp → Prop} (hd : okDst n o.dst = true)
  (hk : opK P E o ρ h fun v h' => X (putd ρ o.dst v) h') : runS P n o ρ h X := by
 obtain ⟨⟨h1, h2⟩, h3⟩ := opK_sound hE hk
 exact ⟨⟨h1, h2, hd⟩, h3⟩
theorem denOp_step {P : Program} {E : Nat → Bool} (hE : EnterOk P E) {n : Nat} {ops : Array Oper} {o : Oper} {ρ : Env} {h : Hp} {X : Env → Hp → Prop}
  (hd : denOp P E n ops.toList o ρ h X) : stepS P n ops o ρ h X := by
 unfold denOp at hd
 unfold stepS
 split at hd
 ·rename_i hg
  rw [hg]
  cases hok : okDst n o.dst with
  | false => rw [hok] at hd; exact hd.elim
  | true => rw [hok] at hd; exact runS_opK hE hok hd
 ·rename_i j want hg
  rw [hg]
  obtain ⟨c, hc, hd⟩ := gK_some hd
  rw [gdstL_eq] at hc
  refine ⟨c, hc, ?_⟩
  cases hok : okDst n o.dst with
  | false => rw [hok] at hd; exact hd.elim
  | true =>
   rw [hok] at hd
   simp only [cond_true] at hd
   cases hb : gEq (blOf c) want with
   | true =>
    rw [hb] at hd
    rw [if_pos (gEq_eq.1 hb)]
    exact runS_opK hE hok hd
   | false =>
    rw [hb] at hd
    rw [if_neg (fun e => by rw [gEq_eq.2 e] at hb; cases hb)]
    exact ⟨rfl, hd⟩
theorem wrOps_mem {d : Nat} : ∀ {l : List Oper} {o : Oper}, o ∈ l → o.dst = some d → wrOps d l = true := by
 intro l
 induction l with
 | nil => intro o h; cases h
 | cons x l ih =>
  intro o h hd
  simp only [wrOps]
  cases h with
  | head => rw [hd]; simp
  | tail _ hm => rw [ih hm hd]; simp
theorem Same.put {id : Nat} {ops : Array Oper} {dr : Bool} {a0 a : Act} (hs : Same (.region id ops dr) a0 a) {o : Oper} (ho : o ∈ ops.toList) {d : Option Nat} (hd : d = o.dst) (v : Value) :
  Same (.region id ops dr) a0 (a.put d v) := by
 intro t ht
 cases d with
 | none => exact hs t ht
 | some d =>
  have hw : wrOps d ops.toList = true := wrOps_mem ho hd.symm
  have hne : d ≠ t := by
   intro e; subst e
   simp only [wr] at ht
   rw [hw] at ht; cases ht
  rw [← hs t ht]
  simp [Act.put, Array.getElem?_setIfInBounds_ne hne]
def EndR (n : Nat) (c : Code) (a0 : Act) (w0 : World) (Q : Exit → Env → Hp → Prop) : Exit → Act → World → Prop :=
 fun e a' w' => ∃ ρ', Ag n ρ' a' ∧ Sm c a0 w0 a' w' ∧ Q e ρ' (hpOf w')
theorem denOps_wp {P : Program} {E : Nat → Bool} (hE : EnterOk P E) {n id : Nat} {ops : Array Oper} {dr : Bool} {a0 : Act} {w0 : World} {Q : Exit → Env → Hp → Prop} :
  ∀ (l : List Oper) (k : Nat) (ρ : Env) (a : Act) (w : World), ops.toList.drop k = l → Ag n ρ a → Sm (.region id ops dr) a0 w0 a w →
  denOps P E n ops.toList l ρ (hpOf w) (fun ρ' h' => Q .normal ρ' h') →
  wpOps P ops (EndR n (.region id ops dr) a0 w0 Q) (List.range' k l.length) a w := by
 intro l
 induction l with
 | nil => intro k ρ a w _ ha hs hd; exact ⟨ρ, ha, hs, hd⟩
 | cons o l ih =>
  intro k ρ a w hk ha hs hd
  have ho : ops.toList[k]? = some o := by
   have := congrArg (fun l => l[0]?) hk
   simpa using this
  have ho' : ops[k]? = some o := by simpa using ho
  have hl : ops.toList.drop (k + 1) = l := by
   have := congrArg (fun l => l.drop 1) hk
   simpa [List.drop_drop] using this
  simp only [List.length_cons, List.range'_succ]
  rw [wpOps_cons]
  refine stepS_wp ho' ha (denOp_step hE hd) ?_
  intro d hdst v ρ' w' hp _ hag hX
  exact ih (k + 1) ρ' _ w' hl hag ⟨hs.1.put (List.mem_of_getElem? ho) hdst v, hs.2.put hp d v⟩ hX
theorem D_region {P : Program} {E : Nat → Bool} (hE : EnterOk P E) {n id : Nat} {ops : Array Oper} {ρ : Env} {h : Hp} {Q : Exit → Env → Hp → Prop}
  (hd : denOps P E n ops.toList ops.toList ρ h fun ρ' h' => Q .normal ρ' h') : D P n (.region id ops false) ρ h Q := by
 intro a w ha hw
 subst hw
 refine wp_region ?_
 have := denOps_wp hE (dr := false) (id := id) (a0 := a) (w0 := w) (Q := Q) ops.toList 0 ρ a w rfl ha ⟨fun _ _ => rfl, KpD.refl a w⟩ hd
 rw [List.range_eq_range']
 rw [Array.length_toList] at this
 exact this
end Go.Hw

/-
 Which operations only compute, which only read: what they give is one value.
-/
set_option linter.unusedSimpArgs false
set_option linter.unusedVariables false
namespace Go.Hw
open Go
def Det (G : (Value → Prop) → Prop) : Prop := ∀ F, G F → ∃ v, F v ∧ G fun x => x = v
theorem det_ret (v : Value) : Det fun F => F v := fun F h => ⟨v, h, rfl⟩
theorem det_false : Det fun _ => False := fun _ h => h.elim
theorem det_vK {o : Option Value} {G : Value → (Value → Prop) → Prop} (hg : ∀ v, Det (G v)) : Det fun F => vK o fun v => G v F := by
 intro F h; cases o with
 | none => exact h.elim
 | some v => exact hg v F h
theorem det_mv {ρ : Env} {x : Operand} {G : Value → (Value → Prop) → Prop} (hg : ∀ v, Det (G v)) : Det fun F => mv ρ x fun v => G v F := det_vK hg
theorem det_mvo {ρ : Env} {x : Option Operand} {G : Option Value → (Value → Prop) → Prop} (hg : ∀ v, Det (G v)) : Det fun F => mvo ρ x fun v => G v F := by
 cases x with
 | none => exact hg none
 | some x => exact det_mv fun v => hg (some v)
theorem det_mvs {ρ : Env} : ∀ {l : List Operand} {acc : List Value} {G : List Value → (Value → Prop) → Prop}, (∀ v, Det (G v)) → Det fun F => mvs ρ l acc fun v => G v F := by
 intro l
 induction l with
 | nil => intro acc G hg; exact hg acc.reverse
 | cons x l ih => intro acc G hg; exact det_mv fun v => ih hg
theorem det_nn {p : Option Addr} {G : Addr → (Value → Prop) → Prop} (hg : ∀ a, Det (G a)) : Det fun F => nn p fun a => G a F := by
 cases p with
 | none => exact det_false
 | some a => exact hg a
theorem det_cond {b : Bool} {G H : (Value → Prop) → Prop} (hg : Det G) (hh : Det H) : Det fun F => bif b then G F else H F := by
 cases b
 ·exact hh
 ·exact hg
theorem det_idx {i : Int} {n : Nat} {G : (Value → Prop) → Prop} (hg : Det G) : Det fun F => idx i n (G F) := det_cond hg det_false
theorem det_bnd {x : Option Value} {d y : Nat} {G : Nat → (Value → Prop) → Prop} (hg : ∀ m, Det (G m)) : Det fun F => bnd x d y fun m => G m F := by
 unfold bnd
 split
 ·exact hg d
 ·exact det_cond (hg _) det_false
 ·exact det_false
theorem det_xB {o : Option Value} {G : Bool → (Value → Prop) → Prop} (hg : ∀ m, Det (G m)) : Det fun F => xB o fun m => G m F := by
 unfold xB
 split
 ·exact hg _
 ·exact det_false
theorem det_xC {c : CT} {o : Option Value} {G : Value → (Value → Prop) → Prop} (hg : ∀ m, Det (G m)) : Det fun F => xC c o fun m => G m F := by
 cases c <;> simp only [xC]
 ·unfold xI; split
  ·exact det_cond (hg _) det_false
  ·exact det_false
 ·exact det_xB fun b => hg _
 ·unfold xS; split <;> first | exact hg _ | exact det_false
 ·unfold xP; split <;> first | exact hg _ | exact det_false
 ·unfold xL; split <;> first | exact hg _ | exact det_false
 ·unfold xM; split <;> first | exact hg _ | exact det_false
 ·unfold xA; split <;> first | exact hg _ | exact det_false
theorem det_exK {P : Program} {t : TypeId} {v : Value} {i : Nat} : Det fun F => exK P t v i F := by
 unfold exK
 split
 ·split
  ·exact det_xC fun _ => det_ret _
  ·exact det_false
 ·exact det_false
theorem det_nilK {v : Value} : Det fun F => nilK v F := by
 unfold nilK; split <;> first | exact det_nn fun a => det_ret _ | exact det_ret _ | exact det_false
theorem det_faK {P : Program} {s : TypeId} {f : Nat} {v : Value} : Det fun F => faK P s f v F := by
 unfold faK
 split
 ·split
  ·split
   ·exact det_nn fun a => det_cond (det_ret _) det_false
   ·exact det_false
  ·exact det_false
 ·exact det_false
theorem det_iaK {P : Program} {t : TypeId} {v vi : Value} : Det fun F => iaK P t v vi F := by
 unfold iaK
 split
 ·split
  ·split
   ·exact det_nn fun a => det_cond (det_idx (det_ret _)) det_false
   ·exact det_false
  ·split
   ·exact det_cond (det_idx (det_nn fun a => det_ret _)) det_false
   ·exact det_false
  ·exact det_false
 ·exact det_false
theorem det_slK {P : Program} {t : TypeId} {v : Value} {lo hi mx : Option Value} : Det fun F => slK P t v lo hi mx F := by
 unfold slK
 split
 ·split
  ·exact det_cond (det_bnd fun m => det_bnd fun hh => det_cond det_false (det_bnd fun l => det_ret _)) det_false
  ·exact det_false
 ·split
  ·exact det_nn fun a => det_cond (det_bnd fun m => det_bnd fun hh => det_cond det_false (det_bnd fun l => det_ret _)) det_false
  ·exact det_false
 ·split
  ·exact det_cond det_false (det_bnd fun hh => det_bnd fun l => det_ret _)
  ·exact det_false
 ·exact det_false
theorem det_ixK {P : Program} {t : TypeId} {v vi : Value} : Det fun F => ixK P t v vi F := by
 unfold ixK
 split
 ·split
  ·split
   ·exact det_idx (det_ret _)
   ·exact det_false
  ·split
   ·exact det_cond (det_idx (det_vK fun v => det_cond (det_ret v) (det_xC fun m => det_ret m))) det_false
   ·exact det_false
  ·exact det_false
 ·exact det_false
theorem det_ifn {x : Value} {G : Bool → (Value → Prop) → Prop} (hg : ∀ b, Det (G b)) : Det fun F => ifn x fun b => G b F := by
 unfold ifn
 split
 ·exact hg _
 ·exact hg _
 ·exact det_false
theorem det_binIf {op : BinOp} {c : Bool} {x y : Value} : Det fun F => binIf op c x y F := by
 unfold binIf
 split
 ·refine det_cond ?_ det_false
  split
  ·exact det_ifn fun b => det_ret _
  ·exact det_ifn fun b => det_ret _
  ·exact det_false
 ·split
  ·cases op <;> first | exact det_ret _ | exact det_false
  ·exact det_false
 ·exact det_false
theorem det_binI {op : BinOp} {k k' : IntKind} {a b : Int} : Det fun F => binI op k k' a b F := by
 unfold binI
 cases op <;> first | exact det_cond (det_ret _) det_false | exact det_cond det_false (det_ret _)
theorem det_binS {op : BinOp} {a b : ByteArray} : Det fun F => binS op a b F := by
 unfold binS
 cases op <;> first | exact det_ret _ | exact det_cond det_false (det_ret _) | exact det_false
theorem det_peq {h : Hp} {p q : Option Addr} {G : Bool → (Value → Prop) → Prop} (hg : ∀ b, Det (G b)) : Det fun F => peq h p q fun b => G b F := by
 unfold peq
 split
 ·exact hg _
 ·exact hg _
 ·refine det_cond (hg _) ?_
  rintro F ⟨h1, h2⟩
  obtain ⟨v, hv, hg⟩ := hg false F h2
  exact ⟨v, hv, h1, hg⟩
theorem det_opt {o : Option Bool} {g : Bool → Value} : Det fun F => vK (o.map g) F := det_vK fun v => det_ret v
theorem det_binK {P : Program} {op : BinOp} {t : TypeId} {x y : Value} {h : Hp} : Det fun F => binK P op t x y h F := by
 unfold binK
 split
 ·split
  ·exact det_binI
  ·exact det_false
 ·split
  ·exact det_binS
  ·exact det_false
 ·split
  ·split <;> first | exact det_cond det_opt det_false | exact det_false
  ·exact det_false
 ·split
  ·split
   ·refine det_cond ?_ det_false
    split <;> first | exact det_peq fun b => det_ret _ | exact det_false
   ·exact det_false
  ·exact det_false
 ·split
  ·split
   ·split <;> first | exact det_ret _ | exact det_false
   ·exact det_false
  ·exact det_false
 ·split
  ·refine det_cond ?_ det_false
   split <;> first | exact det_opt | exact det_false
  ·exact det_false
 ·exact det_false
theorem det_binFu {op : BinOp} {x y : Value} : Det fun F => binFu op x y F := by
 have dn : ∀ {G : Bool → (Value → Prop) → Prop}, (∀ b, Det (G b)) → Det fun F => fuN x fun b => G b F := by
  intro G hg
  unfold fuN
  split
  ·exact hg _
  ·exact hg _
  ·exact det_false
 unfold binFu
 split
 ·split
  ·exact dn fun b => det_ret _
  ·exact dn fun b => det_ret _
  ·exact det_false
 ·exact det_false
theorem binK_heap {P : Program} {op : BinOp} {t : TypeId} {x y : Value} {h h' : Hp} {F : Value → Prop} (hp : (match P.underlying t with | some (.pointer _) => false | _ => true) = true)
  (hk : binK P op t x y h F) : binK P op t x y h' F := by
 unfold binK at hk ⊢
 split
 ·exact hk
 ·exact hk
 ·exact hk
 ·simp only [] at hk
  split
  ·simp only [] at hk
   split
   ·rename_i e hu; rw [hu] at hp; cases hp
   ·rename_i hn
    split at hk
    ·rename_i e hu; exact (hn e hu).elim
    ·exact hk
  ·rename_i hn
   split at hk
   ·exact (hn _ rfl).elim
   ·exact hk
 ·exact hk
 ·exact hk
 ·rename_i h1 h2 h3 h4 h5 h6
  split at hk
  ·exact (h1 _ _ rfl).elim
  ·exact (h2 _ rfl).elim
  ·exact (h3 _ rfl).elim
  ·exact (h4 _ rfl).elim
  ·exact (h5 _ _ _ rfl).elim
  ·exact (h6 _ rfl).elim
  ·exact hk
theorem det_ldCs {h : Hp} {a : Addr} : ∀ {cs : List CT} {i : Nat} {acc : List Value} {G : List Value → (Value → Prop) → Prop}, (∀ l, Det (G l)) → Det fun F => ldCs h a cs i acc fun l => G l F := by
 intro cs
 induction cs with
 | nil => intro i acc G hg; exact hg _
 | cons c cs ih => intro i acc G hg; exact det_xC fun v => ih hg
theorem det_ldT {P : Program} {t : TypeId} {a : Addr} {h : Hp} : Det fun F => ldT P t a h F := by
 unfold ldT
 split
 ·exact det_xC fun v => det_ret v
 ·exact det_cond (det_ldCs fun l => det_ret _) det_false
theorem det_xMap {h : Hp} {r : Option Nat} {G : List MapEntry → Nat → (Value → Prop) → Prop} (hg : ∀ l c, Det (G l c)) : Det fun F => xMap h r fun l c => G l c F := by
 unfold xMap
 split
 ·exact hg _ _
 ·split <;> first | exact hg _ _ | exact det_false
theorem det_CT {c : CT} {o : Option Value} {G : c.T → (Value → Prop) → Prop} (hg : ∀ m, Det (G m)) : Det fun F => c.on o fun m => G m F := by
 cases c <;> simp only [CT.on]
 ·unfold xI; split
  ·exact det_cond (hg _) det_false
  ·exact det_false
 ·exact det_xB fun b => hg _
 ·unfold xS; split <;> first | exact hg _ | exact det_false
 ·unfold xP; split <;> first | exact hg _ | exact det_false
 ·unfold xL; split <;> first | exact hg _ | exact det_false
 ·unfold xM; split <;> first | exact hg _ | exact det_false
 ·unfold xA; split <;> first | exact hg _ | exact det_false
theorem det_TL : ∀ {l : List CT} {vs : List Value} {G : TL l → (Value → Prop) → Prop}, (∀ m, Det (G m)) → Det fun F => TL.on l vs fun m => G m F
 | [], vs, G, hg => by
  cases vs with
  | nil => exact hg ()
  | cons => exact det_false
 | [c], vs, G, hg => by
  rcases vs with _ | ⟨v, _ | ⟨w, vs⟩⟩
  ·exact det_false
  ·exact det_CT (c := c) hg
  ·exact det_false
 | c :: d :: r, vs, G, hg => by
  cases vs with
  | nil => exact det_false
  | cons v vs => exact det_CT (c := c) fun x => det_TL fun y => hg (x, y)
theorem det_VT {t : VT} {o : Option Value} {G : t.T → (Value → Prop) → Prop} (hg : ∀ m, Det (G m)) : Det fun F => t.on o fun m => G m F := by
 cases t with
 | c c => exact det_CT hg
 | agg l =>
  simp only [VT.on]
  split
  ·exact det_TL hg
  ·exact det_false
theorem det_lkK {P : Program} {t : TypeId} {m k : Value} {ok : Bool} {h : Hp} : Det fun F => lkK P t m k ok h F := by
 unfold lkK
 split
 ·split
  ·refine det_cond ?_ det_false
   split
   ·refine det_xMap fun l c => ?_
    unfold keyAt
    split
    ·unfold lkR zv1
     split
     ·split
      ·exact det_VT fun x => det_ret _
      ·exact det_false
     ·exact det_false
    ·exact det_false
   ·exact det_false
  ·exact det_false
 ·exact det_false
theorem det_lenK {P : Program} {t : TypeId} {v : Value} {h : Hp} : Det fun F => lenK P t v h fun n => F (.int .i64 n) := by
 unfold lenK
 split
 ·split <;> first | exact det_ret _ | exact det_false
 ·split <;> first | exact det_ret _ | exact det_false
 ·exact det_ret _
 ·split <;> first | exact det_ret _ | exact det_false
 ·split
  ·exact det_xMap fun l c => det_ret _
  ·exact det_false
 ·exact det_false
theorem det_b2s {h : Hp} {p : Option Addr} {n : Nat} : Det fun F => b2s h p n fun s => F (.string s) := by
 unfold b2s
 split
 ·exact det_ret _
 ·split
  ·split <;> first | exact det_ret _ | exact det_false
  ·exact det_false
theorem det_mmK {f : Int → Int → Int} {k : IntKind} : ∀ {l : List Value} {a : Int}, Det fun F => mmK f k a l F := by
 intro l
 induction l with
 | nil => intro a; exact det_ret _
 | cons v l ih => intro a; cases v <;> first | exact det_false | exact ih
theorem det_mmsK {f : Int → Int → Int} {l : List Value} : Det fun F => mmsK f l F := by
 unfold mmsK
 split
 ·exact det_mmK
 ·exact det_false
inductive Quiet {α : Type} : Sem α → Prop
 | pure (a : α) : Quiet (.pure a)
 | program (k : Program → Sem α) : (∀ p, Quiet (k p)) → Quiet (.program k)
 | halt (h : Halt) : Quiet (.halt h)
theorem Quiet.bind {α β : Type} {s : Sem α} {f : α → Sem β} (hs : Quiet s) (hf : ∀ a, Quiet (f a)) : Quiet (s.bind f) := by
 induction hs with
 | pure a => exact hf a
 | program k _ ih => exact .program _ ih
 | halt h => exact .halt h
theorem Quiet.bind' {α β : Type} {s : Sem α} {f : α → Sem β} (hs : Quiet s) (hf : ∀ a, Quiet (f a)) : Quiet (s >>= f) := hs.bind hf
theorem Quiet.one {P : Program} {α : Type} {s : Sem α} (hs : Quiet s) {h : Hp} {K : α → Hp → Prop} (hk : swp P s h K) : ∃ x, K x h ∧ ∀ h', swp P s h' fun y h'' => y = x ∧ h'' = h' := by
 induction hs with
 | pure a => exact ⟨a, hk, fun h' => ⟨rfl, rfl⟩⟩
 | program k _ ih => exact ih P hk
 | halt h => exact hk.elim
theorem quiet_ret {α : Type} (a : α) : Quiet (Pure.pure a : Sem α) := .pure a
theorem quiet_stuck {α : Type} (s : String) : Quiet (stuck s : Sem α) := .halt _
theorem quiet_uns {α : Type} (u : Unsupported) : Quiet (unsupported u : Sem α) := .halt _
theorem quiet_prog : Quiet program := .program _ fun p => .pure p
theorem quiet_info (t : TypeId) : Quiet (typeInfo t) := quiet_prog.bind' fun p => by
 show Quiet (match p.info? t with | some i => pure i | none => stuck "no such type")
 split <;> first | exact quiet_ret _ | exact quiet_stuck _
theorem quiet_und (t : TypeId) : Quiet (underlying t) := quiet_prog.bind' fun p => by
 show Quiet (match p.underlying t with | some i => pure i | none => stuck "no such type")
 split <;> first | exact quiet_ret _ | exact quiet_stuck _
theorem quiet_zero (t : TypeId) : Quiet (zeroValue t) := (quiet_info t).bind' fun i => by
 split <;> first | exact quiet_ret _ | exact quiet_uns _
theorem quiet_size (t : TypeId) : Quiet (Go.sizeOf t) := (quiet_info t).bind' fun i => quiet_ret _
theorem quiet_isAgg (t : TypeId) : Quiet (isAgg t) := (quiet_und t).bind' fun d => by split <;> exact quiet_ret _
theorem quiet_part (t : TypeId) (cs : Array Value) (off : Nat) : Quiet (part t cs off) := (quiet_isAgg t).bind' fun b => by
 split
 ·exact (quiet_size t).bind' fun _ => quiet_ret _
 ·split <;> first | exact quiet_ret _ | exact quiet_stuck _
theorem quiet_mapM {α β : Type} {f : α → Sem β} (hf : ∀ a, Quiet (f a)) : ∀ l : List α, Quiet (l.mapM f) := by
 intro l
 induction l with
 | nil => exact quiet_ret _
 | cons x l ih => rw [List.mapM_cons]; exact (hf x).bind' fun _ => ih.bind' fun _ => quiet_ret _
theorem quiet_build (t : TypeId) (ps : Array (Nat × Value)) : Quiet (Instr.build t ps) := by
 unfold Instr.build
 refine (quiet_zero t).bind' fun z => (quiet_und t).bind' fun d => ?_
 split
 ·rename_i fs
  have hm : Quiet (fs.mapM fun f => do pure (f.offset, ← Go.sizeOf f.type)) := by
   rw [Array.mapM_eq_mapM_toList]
   exact (quiet_mapM (fun f => (quiet_size _).bind' fun _ => quiet_ret _) _).bind' fun _ => quiet_ret _
  refine hm.bind' fun l => ?_
  split <;> first | exact quiet_ret _ | exact quiet_stuck _
 ·refine (quiet_size _).bind' fun n => ?_
  split <;> first | exact quiet_ret _ | exact quiet_stuck _
 ·exact quiet_stuck _
theorem quiet_field (t : TypeId) (v : Value) (f : Nat) : Quiet (Instr.field t v f) := by
 unfold Instr.field
 refine (quiet_und t).bind' fun d => ?_
 split
 ·split
  ·have : Quiet (asAgg v) := by unfold asAgg; split <;> first | exact quiet_ret _ | exact quiet_stuck _
   exact this.bind' fun cs => quiet_part _ _ _
  ·exact quiet_stuck _
 ·exact quiet_stuck _
theorem quiet_iface (t : TypeId) (v : Value) : Quiet (Instr.makeInterface t v) := by
 unfold Instr.makeInterface
 refine (quiet_und t).bind' fun d => ?_
 split <;> first | exact quiet_ret _ | exact quiet_stuck _
theorem quiet_unary (op : UnOp) (v : Value) : Quiet (Op.unary op v) := by
 unfold Op.unary
 split <;> first | exact quiet_ret _ | exact quiet_stuck _ | exact quiet_uns _ | skip
end Go.Hw

/-
 The kinds of operations: those that only compute, those that only read, the others.
-/
set_option linter.unusedSimpArgs false
set_option linter.unusedVariables false
namespace Go.Hw
open Go
inductive Cl where
 | pure | read | eff
def isPtrT (P : Program) (t : TypeId) : Bool := match P.underlying t with | some (.pointer _) => true | _ => false
def isReadT (P : Program) (t : TypeId) : Bool := match P.underlying t with | some (.int _) | some .string => true | _ => false
def clsO (P : Program) (o : Oper) : Cl :=
 match o.op with
 | .move _ | .assign _ | .pick .. | .nilCheck _ | .fieldAddr .. | .indexAddr .. | .index .. | .slice .. => .pure
 | .binOp _ t _ _ _ => bif isPtrT P t then .read else .pure
 | .unOp .. | .build .. | .field .. | .extract .. | .makeInterface .. => .pure
 | .convert _ d _ => bif isReadT P d then .read else .eff
 | .load .. | .lookup .. => .read
 | .call ⟨.builtin .len, _, _⟩ | .call ⟨.builtin .min, _, _⟩ | .call ⟨.builtin .max, _, _⟩ => .read
 | _ => .eff
def Only (v : Value) (h : Hp) : Value → Hp → Prop := fun x h' => x = v ∧ h' = h
theorem yd_v {P : Program} {o : Oper} {e : Operand → Value} {s : Sem Value} (hs : execOp e o = do let x ← s; Pure.pure (Next.value x)) {h : Hp} {v : Value} (hk : opS P o e h (Only v h)) : Yd P o e h v := by
 unfold opS at hk
 unfold Yd
 rw [hs, swp_bind'] at hk ⊢
 exact swp_mono _ h (fun x h' hx => ⟨congrArg Next.value hx.1, hx.2⟩) hk
theorem opV {P : Program} {o : Oper} (hc : clsO P o ≠ .eff) {e : Operand → Value} {h : Hp} {v : Value} (hk : opS P o e h (Only v h)) : Yd P o e h v := by
 obtain ⟨dst, op, type, pos, after, guard⟩ := o
 cases op <;> first | exact absurd rfl hc | exact yd_v rfl hk | skip
 case move x => exact ⟨congrArg Next.value hk.1, hk.2⟩
 case assign x => exact ⟨congrArg Next.value hk.1, hk.2⟩
 case pick c a b =>
  unfold opS at hk
  unfold Yd
  simp only [execOp, swp_bind'] at hk ⊢
  generalize e c = y at hk ⊢
  cases y <;> first | exact ⟨congrArg Next.value hk.1, hk.2⟩ | exact hk.elim
 case nilCheck x =>
  unfold opS at hk
  unfold Yd
  simp only [execOp] at hk ⊢
  generalize e x = y at hk ⊢
  cases y
  case pointer p =>
   cases p with
   | none => exact hk.elim
   | some a => exact ⟨congrArg Next.value hk.1, hk.2⟩
  case nilFunc => exact hk.elim
  case nilIface => exact hk.elim
  case func fn first cap =>
   cases fn
   case method name =>
    simp only [] at hk ⊢
    cases hf : first[0]? with
    | none => rw [hf] at hk; exact ⟨congrArg Next.value hk.1, hk.2⟩
    | some u =>
     rw [hf] at hk
     cases u
     case nilIface => exact hk.elim
     case iface t w =>
      simp only [swp_bind'] at hk ⊢
      refine swp_mono _ h (fun p h' hp => ?_) hk
      refine swp_mono _ _ (fun q h' hq => ?_) hp
      split
      ·rename_i hne; rw [if_pos hne] at hq; simp only [swp_bind'] at hq; exact hq.elim
      ·rename_i hne; rw [if_neg hne] at hq; exact ⟨congrArg Next.value hq.1, hq.2⟩
     all_goals exact ⟨congrArg Next.value hk.1, hk.2⟩
   all_goals exact ⟨congrArg Next.value hk.1, hk.2⟩
  all_goals exact ⟨congrArg Next.value hk.1, hk.2⟩
 case call c =>
  obtain ⟨cal, args, ts⟩ := c
  cases cal with
  | value f => exact absurd rfl hc
  | invoke r m => exact absurd rfl hc
  | builtin b =>
   cases b <;> first | exact absurd rfl hc | exact yd_v rfl hk
theorem only_eq {v : Value} {h : Hp} : (fun x => Only v h x h) = fun x => x = v := by funext x; simp [Only]
theorem someAny_s {P : Program} {E : Nat → Bool} {o : Oper} {ρ : Env} {h : Hp} {K : Value → Hp → Prop} {s : Sem Value} (hs : execOp (evD ρ) o = do let x ← s; Pure.pure (Next.value x)) (hq : Quiet s)
  (hk : someAny ρ P o h K) : ∃ v, K v h ∧ ∀ h', someAny ρ P o h' (Only v h') := by
 unfold someAny at hk
 cases hb : okAll ρ o.op.operands.toList && !isSel o.op with
 | false => rw [hb] at hk; exact hk.elim
 | true =>
  rw [hb] at hk
  simp only [cond_true, opS] at hk
  rw [hs, swp_bind'] at hk
  obtain ⟨v, hv, hall⟩ := hq.one hk
  refine ⟨v, hv, fun h' => ?_⟩
  unfold someAny
  rw [hb]
  simp only [cond_true, opS]
  rw [hs, swp_bind']
  exact hall h'
theorem detK {P : Program} {E : Nat → Bool} {o : Oper} (hc : clsO P o ≠ .eff) {ρ : Env} {h : Hp} {K : Value → Hp → Prop} (hk : opK P E o ρ h K) :
  ∃ v, K v h ∧ opK P E o ρ h (Only v h) ∧ (clsO P o = .pure → ∀ h', opK P E o ρ h' (Only v h')) := by
 obtain ⟨dst, op, type, pos, after, guard⟩ := o
 have fin : ∀ (G : (Value → Prop) → Prop), Det G → G (fun v => K v h) → ∃ v, K v h ∧ G fun x => x = v := fun G hd hg => hd _ hg
 have tr : ∀ (G : (Value → Prop) → Prop) (v : Value), (G fun x => x = v) → ∀ h', G fun x => Only v h' x h' := fun G v hg h' => by rw [only_eq]; exact hg
 cases op <;> first | exact absurd rfl hc | skip
 case move x =>
  obtain ⟨v, hv, hg⟩ := fin (fun F => mv ρ x F) (det_mv fun v => det_ret v) hk
  exact ⟨v, hv, tr _ _ hg h, fun _ h' => tr (fun F => mv ρ x F) _ hg h'⟩
 case assign x =>
  obtain ⟨v, hv, hg⟩ := fin (fun F => mv ρ x F) (det_mv fun v => det_ret v) hk
  exact ⟨v, hv, tr _ _ hg h, fun _ h' => tr (fun F => mv ρ x F) _ hg h'⟩
 case pick c a b =>
  let G : (Value → Prop) → Prop := fun F => mv ρ c fun vc => mv ρ a fun va => mv ρ b fun vb => xB (some vc) fun c => bif c then F va else F vb
  obtain ⟨v, hv, hg⟩ := fin G (det_mv fun _ => det_mv fun _ => det_mv fun _ => det_xB fun _ => det_cond (det_ret _) (det_ret _)) hk
  exact ⟨v, hv, tr G _ hg h, fun _ h' => tr G _ hg h'⟩
 case nilCheck x =>
  let G : (Value → Prop) → Prop := fun F => mv ρ x fun v => nilK v F
  obtain ⟨v, hv, hg⟩ := fin G (det_mv fun _ => det_nilK) hk
  exact ⟨v, hv, tr G _ hg h, fun _ h' => tr G _ hg h'⟩
 case fieldAddr s x f =>
  let G : (Value → Prop) → Prop := fun F => mv ρ x fun v => faK P s f v F
  obtain ⟨v, hv, hg⟩ := fin G (det_mv fun _ => det_faK) hk
  exact ⟨v, hv, tr G _ hg h, fun _ h' => tr G _ hg h'⟩
 case indexAddr t x i =>
  let G : (Value → Prop) → Prop := fun F => mv ρ x fun v => mv ρ i fun vi => iaK P t v vi F
  obtain ⟨v, hv, hg⟩ := fin G (det_mv fun _ => det_mv fun _ => det_iaK) hk
  exact ⟨v, hv, tr G _ hg h, fun _ h' => tr G _ hg h'⟩
 case index t x i =>
  let G : (Value → Prop) → Prop := fun F => mv ρ x fun v => mv ρ i fun vi => ixK P t v vi F
  obtain ⟨v, hv, hg⟩ := fin G (det_mv fun _ => det_mv fun _ => det_ixK) hk
  exact ⟨v, hv, tr G _ hg h, fun _ h' => tr G _ hg h'⟩
 case slice t x lo hi mx =>
  let G : (Value → Prop) → Prop := fun F => mv ρ x fun v => mvo ρ lo fun vl => mvo ρ hi fun vh => mvo ρ mx fun vm => slK P t v vl vh vm F
  obtain ⟨v, hv, hg⟩ := fin G (det_mv fun _ => det_mvo fun _ => det_mvo fun _ => det_mvo fun _ => det_slK) hk
  exact ⟨v, hv, tr G _ hg h, fun _ h' => tr G _ hg h'⟩
 case binOp op t x y u =>
  let G : Hp → (Value → Prop) → Prop := fun h F => mv ρ x fun vx => mv ρ y fun vy => bif isIfT P t then binIf op (isC y) vx vy F else bif isFuT P t then binFu op vx vy F else binK P op t vx vy h F
  obtain ⟨v, hv, hg⟩ := fin (G h) (det_mv fun _ => det_mv fun _ => det_cond det_binIf (det_cond det_binFu det_binK)) hk
  refine ⟨v, hv, tr (G h) _ hg h, fun hp h' => tr (G h') _ ?_ h'⟩
  have hp' : (match P.underlying t with | some (.pointer _) => false | _ => true) = true := by
   simp only [clsO, isPtrT] at hp
   split
   ·rename_i hu; simp [hu] at hp
   ·rfl
  show mv ρ x fun vx => mv ρ y fun vy => bif isIfT P t then binIf op (isC y) vx vy (fun x => x = v) else bif isFuT P t then binFu op vx vy (fun x => x = v) else binK P op t vx vy h' fun x => x = v
  obtain ⟨h1, hg⟩ := mv_some hg
  obtain ⟨h2, hg⟩ := mv_some hg
  obtain ⟨a, ha⟩ := Option.isSome_iff_exists.1 h1
  obtain ⟨b, hb⟩ := Option.isSome_iff_exists.1 h2
  unfold mv vK
  rw [ha, hb]
  simp only [evD, ha, hb, Option.getD_some] at hg
  cases hi : isIfT P t with
  | true => simp only [hi, cond_true] at hg ⊢; exact hg
  | false =>
   simp only [hi, cond_false] at hg ⊢
   cases hf : isFuT P t with
   | true => simp only [hf, cond_true] at hg ⊢; exact hg
   | false => simp only [hf, cond_false] at hg ⊢; exact binK_heap hp' hg
 case load t x =>
  let G : (Value → Prop) → Prop := fun F => mv ρ x fun v => bif (P.underlying t).isSome then ldK P t v h (fun v _ => F v) else False
  have hG : Det G := by
   refine det_mv fun v => det_cond ?_ det_false
   unfold ldK
   split
   ·exact det_nn fun a => det_ldT
   ·exact det_false
  obtain ⟨v, hv, hg⟩ := fin G hG hk
  exact ⟨v, hv, tr G _ hg h, fun hp => by cases hp⟩
 case lookup t x i ok =>
  let G : (Value → Prop) → Prop := fun F => mv ρ x fun v => mv ρ i fun vi => lkK P t v vi ok h F
  obtain ⟨v, hv, hg⟩ := fin G (det_mv fun _ => det_mv fun _ => det_lkK) hk
  exact ⟨v, hv, tr G _ hg h, fun hp => by cases hp⟩
 case convert s d x =>
  let G : (Value → Prop) → Prop := fun F => mv ρ x fun v => cvK P s d v h fun v _ => F v
  have hd : isReadT P d = true := by
   simp only [clsO] at hc
   cases hi : isReadT P d with
   | false => simp [hi] at hc
   | true => rfl
  have hG : Det G := by
   refine det_mv fun v => ?_
   unfold cvK
   split
   ·split <;> first | exact det_cond (det_ret _) det_false | exact det_false
   ·split
    ·exact det_cond (det_ret _) det_false
    ·split
     ·split
      ·exact det_b2s
      ·exact det_false
     ·exact det_false
    ·exact det_false
   all_goals first
    | exact det_false
    | (rename_i hu; unfold isReadT at hd; rw [hu] at hd; cases hd)
  have hk' : G fun v => K v h := by
   refine cast (congrArg (mv ρ x) (funext fun v => ?_)) hk
   unfold cvK
   split <;> first
    | rfl
    | (rename_i hu; unfold isReadT at hd; rw [hu] at hd; cases hd)
  obtain ⟨v, hv, hg⟩ := fin G hG hk'
  refine ⟨v, hv, ?_, fun hp => by simp [clsO, hd] at hp⟩
  have := tr G _ hg h
  refine cast (congrArg (mv ρ x) (funext fun u => ?_)) this
  unfold cvK
  split <;> first
   | rfl
   | (rename_i hu; unfold isReadT at hd; rw [hu] at hd; cases hd)
 case unOp op t x =>
  obtain ⟨v, hv, hall⟩ := someAny_s (E := E) (s := Op.unary op (evD ρ x)) rfl (quiet_unary _ _) hk
  exact ⟨v, hv, hall h, fun _ h' => hall h'⟩
 case build t ps =>
  obtain ⟨v, hv, hall⟩ := someAny_s (E := E) (s := Instr.build t (ps.map fun (i, x) => (i, evD ρ x))) rfl (quiet_build _ _) hk
  exact ⟨v, hv, hall h, fun _ h' => hall h'⟩
 case field t x f =>
  obtain ⟨v, hv, hall⟩ := someAny_s (E := E) (s := Instr.field t (evD ρ x) f) rfl (quiet_field _ _ _) hk
  exact ⟨v, hv, hall h, fun _ h' => hall h'⟩
 case extract x i =>
  let G : (Value → Prop) → Prop := fun F => mv ρ x fun v => exK P type v i F
  obtain ⟨v, hv, hg⟩ := fin G (det_mv fun _ => det_exK) hk
  exact ⟨v, hv, tr G _ hg h, fun _ h' => tr G _ hg h'⟩
 case makeInterface t x =>
  obtain ⟨v, hv, hall⟩ := someAny_s (E := E) (s := Instr.makeInterface t (evD ρ x)) rfl (quiet_iface _ _) hk
  exact ⟨v, hv, hall h, fun _ h' => hall h'⟩
 case call c =>
  obtain ⟨cal, args, ts⟩ := c
  cases cal with
  | value f => exact absurd rfl hc
  | invoke r m => exact absurd rfl hc
  | builtin b =>
   have hkb : knownB b = true := by cases b <;> first | rfl | exact absurd rfl hc
   have hk2 : mvs ρ args.toList [] fun vs => bltK P b ts.toList vs h K := by
    have := hk
    simp only [opK, hkb, cond_true] at this
    exact this
   have main : ∀ (G : List Value → (Value → Prop) → Prop), (∀ l, Det (G l)) → (∀ l (K : Value → Hp → Prop), bltK P b ts.toList l h K = G l fun v => K v h) →
     ∃ v, K v h ∧ opK P E ⟨dst, .call ⟨.builtin b, args, ts⟩, type, pos, after, guard⟩ ρ h (Only v h) := by
    intro G hG hb
    have hk' : mvs ρ args.toList [] fun vs => G vs fun v => K v h := by
     have : (fun vs => G vs fun v => K v h) = fun vs => bltK P b ts.toList vs h K := by funext vs; rw [hb]
     rw [this]; exact hk2
    obtain ⟨v, hv, hg⟩ := fin (fun F => mvs ρ args.toList [] fun vs => G vs F) (det_mvs hG) hk'
    refine ⟨v, hv, ?_⟩
    have := tr (fun F => mvs ρ args.toList [] fun vs => G vs F) _ hg h
    show bif knownB b then mvs ρ args.toList [] fun vs => bltK P b ts.toList vs h (Only v h) else _
    rw [hkb]
    show mvs ρ args.toList [] fun vs => bltK P b ts.toList vs h (Only v h)
    have e : (fun vs => G vs fun x => Only v h x h) = fun vs => bltK P b ts.toList vs h (Only v h) := by funext vs; rw [hb]
    rw [← e]; exact this
   cases b <;> first | exact absurd rfl hc | skip
   ·-- len
    have := main (fun l F => match (.len : Builtin), ts.toList, l with | .len, t :: _, [v] => lenK P t v h fun n => F (.int .i64 n) | _, _, _ => False) ?_ ?_
    ·obtain ⟨v, hv, hg⟩ := this; exact ⟨v, hv, hg, fun hp => by cases hp⟩
    ·intro l; split <;> first | exact det_lenK | exact det_false
    ·intro l K; unfold bltK; split <;> simp_all
   ·have := main (fun l F => mmsK mx l F) (fun l => det_mmsK) (fun l K => rfl)
    obtain ⟨v, hv, hg⟩ := this; exact ⟨v, hv, hg, fun hp => by cases hp⟩
   ·have := main (fun l F => mmsK mn l F) (fun l => det_mmsK) (fun l K => rfl)
    obtain ⟨v, hv, hg⟩ := this; exact ⟨v, hv, hg, fun hp => by cases hp⟩
end Go.Hw

/-
 Regions that leave their order open: one order is walked; what is read is read again behind each effect that may come first.
-/
set_option linter.unusedSimpArgs false
set_option linter.unusedVariables false
namespace Go.Hw
open Go
def maskOf (acc : List Nat) : List Edge → Nat
 | [] => 0
 | e :: l => bif Region.binds .any e then Nat.lor (Nat.lor (Nat.shiftLeft 1 e.on) (acc.getD e.on 0)) (maskOf acc l) else maskOf acc l
def masks : List Oper → List Nat → List Nat
 | [], acc => acc
 | o :: l, acc => masks l (acc ++ [maskOf acc o.after.toList])
def bit (m j : Nat) : Bool := Nat.beq (Nat.land (Nat.shiftRight m j) 1) 1
theorem bit_eq (m j : Nat) : bit m j = m.testBit j := by
 unfold bit
 have h : Nat.land (Nat.shiftRight m j) 1 = (m >>> j) % 2 := by
  show (m >>> j) &&& 1 = _
  rw [Nat.and_one_is_mod]
 rw [h, Nat.testBit_eq_decide_div_mod_eq, Nat.shiftRight_eq_div_pow]
 cases hd : Nat.beq (m / 2 ^ j % 2) 1 with
 | true => simp [Nat.eq_of_beq_eq_true hd]
 | false => simp [Nat.ne_of_beq_eq_false hd]
theorem maskOf_bit {acc : List Nat} {j : Nat} : ∀ {l : List Edge}, bit (maskOf acc l) j = true →
  ∃ e ∈ l, Region.binds .any e = true ∧ (e.on = j ∨ bit (acc.getD e.on 0) j = true) := by
 intro l
 induction l with
 | nil => intro h; rw [bit_eq] at h; simp [maskOf] at h
 | cons e l ih =>
  intro h
  simp only [maskOf] at h
  cases hb : Region.binds .any e with
  | false =>
   rw [hb] at h
   obtain ⟨e', h1, h2⟩ := ih h
   exact ⟨e', List.mem_cons_of_mem _ h1, h2⟩
  | true =>
   rw [hb, bit_eq] at h
   simp only [cond_true] at h
   have h' : (((1 <<< e.on) ||| acc.getD e.on 0) ||| maskOf acc l).testBit j = true := h
   simp only [Nat.testBit_or, Bool.or_eq_true] at h'
   rcases h' with (h1 | h1) | h1
   ·refine ⟨e, List.mem_cons_self .., hb, .inl ?_⟩
    rw [Nat.one_shiftLeft, Nat.testBit_two_pow] at h1
    simpa using h1
   ·exact ⟨e, List.mem_cons_self .., hb, .inr (by rw [bit_eq]; exact h1)⟩
   ·obtain ⟨e', h1, h2⟩ := ih (by rw [bit_eq]; exact h1)
    exact ⟨e', List.mem_cons_of_mem _ h1, h2⟩
theorem masks_pre : ∀ (l : List Oper) (acc : List Nat), ∃ r, masks l acc = acc ++ r ∧ r.length = l.length ∧
  ∀ i o, l[i]? = some o → (masks l acc)[acc.length + i]? = some (maskOf ((masks l acc).take (acc.length + i)) o.after.toList) := by
 intro l
 induction l with
 | nil => intro acc; exact ⟨[], by simp [masks], rfl, by intro i o h; simp at h⟩
 | cons x l ih =>
  intro acc
  obtain ⟨r, h1, h2, h3⟩ := ih (acc ++ [maskOf acc x.after.toList])
  have hm : masks (x :: l) acc = masks l (acc ++ [maskOf acc x.after.toList]) := rfl
  refine ⟨maskOf acc x.after.toList :: r, by rw [hm, h1]; simp, by simp [h2], ?_⟩
  intro i o ho
  cases i with
  | zero =>
   simp at ho; subst ho
   rw [hm, h1]
   simp
  | succ i =>
   simp at ho
   have := h3 i o ho
   rw [hm]
   simp only [List.length_append, List.length_cons, List.length_nil, Nat.zero_add] at this
   have e : acc.length + (i + 1) = acc.length + 1 + i := by omega
   rw [e]; exact this
theorem masks_get {l : List Oper} {i : Nat} {o : Oper} (h : l[i]? = some o) : (masks l []).getD i 0 = maskOf ((masks l []).take i) o.after.toList := by
 obtain ⟨r, h1, h2, h3⟩ := masks_pre l []
 have := h3 i o h
 simp only [List.length_nil, Nat.zero_add] at this
 rw [List.getD_eq_getElem?_getD, this]; rfl
def Closed (ops : List Oper) (D : Nat → Prop) : Prop := ∀ i o, ops[i]? = some o → D i → ∀ e ∈ o.after.toList, Region.binds .any e = true → D e.on
theorem closed_bits {ops : List Oper} {D : Nat → Prop} (hc : Closed ops D) : ∀ (i : Nat) (o : Oper), ops[i]? = some o →
  (∀ e ∈ o.after.toList, Region.binds .any e = true → D e.on) → ∀ j, bit ((masks ops []).getD i 0) j = true → D j := by
 intro i
 induction i using Nat.strongRecOn with
 | _ i ih =>
  intro o ho hd j hb
  rw [masks_get ho] at hb
  obtain ⟨e, he, hbind, h⟩ := maskOf_bit hb
  rcases h with h | h
  ·subst h; exact hd e he hbind
  ·have hlt : e.on < i := by
    rcases Nat.lt_or_ge e.on i with h' | h'
    ·exact h'
    ·exfalso
     have hz : ((masks ops []).take i).getD e.on 0 = 0 := by
      have hn : ¬ e.on < i := by omega
      rw [List.getD_eq_getElem?_getD, List.getElem?_take, if_neg hn]; rfl
     rw [hz, bit_eq] at h; simp at h
   have hg : ((masks ops []).take i).getD e.on 0 = (masks ops []).getD e.on 0 := by
    rw [List.getD_eq_getElem?_getD, List.getD_eq_getElem?_getD, List.getElem?_take_of_lt hlt]
   rw [hg] at h
   have hi : i < ops.length := (List.getElem?_eq_some_iff.1 ho).1
   obtain ⟨o', ho'⟩ : ∃ o', ops[e.on]? = some o' := ⟨_, List.getElem?_eq_getElem (by omega)⟩
   exact ih e.on hlt o' ho' (fun e' he' hb' => hc e.on o' ho' (hd e he hbind) e' he' hb') j h
def lk (ops : List Oper) (o : Oper) : List Nat :=
 (o.op.operands.toList.filterMap fun | .tmp t => some t | _ => none) ++ (match o.guard with | some (g, _) => (gdstL ops g).toList | none => [])
def dstNot (d : Option Nat) (l : List Nat) : Bool := match d with
 | some d => !l.contains d
 | none => true
def dstNe (d e : Option Nat) : Bool := match d, e with
 | some d, some e => !Nat.beq d e
 | _, _ => true
def apartB (ops : List Oper) (x y : Oper) : Bool := dstNot x.dst (lk ops y) && dstNot y.dst (lk ops x) && dstNe x.dst y.dst
theorem ev_put {ρ : Env} {d : Option Nat} {v : Value} {x : Operand} (h : ∀ t, x = .tmp t → d ≠ some t) : ev (putd ρ d v) x = ev ρ x := by
 cases x with
 | tmp t =>
  cases d with
  | none => rfl
  | some d =>
   have hne : ¬ t = d := fun e => h t rfl (by rw [e])
   simp only [ev, putd]
   cases hb : Nat.beq t d with
   | true => exact absurd (Nat.eq_of_beq_eq_true hb) hne
   | false => rfl
 | const c => rfl
 | global g => rfl
 | func f => rfl
theorem lk_op {ops : List Oper} {o : Oper} {d : Option Nat} (h : dstNot d (lk ops o) = true) {x : Operand} (hx : x ∈ o.op.operands.toList) : ∀ t, x = .tmp t → d ≠ some t := by
 rintro t rfl rfl
 simp only [dstNot, Bool.not_eq_true', lk, List.contains_eq_mem, decide_eq_false_iff_not, List.mem_append, not_or] at h
 exact h.1 (List.mem_filterMap.2 ⟨_, hx, rfl⟩)
theorem okAll_put {ρ : Env} {d : Option Nat} {v : Value} : ∀ {l : List Operand}, (∀ x ∈ l, ∀ t, x = .tmp t → d ≠ some t) → okAll (putd ρ d v) l = okAll ρ l := by
 intro l
 induction l with
 | nil => intro _; rfl
 | cons x l ih =>
  intro h
  simp only [okAll]
  rw [ev_put (h x (List.mem_cons_self ..)), ih fun y hy => h y (List.mem_cons_of_mem _ hy)]
theorem exec_put {ρ : Env} {d : Option Nat} {v : Value} {o : Oper} (hs : isSel o.op = false) (h : ∀ x ∈ o.op.operands.toList, ∀ t, x = .tmp t → d ≠ some t) :
  execOp (evD (putd ρ d v)) o = execOp (evD ρ) o :=
 execOp_congr o (by intro cs b e; rw [e] at hs; cases hs) fun x hx => by
  unfold evD; rw [ev_put (h x (by simpa using hx))]
theorem putd_comm {ρ : Env} {d e : Option Nat} {u v : Value} (h : dstNe d e = true) : putd (putd ρ d u) e v = putd (putd ρ e v) d u := by
 cases d with
 | none => rfl
 | some d =>
  cases e with
  | none => rfl
  | some e =>
   funext t
   simp only [putd]
   simp only [dstNe, Bool.not_eq_true'] at h
   have hne := Nat.ne_of_beq_eq_false h
   cases h1 : Nat.beq t e <;> cases h2 : Nat.beq t d <;> simp
   exact absurd ((Nat.eq_of_beq_eq_true h2).symm.trans (Nat.eq_of_beq_eq_true h1)) hne
section
variable {P : Program} {n : Nat} {ops : Array Oper}
def YdS (P : Program) (n : Nat) (ops : Array Oper) (o : Oper) (ρ : Env) (h : Hp) (v : Value) : Prop :=
 okDst n o.dst = true ∧
 match o.guard with
 | none => (isSel o.op = false ∧ okAll ρ o.op.operands.toList = true) ∧ Yd P o (evD ρ) h v
 | some (j, want) => ∃ c, (gdst ops j).bind ρ = some c ∧
   (if blOf c = some want then (isSel o.op = false ∧ okAll ρ o.op.operands.toList = true) ∧ Yd P o (evD ρ) h v else v = undef)
theorem YdS.step {o : Oper} {ρ : Env} {h : Hp} {v : Value} {X : Env → Hp → Prop} (hy : YdS P n ops o ρ h v) (hx : X (putd ρ o.dst v) h) : stepS P n ops o ρ h X := by
 obtain ⟨hd, hy⟩ := hy
 unfold stepS
 cases hg : o.guard with
 | none => rw [hg] at hy; exact ⟨⟨hy.1.1, hy.1.2, hd⟩, hy.2.opS hx⟩
 | some g =>
  obtain ⟨j, want⟩ := g
  rw [hg] at hy
  obtain ⟨c, hc, hy⟩ := hy
  refine ⟨c, hc, ?_⟩
  by_cases e : blOf c = some want
  ·rw [if_pos e] at hy ⊢; exact ⟨⟨hy.1.1, hy.1.2, hd⟩, hy.2.opS hx⟩
  ·rw [if_neg e] at hy ⊢; subst hy; exact ⟨hd, hx⟩
theorem YdS.one {o : Oper} {ρ : Env} {h : Hp} {v v' : Value} (hy : YdS P n ops o ρ h v) (hy' : YdS P n ops o ρ h v') (hr : Real h) : v = v' := by
 obtain ⟨hd, hy⟩ := hy
 obtain ⟨_, hy'⟩ := hy'
 cases hg : o.guard with
 | none => rw [hg] at hy hy'; exact hy.2.one hy'.2 hr
 | some g =>
  obtain ⟨j, want⟩ := g
  rw [hg] at hy hy'
  obtain ⟨c, hc, hy⟩ := hy
  obtain ⟨c', hc', hy'⟩ := hy'
  rw [hc] at hc'
  simp only [Option.some.injEq] at hc'
  subst hc'
  by_cases e : blOf c = some want
  ·rw [if_pos e] at hy hy'; exact hy.2.one hy'.2 hr
  ·rw [if_neg e] at hy hy'; rw [hy, hy']
theorem gdst_put {o : Oper} {ρ : Env} {d : Option Nat} {u : Value} {j : Nat} {w : Bool} (hg : o.guard = some (j, w)) (h : dstNot d (lk ops.toList o) = true) :
  (gdst ops j).bind (putd ρ d u) = (gdst ops j).bind ρ := by
 rw [← gdstL_eq]
 cases hd : gdstL ops.toList j with
 | none => rfl
 | some e =>
  cases d with
  | none => rfl
  | some d =>
   have hne : e ≠ d := by
    rintro rfl
    simp [dstNot, lk, hg, hd] at h
   simp only [Option.bind_some, putd]
   cases hb : Nat.beq e d with
   | true => exact absurd (Nat.eq_of_beq_eq_true hb) hne
   | false => rfl
theorem YdS_put {o : Oper} {ρ : Env} {d : Option Nat} {u : Value} (h : dstNot d (lk ops.toList o) = true) (hp : Hp) (v : Value) :
  YdS P n ops o (putd ρ d u) hp v ↔ YdS P n ops o ρ hp v := by
 have hop : ∀ x ∈ o.op.operands.toList, ∀ t, x = .tmp t → d ≠ some t := fun x hx => lk_op h hx
 unfold YdS
 have core : ((isSel o.op = false ∧ okAll (putd ρ d u) o.op.operands.toList = true) ∧ Yd P o (evD (putd ρ d u)) hp v) ↔
   ((isSel o.op = false ∧ okAll ρ o.op.operands.toList = true) ∧ Yd P o (evD ρ) hp v) := by
  rw [okAll_put hop]
  constructor
  ·rintro ⟨⟨h1, h2⟩, h3⟩; unfold Yd at h3; rw [exec_put h1 hop] at h3; exact ⟨⟨h1, h2⟩, h3⟩
  ·rintro ⟨⟨h1, h2⟩, h3⟩; refine ⟨⟨h1, h2⟩, ?_⟩; unfold Yd; rw [exec_put h1 hop]; exact h3
 cases hg : o.guard with
 | none => simp only []; rw [core]
 | some g =>
  obtain ⟨j, want⟩ := g
  simp only []
  rw [gdst_put hg h, core]
theorem stepS_put {o : Oper} {ρ : Env} {d : Option Nat} {u : Value} {h : Hp} {Z : Env → Hp → Prop} (hl : dstNot d (lk ops.toList o) = true) (hn : dstNe d o.dst = true)
  (hs : stepS P n ops o (putd ρ d u) h Z) : stepS P n ops o ρ h fun ρ' h' => Z (putd ρ' d u) h' := by
 have hop : ∀ x ∈ o.op.operands.toList, ∀ t, x = .tmp t → d ≠ some t := fun x hx => lk_op hl hx
 have core : runS P n o (putd ρ d u) h Z → runS P n o ρ h fun ρ' h' => Z (putd ρ' d u) h' := by
  rintro ⟨⟨h1, h2, h3⟩, hs⟩
  rw [okAll_put hop] at h2
  refine ⟨⟨h1, h2, h3⟩, ?_⟩
  unfold opS at hs ⊢
  rw [exec_put h1 hop] at hs
  exact opS_mono (o := o) (e := evD ρ) (fun v h' hx => by show Z (putd (putd ρ o.dst v) d u) h'; rw [← putd_comm hn]; exact hx) hs
 unfold stepS at hs ⊢
 cases hg : o.guard with
 | none => rw [hg] at hs; exact core hs
 | some g =>
  obtain ⟨j, want⟩ := g
  rw [hg] at hs
  obtain ⟨c, hc, hs⟩ := hs
  rw [gdst_put hg hl] at hc
  refine ⟨c, hc, ?_⟩
  by_cases e : blOf c = some want
  ·rw [if_pos e] at hs ⊢; exact core hs
  ·rw [if_neg e] at hs ⊢; exact ⟨hs.1, by show Z (putd (putd ρ o.dst undef) d u) h; rw [← putd_comm hn]; exact hs.2⟩
theorem stepS_put' {o : Oper} {ρ : Env} {d : Option Nat} {u : Value} {h : Hp} {X : Env → Hp → Prop} (hl : dstNot d (lk ops.toList o) = true) (hn : dstNe d o.dst = true)
  (hs : stepS P n ops o ρ h fun ρ' h' => X (putd ρ' d u) h') : stepS P n ops o (putd ρ d u) h X := by
 have hop : ∀ x ∈ o.op.operands.toList, ∀ t, x = .tmp t → d ≠ some t := fun x hx => lk_op hl hx
 have core : (runS P n o ρ h fun ρ' h' => X (putd ρ' d u) h') → runS P n o (putd ρ d u) h X := by
  rintro ⟨⟨h1, h2, h3⟩, hs⟩
  refine ⟨⟨h1, by rw [okAll_put hop]; exact h2, h3⟩, ?_⟩
  unfold opS at hs ⊢
  rw [exec_put h1 hop]
  exact opS_mono (o := o) (e := evD ρ) (fun v h' hx => by rw [putd_comm hn]; exact hx) hs
 unfold stepS at hs ⊢
 cases hg : o.guard with
 | none => rw [hg] at hs; exact core hs
 | some g =>
  obtain ⟨j, want⟩ := g
  rw [hg] at hs
  obtain ⟨c, hc, hs⟩ := hs
  refine ⟨c, by rw [gdst_put hg hl]; exact hc, ?_⟩
  by_cases e : blOf c = some want
  ·rw [if_pos e] at hs ⊢; exact core hs
  ·rw [if_neg e] at hs ⊢; exact ⟨hs.1, by rw [putd_comm hn]; exact hs.2⟩
theorem stepS_get {o : Oper} {ρ : Env} {h : Hp} {X : Env → Hp → Prop} (hs : stepS P n ops o ρ h X) (hr : Real h) : ∃ v h', X (putd ρ o.dst v) h' ∧ Real h' := by
 have core : runS P n o ρ h X → ∃ v h', X (putd ρ o.dst v) h' ∧ Real h' := fun hs => opS_get hs.2 hr
 unfold stepS at hs
 cases hg : o.guard with
 | none => rw [hg] at hs; exact core hs
 | some g =>
  obtain ⟨j, want⟩ := g
  rw [hg] at hs
  obtain ⟨c, hc, hs⟩ := hs
  by_cases e : blOf c = some want
  ·rw [if_pos e] at hs; exact core hs
  ·rw [if_neg e] at hs; exact ⟨_, h, hs.2, hr⟩
theorem stepS_shape {o : Oper} {ρ : Env} {h : Hp} {X : Env → Hp → Prop} (hs : stepS P n ops o ρ h X) : stepS P n ops o ρ h fun ρ' h' => X ρ' h' ∧ ∃ v, ρ' = putd ρ o.dst v := by
 have core : runS P n o ρ h X → runS P n o ρ h fun ρ' h' => X ρ' h' ∧ ∃ v, ρ' = putd ρ o.dst v := fun hs => ⟨hs.1, opS_mono (fun v h' hx => ⟨hx, v, rfl⟩) hs.2⟩
 unfold stepS at hs ⊢
 cases hg : o.guard with
 | none => rw [hg] at hs; exact core hs
 | some g =>
  obtain ⟨j, want⟩ := g
  rw [hg] at hs
  obtain ⟨c, hc, hs⟩ := hs
  refine ⟨c, hc, ?_⟩
  by_cases e : blOf c = some want
  ·rw [if_pos e] at hs ⊢; exact core hs
  ·rw [if_neg e] at hs ⊢; exact ⟨hs.1, hs.2, _, rfl⟩
end
end Go.Hw

/-
 One order stands for all.
-/
set_option linter.unusedSimpArgs false
set_option linter.unusedVariables false
namespace Go.Hw
open Go
section
variable {P : Program} {n : Nat} {ops : Array Oper} {Qn : Env → Hp → Prop}
abbrev Watch := List (Nat × (Hp → Prop))
def Cs (P : Program) (n : Nat) (ops : Array Oper) (Qn : Env → Hp → Prop) : Watch → List Nat → Env → Hp → Prop
 | _, [], ρ, h => Qn ρ h
 | W, i :: l, ρ, h =>
  match ops.toList[i]? with
  | none => False
  | some o =>
   match clsO P o with
   | .pure => ∃ v, (∀ h', YdS P n ops o ρ h' v) ∧ Cs P n ops Qn W l (putd ρ o.dst v) h
   | .read => ∃ v, YdS P n ops o ρ h v ∧ Cs P n ops Qn ((i, fun h' => YdS P n ops o ρ h' v) :: W) l (putd ρ o.dst v) h
   | .eff => stepS P n ops o ρ h fun ρ' h' => (∀ r ∈ W, bit ((masks ops.toList []).getD i 0) r.1 = false → r.2 h') ∧ Cs P n ops Qn W l ρ' h'
theorem Cs_weaken : ∀ (l : List Nat) (W W' : Watch) (ρ : Env) (h : Hp), (∀ r ∈ W', r ∈ W) → Cs P n ops Qn W l ρ h → Cs P n ops Qn W' l ρ h := by
 intro l
 induction l with
 | nil => intro W W' ρ h _ hc; exact hc
 | cons i l ih =>
  intro W W' ρ h hs hc
  unfold Cs at hc ⊢
  cases ho : ops.toList[i]? with
  | none => rw [ho] at hc; exact hc
  | some o =>
   rw [ho] at hc
   simp only [] at hc ⊢
   cases hcl : clsO P o with
   | pure => rw [hcl] at hc; obtain ⟨v, h1, h2⟩ := hc; exact ⟨v, h1, ih _ _ _ _ hs h2⟩
   | read =>
    rw [hcl] at hc; obtain ⟨v, h1, h2⟩ := hc
    refine ⟨v, h1, ih _ _ _ _ ?_ h2⟩
    intro r hr
    cases hr with
    | head => exact List.mem_cons_self ..
    | tail _ hm => exact List.mem_cons_of_mem _ (hs r hm)
   | eff =>
    rw [hcl] at hc
    exact stepS_mono (fun ρ' h' ⟨h1, h2⟩ => ⟨fun r hr => h1 r (hs r hr), ih _ _ _ _ hs h2⟩) hc
def passOk (P : Program) (ops : List Oper) (j i : Nat) : Bool :=
 match ops[j]?, ops[i]? with
 | some x, some y => apartB ops x y && (match clsO P x, clsO P y with
  | .eff, .pure => true
  | .eff, _ => false
  | _, _ => true)
 | _, _ => false
theorem pass_parts {j i : Nat} {x y : Oper} (hj : ops.toList[j]? = some x) (hi : ops.toList[i]? = some y) (h : passOk P ops.toList j i = true) :
  dstNot x.dst (lk ops.toList y) = true ∧ dstNot y.dst (lk ops.toList x) = true ∧ dstNe x.dst y.dst = true ∧ (clsO P x = .eff → clsO P y = .pure) := by
 unfold passOk at h
 rw [hj, hi] at h
 simp only [apartB, Bool.and_eq_true] at h
 refine ⟨h.1.1.1, h.1.1.2, h.1.2, ?_⟩
 intro e
 have := h.2
 rw [e] at this
 cases hc : clsO P y with
 | pure => rfl
 | read => rw [hc] at this; cases this
 | eff => rw [hc] at this; cases this
theorem dstNe_symm {d e : Option Nat} (h : dstNe d e = true) : dstNe e d = true := by
 cases d <;> cases e <;> first | rfl | skip
 simp only [dstNe, Bool.not_eq_true'] at h ⊢
 rename_i a b
 cases hb : Nat.beq b a with
 | false => rfl
 | true => have := Nat.eq_of_beq_eq_true hb; subst this; simp at h
theorem frontP_ex {i : Nat} {y : Oper} (hi : ops.toList[i]? = some y) (hy : clsO P y = .pure) : ∀ (L1 L2 : List Nat) (W : Watch) (ρ : Env) (h : Hp),
  (∀ j ∈ L1, passOk P ops.toList j i = true) → Real h → Cs P n ops Qn W (L1 ++ i :: L2) ρ h → ∃ v, ∀ h', YdS P n ops y ρ h' v := by
 intro L1
 induction L1 with
 | nil =>
  intro L2 W ρ h _ _ hc
  simp only [List.nil_append] at hc
  unfold Cs at hc
  rw [hi] at hc
  simp only [hy] at hc
  obtain ⟨v, h1, _⟩ := hc
  exact ⟨v, h1⟩
 | cons j L1 ih =>
  intro L2 W ρ h hp hr hc
  simp only [List.cons_append] at hc
  unfold Cs at hc
  cases hj : ops.toList[j]? with
  | none => rw [hj] at hc; exact hc.elim
  | some x =>
   obtain ⟨p1, p2, p3, p4⟩ := pass_parts hj hi (hp j (List.mem_cons_self ..))
   have hp' : ∀ k ∈ L1, passOk P ops.toList k i = true := fun k hk => hp k (List.mem_cons_of_mem _ hk)
   rw [hj] at hc
   simp only [] at hc
   have back : ∀ (u : Value), (∃ v, ∀ h', YdS P n ops y (putd ρ x.dst u) h' v) → ∃ v, ∀ h', YdS P n ops y ρ h' v := by
    rintro u ⟨v, hv⟩; exact ⟨v, fun h' => (YdS_put p1 h' v).1 (hv h')⟩
   cases hcl : clsO P x with
   | pure => rw [hcl] at hc; obtain ⟨u, _, h2⟩ := hc; exact back u (ih _ _ _ _ hp' hr h2)
   | read => rw [hcl] at hc; obtain ⟨u, _, h2⟩ := hc; exact back u (ih _ _ _ _ hp' hr h2)
   | eff =>
    rw [hcl] at hc
    obtain ⟨u, h', ⟨_, h2⟩, hr'⟩ := stepS_get hc hr
    exact back u (ih _ _ _ _ hp' hr' h2)
theorem frontP {i : Nat} {y : Oper} (hi : ops.toList[i]? = some y) (hy : clsO P y = .pure) {h0 : Hp} (hr : Real h0) : ∀ (L1 L2 : List Nat) (W : Watch) (ρ : Env) (h : Hp) (v : Value),
  (∀ j ∈ L1, passOk P ops.toList j i = true) → (∀ h', YdS P n ops y ρ h' v) → Cs P n ops Qn W (L1 ++ i :: L2) ρ h → Cs P n ops Qn W (L1 ++ L2) (putd ρ y.dst v) h := by
 intro L1
 induction L1 with
 | nil =>
  intro L2 W ρ h v _ hv hc
  simp only [List.nil_append] at hc ⊢
  unfold Cs at hc
  rw [hi] at hc
  simp only [hy] at hc
  obtain ⟨v', h1, h2⟩ := hc
  have : v' = v := (h1 h0).one (hv h0) hr
  subst this; exact h2
 | cons j L1 ih =>
  intro L2 W ρ h v hp hv hc
  simp only [List.cons_append] at hc ⊢
  unfold Cs at hc ⊢
  cases hj : ops.toList[j]? with
  | none => rw [hj] at hc; exact hc.elim
  | some x =>
   obtain ⟨p1, p2, p3, p4⟩ := pass_parts hj hi (hp j (List.mem_cons_self ..))
   have hp' : ∀ k ∈ L1, passOk P ops.toList k i = true := fun k hk => hp k (List.mem_cons_of_mem _ hk)
   rw [hj] at hc
   simp only [] at hc ⊢
   have hv' : ∀ u h', YdS P n ops y (putd ρ x.dst u) h' v := fun u h' => (YdS_put p1 h' v).2 (hv h')
   cases hcl : clsO P x with
   | pure =>
    rw [hcl] at hc; obtain ⟨u, h1, h2⟩ := hc
    refine ⟨u, fun h' => (YdS_put p2 h' u).2 (h1 h'), ?_⟩
    rw [← putd_comm p3]
    exact ih _ _ _ _ _ hp' (hv' u) h2
   | read =>
    rw [hcl] at hc; obtain ⟨u, h1, h2⟩ := hc
    refine ⟨u, (YdS_put p2 h u).2 h1, ?_⟩
    have e : (fun h' => YdS P n ops x (putd ρ y.dst v) h' u) = fun h' => YdS P n ops x ρ h' u := by
     funext h'; exact propext (YdS_put p2 h' u)
    rw [e, ← putd_comm p3]
    exact ih _ _ _ _ _ hp' (hv' u) h2
   | eff =>
    rw [hcl] at hc
    simp only [] at hc ⊢
    -- the effect, with the value's slot already written
    refine stepS_put' (d := y.dst) (u := v) p2 (dstNe_symm p3) (stepS_mono ?_ (stepS_shape hc))
    rintro ρ' h' ⟨⟨hw, h2⟩, u, rfl⟩
    exact ⟨hw, ih _ _ _ _ _ hp' (hv' u) h2⟩
theorem frontR {i : Nat} {y : Oper} (hi : ops.toList[i]? = some y) (hy : clsO P y = .read) : ∀ (L1 L2 : List Nat) (W : Watch) (ρ : Env) (h : Hp),
  (∀ j ∈ L1, passOk P ops.toList j i = true) → Cs P n ops Qn W (L1 ++ i :: L2) ρ h → ∃ v, YdS P n ops y ρ h v ∧ Cs P n ops Qn W (L1 ++ L2) (putd ρ y.dst v) h := by
 intro L1
 induction L1 with
 | nil =>
  intro L2 W ρ h _ hc
  simp only [List.nil_append] at hc ⊢
  unfold Cs at hc
  rw [hi] at hc
  simp only [hy] at hc
  obtain ⟨v, h1, h2⟩ := hc
  exact ⟨v, h1, Cs_weaken _ _ _ _ _ (fun r hr => List.mem_cons_of_mem _ hr) h2⟩
 | cons j L1 ih =>
  intro L2 W ρ h hp hc
  simp only [List.cons_append] at hc ⊢
  unfold Cs at hc
  cases hj : ops.toList[j]? with
  | none => rw [hj] at hc; exact hc.elim
  | some x =>
   obtain ⟨p1, p2, p3, p4⟩ := pass_parts hj hi (hp j (List.mem_cons_self ..))
   have hp' : ∀ k ∈ L1, passOk P ops.toList k i = true := fun k hk => hp k (List.mem_cons_of_mem _ hk)
   rw [hj] at hc
   simp only [] at hc
   cases hcl : clsO P x with
   | pure =>
    rw [hcl] at hc; obtain ⟨u, h1, h2⟩ := hc
    obtain ⟨v, h3, h4⟩ := ih _ _ _ _ hp' h2
    refine ⟨v, (YdS_put p1 h v).1 h3, ?_⟩
    unfold Cs; rw [hj]; simp only [hcl]
    refine ⟨u, fun h' => (YdS_put p2 h' u).2 (h1 h'), ?_⟩
    rw [← putd_comm p3]; exact h4
   | read =>
    rw [hcl] at hc; obtain ⟨u, h1, h2⟩ := hc
    obtain ⟨v, h3, h4⟩ := ih _ _ _ _ hp' h2
    refine ⟨v, (YdS_put p1 h v).1 h3, ?_⟩
    unfold Cs; rw [hj]; simp only [hcl]
    refine ⟨u, (YdS_put p2 h u).2 h1, ?_⟩
    have e : (fun h' => YdS P n ops x (putd ρ y.dst v) h' u) = fun h' => YdS P n ops x ρ h' u := by
     funext h'; exact propext (YdS_put p2 h' u)
    rw [e, ← putd_comm p3]; exact h4
   | eff => have := p4 hcl; rw [hy] at this; cases this
theorem frontE {i : Nat} {y : Oper} (hi : ops.toList[i]? = some y) (hy : clsO P y = .eff) : ∀ (L1 L2 : List Nat) (W : Watch) (ρ : Env) (h : Hp),
  (∀ j ∈ L1, passOk P ops.toList j i = true ∧ bit ((masks ops.toList []).getD i 0) j = false) → Cs P n ops Qn W (L1 ++ i :: L2) ρ h →
  stepS P n ops y ρ h fun ρ' h' => (∀ r ∈ W, bit ((masks ops.toList []).getD i 0) r.1 = false → r.2 h') ∧ Cs P n ops Qn W (L1 ++ L2) ρ' h' := by
 intro L1
 induction L1 with
 | nil =>
  intro L2 W ρ h _ hc
  simp only [List.nil_append] at hc ⊢
  unfold Cs at hc
  rw [hi] at hc
  simp only [hy] at hc
  exact hc
 | cons j L1 ih =>
  intro L2 W ρ h hp hc
  simp only [List.cons_append] at hc ⊢
  unfold Cs at hc
  cases hj : ops.toList[j]? with
  | none => rw [hj] at hc; exact hc.elim
  | some x =>
   obtain ⟨pj, bj⟩ := hp j (List.mem_cons_self ..)
   obtain ⟨p1, p2, p3, p4⟩ := pass_parts hj hi pj
   have hp' : ∀ k ∈ L1, passOk P ops.toList k i = true ∧ bit ((masks ops.toList []).getD i 0) k = false := fun k hk => hp k (List.mem_cons_of_mem _ hk)
   rw [hj] at hc
   simp only [] at hc
   cases hcl : clsO P x with
   | pure =>
    rw [hcl] at hc; obtain ⟨u, h1, h2⟩ := hc
    refine stepS_mono ?_ (stepS_shape (stepS_put p1 p3 (ih _ _ _ _ hp' h2)))
    rintro ρ' h' ⟨⟨hw, h4⟩, w, rfl⟩
    refine ⟨hw, ?_⟩
    unfold Cs; rw [hj]; simp only [hcl]
    exact ⟨u, fun h'' => (YdS_put p2 h'' u).2 (h1 h''), h4⟩
   | read =>
    rw [hcl] at hc; obtain ⟨u, h1, h2⟩ := hc
    refine stepS_mono ?_ (stepS_shape (stepS_put p1 p3 (ih _ _ _ _ hp' h2)))
    rintro ρ' h' ⟨⟨hw, h4⟩, w, rfl⟩
    refine ⟨fun r hr => hw r (List.mem_cons_of_mem _ hr), ?_⟩
    unfold Cs; rw [hj]; simp only [hcl]
    refine ⟨u, (YdS_put p2 h' u).2 (hw _ (List.mem_cons_self ..) bj), ?_⟩
    have e : (fun h' => YdS P n ops x (putd ρ y.dst w) h' u) = fun h' => YdS P n ops x ρ h' u := by
     funext h'; exact propext (YdS_put p2 h' u)
    rw [e]; exact h4
   | eff => have := p4 hcl; rw [hy] at this; cases this
def edgesOk (n : Nat) : List Oper → Nat → Bool
 | [], _ => true
 | o :: l, i => (o.after.toList.all fun e => !Region.binds .any e || Nat.blt e.on i) && edgesOk n l (i + 1)
def passAll (P : Program) (ops : List Oper) (M : List Nat) (i : Nat) : List Nat → Bool
 | [] => true
 | j :: l => (bit (M.getD i 0) j || passOk P ops j i) && passAll P ops M i l
def orderOk (P : Program) (ops : List Oper) (M : List Nat) : List Nat → List Nat → Bool
 | _, [] => true
 | seen, i :: l => passAll P ops M i seen && orderOk P ops M (seen ++ [i]) l
def noDup : List Nat → Bool
 | [] => true
 | x :: l => !l.contains x && noDup l
def coversTo (l : List Nat) : Nat → Bool
 | 0 => true
 | n + 1 => l.contains n && coversTo l n
def orderGood (P : Program) (ops : List Oper) (l : List Nat) : Bool :=
 edgesOk ops.length ops 0 && noDup l && coversTo l ops.length && (Nat.ble l.length ops.length && l.all fun i => Nat.blt i ops.length) && orderOk P ops (masks ops []) [] l
theorem edgesOk_get {n : Nat} : ∀ {l : List Oper} {k i : Nat} {o : Oper}, edgesOk n l k = true → l[i]? = some o → ∀ e ∈ o.after.toList, Region.binds .any e = true → e.on < k + i := by
 intro l
 induction l with
 | nil => intro k i o _ h; simp at h
 | cons x l ih =>
  intro k i o h hi e he hb
  simp only [edgesOk, Bool.and_eq_true, List.all_eq_true] at h
  cases i with
  | zero =>
   simp at hi; subst hi
   have := h.1 e he
   rw [hb] at this
   simpa using this
  | succ i =>
   simp at hi
   have := ih h.2 hi e he hb
   omega
theorem coversTo_mem {l : List Nat} : ∀ {n : Nat}, coversTo l n = true → ∀ i, i < n → i ∈ l := by
 intro n
 induction n with
 | zero => intro _ i h; omega
 | succ n ih =>
  intro h i hi
  simp only [coversTo, Bool.and_eq_true, List.contains_eq_mem, decide_eq_true_eq] at h
  by_cases e : i = n
  ·subst e; exact h.1
  ·exact ih h.2 i (by omega)
theorem noDup_nodup : ∀ {l : List Nat}, noDup l = true → l.Nodup := by
 intro l
 induction l with
 | nil => intro _; exact List.nodup_nil
 | cons x l ih =>
  intro h
  simp only [noDup, Bool.and_eq_true, Bool.not_eq_true', List.contains_eq_mem, decide_eq_false_iff_not] at h
  exact List.nodup_cons.2 ⟨h.1, ih h.2⟩
theorem passAll_mem {M : List Nat} {i : Nat} {l : List Oper} : ∀ {s : List Nat}, passAll P l M i s = true → ∀ j ∈ s, bit (M.getD i 0) j = true ∨ passOk P l j i = true := by
 intro s
 induction s with
 | nil => intro _ j h; cases h
 | cons x s ih =>
  intro h j hj
  simp only [passAll, Bool.and_eq_true, Bool.or_eq_true] at h
  cases hj with
  | head => exact h.1
  | tail _ hm => exact ih h.2 j hm
theorem orderOk_get {M : List Nat} {ol : List Oper} : ∀ {l seen : List Nat}, orderOk P ol M seen l = true → ∀ (A : List Nat) (i : Nat) (B : List Nat), l = A ++ i :: B →
  ∀ j ∈ seen ++ A, bit (M.getD i 0) j = true ∨ passOk P ol j i = true := by
 intro l
 induction l with
 | nil => intro seen _ A i B h; simp at h
 | cons x l ih =>
  intro seen h A i B he j hj
  simp only [orderOk, Bool.and_eq_true] at h
  cases A with
  | nil =>
   simp only [List.nil_append, List.cons.injEq] at he
   obtain ⟨rfl, rfl⟩ := he
   exact passAll_mem h.1 j (by simpa using hj)
  | cons a A =>
   simp only [List.cons_append, List.cons.injEq] at he
   obtain ⟨rfl, rfl⟩ := he
   exact ih h.2 A i B rfl j (by simpa using hj)
end
end Go.Hw

/-
 A region that draws its order, by one order.
-/
set_option linter.unusedSimpArgs false
set_option linter.unusedVariables false
namespace Go.Hw
open Go
theorem getD_lt {l : Array Bool} {i : Nat} (h : l.getD i true = false) : i < l.size ∧ l.getD i false = false := by
 rcases Nat.lt_or_ge i l.size with hi | hi
 ·refine ⟨hi, ?_⟩
  simp only [Array.getD_eq_getD_getElem?, Array.getElem?_eq_getElem hi, Option.getD_some] at h ⊢; exact h
 ·rw [Array.getD_eq_getD_getElem?, Array.getElem?_eq_none hi] at h; cases h
theorem getD_tt {l : Array Bool} {i : Nat} (h : l.getD i true = true) (hi : i < l.size) : l.getD i false = true := by
 simp only [Array.getD_eq_getD_getElem?, Array.getElem?_eq_getElem hi, Option.getD_some] at h ⊢; exact h
theorem mem_ready {ops : Array Oper} {listed : Array Bool} {i : Nat} : i ∈ Region.ready .any ops listed ↔
  i < ops.size ∧ listed.getD i true = false ∧ ∃ o, ops[i]? = some o ∧ ∀ e ∈ o.after.toList, Region.binds .any e = true → listed.getD e.on false = true := by
 unfold Region.ready
 simp only [List.mem_filter, List.mem_range, Bool.and_eq_true, Bool.not_eq_true']
 refine and_congr_right fun hi => and_congr_right fun hl => ?_
 rw [Array.getElem?_eq_getElem hi]
 simp only [Option.map_some, Option.getD_some, Array.all_eq_true', Bool.or_eq_true, Bool.not_eq_true', Option.some.injEq, exists_eq_left']
 constructor
 ·intro h e he hb
  rcases h e (by simpa using he) with h' | h'
  ·rw [h'] at hb; cases hb
  ·exact h'
 ·intro h e he
  cases hb : Region.binds .any e with
  | false => exact .inl rfl
  | true => exact .inr (h e (by simpa using he) hb)
section
variable {P : Program} {n id : Nat} {ops : Array Oper} {dr : Bool} {a0 : Act} {w0 : World} {Q : Exit → Env → Hp → Prop}
theorem any_order {l : List Nat} (hg : orderGood P ops.toList l = true) : ∀ (fuel : Nat) (listed : Array Bool) (ρ : Env) (a : Act) (w : World),
  listed.size = ops.size → Ag n ρ a → Sm (.region id ops dr) a0 w0 a w →
  Closed ops.toList (fun i => listed.getD i false = true) →
  (l.filter fun i => !listed.getD i true).length ≤ fuel →
  Cs P n ops (fun ρ h => Q .normal ρ h) [] (l.filter fun i => !listed.getD i true) ρ (hpOf w) →
  wpAny P .any ops (EndR n (.region id ops dr) a0 w0 Q) fuel listed a w := by
 simp only [orderGood, Bool.and_eq_true] at hg
 obtain ⟨⟨⟨⟨he, hnd⟩, hcov⟩, _⟩, hord⟩ := hg
 have hnd := noDup_nodup hnd
 have done : ∀ (listed : Array Bool) (ρ : Env) (a : Act) (w : World), listed.size = ops.size → Ag n ρ a → Sm (.region id ops dr) a0 w0 a w → Region.ready .any ops listed = [] →
   Cs P n ops (fun ρ h => Q .normal ρ h) [] (l.filter fun i => !listed.getD i true) ρ (hpOf w) → EndR n (.region id ops dr) a0 w0 Q .normal a w := by
  intro listed ρ a w hsz ha hs hr hc
  have all : ∀ i, i < ops.size → listed.getD i true = true := by
   intro i
   induction i using Nat.strongRecOn with
   | _ i ih =>
    intro hi
    cases hl : listed.getD i true with
    | true => rfl
    | false =>
     exfalso
     have : i ∈ Region.ready .any ops listed := by
      refine mem_ready.2 ⟨hi, hl, ops[i], Array.getElem?_eq_getElem hi, ?_⟩
      intro e hem hb
      have hlt := edgesOk_get he (i := i) (by rw [Array.getElem?_toList]; exact Array.getElem?_eq_getElem hi) e hem hb
      have := ih e.on (by omega) (by omega)
      exact getD_tt this (by omega)
     rw [hr] at this; cases this
  have hz : (l.filter fun i => !listed.getD i true) = [] := by
   rw [List.filter_eq_nil_iff]
   intro i _ hi
   simp only [Bool.not_eq_true'] at hi
   have := all i (by have := (getD_lt hi).1; omega)
   rw [this] at hi; cases hi
  rw [hz] at hc
  exact ⟨ρ, ha, hs, hc⟩
 intro fuel
 induction fuel with
 | zero =>
  intro listed ρ a w hsz ha hs hcl hlen hc
  have hz : (l.filter fun i => !listed.getD i true) = [] := List.length_eq_zero_iff.1 (by omega)
  refine ⟨?_, ?_⟩
  ·rw [List.eq_nil_iff_forall_not_mem]
   intro i hi
   obtain ⟨h1, h2, _⟩ := mem_ready.1 hi
   have hm : i ∈ l.filter fun i => !listed.getD i true := List.mem_filter.2 ⟨coversTo_mem hcov i (by simpa using h1), by rw [h2]; rfl⟩
   rw [hz] at hm; cases hm
  ·rw [hz] at hc; exact ⟨ρ, ha, hs, hc⟩
 | succ fuel ih =>
  intro listed ρ a w hsz ha hs hcl hlen hc
  refine ⟨fun hr => done listed ρ a w hsz ha hs hr hc, ?_⟩
  intro i hi
  obtain ⟨h1, h2, o, ho, hdeps⟩ := mem_ready.1 hi
  have hil : i ∈ l := coversTo_mem hcov i (by simpa using h1)
  obtain ⟨A, B, hAB⟩ := List.append_of_mem hil
  have hoL : ops.toList[i]? = some o := by simpa using ho
  have hf : (l.filter fun i => !listed.getD i true) = (A.filter fun i => !listed.getD i true) ++ i :: (B.filter fun i => !listed.getD i true) := by
   rw [hAB, List.filter_append, List.filter_cons]; simp [h2]
  have hiA : i ∉ A ∧ i ∉ B := by
   rw [hAB] at hnd
   have := List.nodup_append.1 hnd
   refine ⟨fun h => ?_, fun h => ?_⟩
   ·exact this.2.2 i h i (List.mem_cons_self ..) rfl
   ·exact (List.nodup_cons.1 this.2.1).1 h
  have hset : ∀ (L : List Nat), i ∉ L → (L.filter fun k => !(listed.setIfInBounds i true).getD k true) = L.filter fun k => !listed.getD k true := by
   intro L hL
   apply List.filter_congr
   intro k hk
   have hne : i ≠ k := fun e => hL (e ▸ hk)
   simp [Array.getD_eq_getD_getElem?, Array.getElem?_setIfInBounds_ne hne]
  have hf' : (l.filter fun k => !(listed.setIfInBounds i true).getD k true) = (A.filter fun i => !listed.getD i true) ++ (B.filter fun i => !listed.getD i true) := by
   have hi' : (listed.setIfInBounds i true).getD i true = true := by
    rw [Array.getD_eq_getD_getElem?, Array.getElem?_setIfInBounds_self]
    split <;> rfl
   rw [hAB, List.filter_append, List.filter_cons, hset A hiA.1, hset B hiA.2]; simp [hi']
  have hpass : ∀ j ∈ A.filter (fun i => !listed.getD i true), passOk P ops.toList j i = true ∧ bit ((masks ops.toList []).getD i 0) j = false := by
   intro j hj
   obtain ⟨hjA, hjl⟩ := List.mem_filter.1 hj
   simp only [Bool.not_eq_true'] at hjl
   have hb : bit ((masks ops.toList []).getD i 0) j = false := by
    cases hb : bit ((masks ops.toList []).getD i 0) j with
    | false => rfl
    | true =>
     have := closed_bits hcl i o hoL hdeps j hb
     rw [(getD_lt hjl).2] at this; cases this
   refine ⟨?_, hb⟩
   rcases orderOk_get hord A i B hAB j (by simpa using hjA) with h | h
   ·rw [hb] at h; cases h
   ·exact h
  rw [hf] at hc
  have step : stepS P n ops o ρ (hpOf w) fun ρ' h' => Cs P n ops (fun ρ h => Q .normal ρ h) [] ((A.filter fun i => !listed.getD i true) ++ (B.filter fun i => !listed.getD i true)) ρ' h' := by
   cases hk : clsO P o with
   | pure =>
    obtain ⟨v, hv⟩ := frontP_ex hoL hk _ _ _ _ _ (fun j hj => (hpass j hj).1) ⟨w, rfl⟩ hc
    exact (hv _).step (frontP hoL hk ⟨w, rfl⟩ _ _ _ _ _ v (fun j hj => (hpass j hj).1) hv hc)
   | read =>
    obtain ⟨v, hv, hc⟩ := frontR hoL hk _ _ _ _ _ (fun j hj => (hpass j hj).1) hc
    exact hv.step hc
   | eff => exact stepS_mono (fun _ _ h => h.2) (frontE hoL hk _ _ _ _ _ hpass hc)
  refine stepS_wp ho ha step ?_
  intro d hd v ρ' w' hp _ hag hX
  refine ih _ ρ' _ w' (by simp [hsz]) hag ⟨hs.1.put (List.mem_of_getElem? hoL) hd v, hs.2.put hp d v⟩ ?_ ?_ ?_
  ·intro k o' ho' hD e hem hb
   have up : ∀ m, listed.getD m false = true → (listed.setIfInBounds i true).getD m false = true := by
    intro m hm
    rw [Array.getD_eq_getD_getElem?] at hm ⊢
    by_cases hmi : i = m
    ·subst hmi
     rw [Array.getElem?_setIfInBounds_self, if_pos (by omega)]; rfl
    ·rw [Array.getElem?_setIfInBounds_ne hmi]; exact hm
   by_cases hki : i = k
   ·subst hki
    rw [hoL] at ho'; cases ho'
    exact up _ (hdeps e hem hb)
   ·have : listed.getD k false = true := by
     rw [Array.getD_eq_getD_getElem?] at hD ⊢
     rw [Array.getElem?_setIfInBounds_ne hki] at hD; exact hD
    exact up _ (hcl k o' ho' this e hem hb)
  ·rw [hf']
   rw [hf] at hlen
   simp only [List.length_append, List.length_cons] at hlen ⊢
   omega
  ·rw [hf']; exact hX
theorem D_draw_Cs (hm : P.follows .mixedOrders = true) {l : List Nat} (hg : orderGood P ops.toList l = true) {ρ : Env} {h : Hp}
  (hc : Cs P n ops (fun ρ h => Q .normal ρ h) [] l ρ h) : D P n (.region id ops true) ρ h Q := by
 intro a w ha hw
 subst hw
 refine wp_region_any hm ?_
 have hl : ∀ k, (Array.replicate ops.size false).getD k true = !decide (k < ops.size) := by
  intro k
  rw [Array.getD_eq_getD_getElem?]
  by_cases hk : k < ops.size <;> simp [hk]
 have := any_order (P := P) (n := n) (id := id) (dr := true) (a0 := a) (w0 := w) (Q := Q) hg ops.size (Array.replicate ops.size false) ρ a { w with drawn := w.drawn + 1 } (by simp) ha ⟨fun _ _ => rfl, rfl, rfl, rfl⟩ ?_ ?_ ?_
 ·exact this
 ·intro i o _ hD
  rw [Array.getD_eq_getD_getElem?] at hD
  by_cases hk : i < ops.size <;> simp [hk] at hD
 ·refine Nat.le_trans (List.length_filter_le _ _) ?_
  simp only [orderGood, Bool.and_eq_true] at hg
  have := Nat.le_of_ble_eq_true hg.1.2.1
  simpa using this
 ·have hall : (l.filter fun k => !(Array.replicate ops.size false).getD k true) = l := by
   rw [List.filter_eq_self]
   intro k hk
   simp only [orderGood, Bool.and_eq_true, List.all_eq_true] at hg
   have := hg.1.2.2 k hk
   rw [hl k]
   have hk' : k < ops.size := by simpa using this
   simp [hk']
  rw [hall]; exact hc
end
def rechk (P : Program) (E : Nat → Bool) (o : Oper) (ρ : Env) (v : Value) : Hp → Prop := fun h' => opK P E o ρ h' (Only v h')
def andW (m : Nat) : Watch → Hp → Prop → Prop
 | [], _, X => X
 | r :: W, h, X => bif bit m r.1 then andW m W h X else r.2 h ∧ andW m W h X
def dD (P : Program) (E : Nat → Bool) (n : Nat) (all : List Oper) (M : List Nat) (X : Env → Hp → Prop) : Watch → List Nat → Env → Hp → Prop
 | _, [], ρ, h => X ρ h
 | W, i :: l, ρ, h =>
  match all[i]? with
  | none => False
  | some o =>
   match clsO P o with
   | .pure => denOp P E n all o ρ h fun ρ' h' => dD P E n all M X W l ρ' h'
   | .eff => denOp P E n all o ρ h fun ρ' h' => andW (M.getD i 0) W h' (dD P E n all M X W l ρ' h')
   | .read =>
    match o.guard with
    | none => bif okDst n o.dst then opK P E o ρ h fun v h' => dD P E n all M X ((i, rechk P E o ρ v) :: W) l (putd ρ o.dst v) h' else False
    | some (j, want) => gK ρ (gdstL all j) fun c ρ1 =>
      bif okDst n o.dst then (bif gEq c want then opK P E o ρ1 h fun v h' => dD P E n all M X ((i, rechk P E o ρ1 v) :: W) l (putd ρ1 o.dst v) h'
       else dD P E n all M X W l (putd ρ1 o.dst undef) h) else False
def denDraw (P : Program) (E : Nat → Bool) (n : Nat) (all : List Oper) (l : List Nat) (ρ : Env) (h : Hp) (X : Env → Hp → Prop) : Prop :=
 bif orderGood P all l then dD P E n all (masks all []) X [] l ρ h else False
theorem andW_some {m : Nat} {h : Hp} {X : Prop} : ∀ {W : Watch}, andW m W h X → (∀ r ∈ W, bit m r.1 = false → r.2 h) ∧ X := by
 intro W
 induction W with
 | nil => intro hx; exact ⟨fun _ hr => (by cases hr), hx⟩
 | cons r W ih =>
  intro hx
  simp only [andW] at hx
  cases hb : bit m r.1 with
  | true =>
   rw [hb] at hx
   obtain ⟨h1, h2⟩ := ih hx
   refine ⟨?_, h2⟩
   intro r' hr' hb'
   cases hr' with
   | head => rw [hb] at hb'; cases hb'
   | tail _ hmem => exact h1 r' hmem hb'
  | false =>
   rw [hb] at hx
   obtain ⟨h1, h2⟩ := ih hx.2
   refine ⟨?_, h2⟩
   intro r' hr' hb'
   cases hr' with
   | head => exact hx.1
   | tail _ hmem => exact h1 r' hmem hb'
theorem yd_of_opK {P : Program} {E : Nat → Bool} (hE : EnterOk P E) {o : Oper} (hc : clsO P o ≠ .eff) {ρ : Env} {h : Hp} {v : Value} (hk : opK P E o ρ h (Only v h)) :
  (isSel o.op = false ∧ okAll ρ o.op.operands.toList = true) ∧ Yd P o (evD ρ) h v := by
 obtain ⟨h1, h2⟩ := opK_sound hE hk
 exact ⟨h1, opV hc h2⟩
theorem Cs_more {P : Program} {n : Nat} {ops : Array Oper} {X : Env → Hp → Prop} : ∀ (l : List Nat) (W : Watch) (r0 : Nat × (Hp → Prop)) (ρ : Env) (h : Hp), (∀ h', r0.2 h') →
  Cs P n ops X W l ρ h → Cs P n ops X (r0 :: W) l ρ h := by
 have gen : ∀ (l : List Nat) (W W' : Watch) (ρ : Env) (h : Hp), (∀ r ∈ W', r ∈ W ∨ ∀ h', r.2 h') → Cs P n ops X W l ρ h → Cs P n ops X W' l ρ h := by
  intro l
  induction l with
  | nil => intro W W' ρ h _ hc; exact hc
  | cons i l ih =>
   intro W W' ρ h hs hc
   unfold Cs at hc ⊢
   cases ho : ops.toList[i]? with
   | none => rw [ho] at hc; exact hc
   | some o =>
    rw [ho] at hc
    simp only [] at hc ⊢
    cases hcl : clsO P o with
    | pure => rw [hcl] at hc; obtain ⟨v, h1, h2⟩ := hc; exact ⟨v, h1, ih _ _ _ _ hs h2⟩
    | read =>
     rw [hcl] at hc; obtain ⟨v, h1, h2⟩ := hc
     refine ⟨v, h1, ih _ _ _ _ ?_ h2⟩
     intro r hr
     cases hr with
     | head => exact .inl (List.mem_cons_self ..)
     | tail _ hm => exact (hs r hm).imp (List.mem_cons_of_mem _) id
    | eff =>
     rw [hcl] at hc
     refine stepS_mono (fun ρ' h' ⟨h1, h2⟩ => ⟨fun r hr hb => ?_, ih _ _ _ _ hs h2⟩) hc
     rcases hs r hr with hm | hall
     ·exact h1 r hm hb
     ·exact hall h'
 intro l W r0 ρ h h0 hc
 refine gen l W _ ρ h ?_ hc
 intro r hr
 cases hr with
 | head => exact .inr h0
 | tail _ hm => exact .inl hm
theorem dD_Cs {P : Program} {E : Nat → Bool} (hE : EnterOk P E) {n : Nat} {ops : Array Oper} {X : Env → Hp → Prop} : ∀ (l : List Nat) (W W' : Watch) (ρ : Env) (h : Hp),
  (∀ r' ∈ W', ∃ r ∈ W, r.1 = r'.1 ∧ ∀ h, r.2 h → r'.2 h) →
  dD P E n ops.toList (masks ops.toList []) X W l ρ h → Cs P n ops X W' l ρ h := by
 intro l
 induction l with
 | nil => intro W W' ρ h _ hd; exact hd
 | cons i l ih =>
  intro W W' ρ h hW hd
  unfold dD at hd
  unfold Cs
  cases ho : ops.toList[i]? with
  | none => rw [ho] at hd; exact hd
  | some o =>
   rw [ho] at hd
   simp only [] at hd ⊢
   cases hcl : clsO P o with
   | eff =>
    rw [hcl] at hd
    refine stepS_mono ?_ (denOp_step hE hd)
    intro ρ' h' hx
    obtain ⟨h1, h2⟩ := andW_some hx
    refine ⟨?_, ih _ _ _ _ hW h2⟩
    intro r' hr' hb
    obtain ⟨r, hr, he, himp⟩ := hW r' hr'
    exact himp _ (h1 r hr (by rw [he]; exact hb))
   | pure =>
    rw [hcl] at hd
    have hne : clsO P o ≠ .eff := by rw [hcl]; intro e; cases e
    simp only [] at hd ⊢
    unfold denOp at hd
    split at hd
    ·rename_i hg
     cases hok : okDst n o.dst with
     | false => rw [hok] at hd; exact hd.elim
     | true =>
      rw [hok] at hd
      obtain ⟨v, hv, _, hall⟩ := detK hne hd
      refine ⟨v, ?_, ih _ _ _ _ hW hv⟩
      intro h'
      refine ⟨hok, ?_⟩
      rw [hg]
      exact yd_of_opK hE hne (hall hcl h')
    ·rename_i j want hg
     obtain ⟨c, hc, hd⟩ := gK_some hd
     rw [gdstL_eq] at hc
     cases hok : okDst n o.dst with
     | false => rw [hok] at hd; exact hd.elim
     | true =>
      rw [hok] at hd
      simp only [cond_true] at hd
      cases hb : gEq (blOf c) want with
      | true =>
       rw [hb] at hd
       obtain ⟨v, hv, _, hall⟩ := detK hne hd
       refine ⟨v, ?_, ih _ _ _ _ hW hv⟩
       intro h'
       refine ⟨hok, ?_⟩
       rw [hg]
       refine ⟨c, hc, ?_⟩
       rw [if_pos (gEq_eq.1 hb)]
       exact yd_of_opK hE hne (hall hcl h')
      | false =>
       rw [hb] at hd
       refine ⟨undef, ?_, ih _ _ _ _ hW hd⟩
       intro h'
       refine ⟨hok, ?_⟩
       rw [hg]
       refine ⟨c, hc, ?_⟩
       rw [if_neg (fun e => by rw [gEq_eq.2 e] at hb; cases hb)]
   | read =>
    rw [hcl] at hd
    have hne : clsO P o ≠ .eff := by rw [hcl]; intro e; cases e
    simp only [] at hd ⊢
    split at hd
    ·rename_i hg
     cases hok : okDst n o.dst with
     | false => rw [hok] at hd; exact hd.elim
     | true =>
      rw [hok] at hd
      obtain ⟨v, hv, hone, _⟩ := detK hne hd
      refine ⟨v, ⟨hok, ?_⟩, ih _ _ _ _ ?_ hv⟩
      ·rw [hg]; exact yd_of_opK hE hne hone
      ·intro r' hr'
       cases hr' with
       | head =>
        refine ⟨_, List.mem_cons_self .., rfl, ?_⟩
        intro h' hx
        refine ⟨hok, ?_⟩
        rw [hg]; exact yd_of_opK hE hne hx
       | tail _ hmem => obtain ⟨r, hr, h1⟩ := hW r' hmem; exact ⟨r, List.mem_cons_of_mem _ hr, h1⟩
    ·rename_i j want hg
     obtain ⟨c, hc, hd⟩ := gK_some hd
     rw [gdstL_eq] at hc
     cases hok : okDst n o.dst with
     | false => rw [hok] at hd; exact hd.elim
     | true =>
      rw [hok] at hd
      simp only [cond_true] at hd
      cases hb : gEq (blOf c) want with
      | true =>
       rw [hb] at hd
       obtain ⟨v, hv, hone, _⟩ := detK hne hd
       refine ⟨v, ⟨hok, ?_⟩, ih _ _ _ _ ?_ hv⟩
       ·rw [hg]; refine ⟨c, hc, ?_⟩; rw [if_pos (gEq_eq.1 hb)]; exact yd_of_opK hE hne hone
       ·intro r' hr'
        cases hr' with
        | head =>
         refine ⟨_, List.mem_cons_self .., rfl, ?_⟩
         intro h' hx
         refine ⟨hok, ?_⟩
         rw [hg]; refine ⟨c, hc, ?_⟩; rw [if_pos (gEq_eq.1 hb)]; exact yd_of_opK hE hne hx
        | tail _ hmem => obtain ⟨r, hr, h1⟩ := hW r' hmem; exact ⟨r, List.mem_cons_of_mem _ hr, h1⟩
      | false =>
       rw [hb] at hd
       have hsk : ∀ h', YdS P n ops o ρ h' undef := by
        intro h'
        refine ⟨hok, ?_⟩
        rw [hg]
        refine ⟨c, hc, ?_⟩
        rw [if_neg (fun e => by rw [gEq_eq.2 e] at hb; cases hb)]
       refine ⟨undef, hsk h, ?_⟩
       -- what is skipped is skipped at every heap
       have := ih W W' _ _ hW hd
       exact Cs_more l W' _ _ _ (fun h' => hsk h') this
theorem D_draw {P : Program} {E : Nat → Bool} (hE : EnterOk P E) (hm : P.follows .mixedOrders = true) {n id : Nat} {ops : Array Oper} {l : List Nat} {ρ : Env} {h : Hp} {Q : Exit → Env → Hp → Prop}
  (hd : denDraw P E n ops.toList l ρ h fun ρ' h' => Q .normal ρ' h') : D P n (.region id ops true) ρ h Q := by
 unfold denDraw at hd
 cases hg : orderGood P ops.toList l with
 | false => rw [hg] at hd; exact hd.elim
 | true =>
  rw [hg] at hd
  exact D_draw_Cs hm hg (dD_Cs hE l [] [] ρ h (by intro r hr; cases hr) hd)
end Go.Hw

/-
 A whole function's code, with marks where a piece of it is taken by a text of its own.
-/
set_option linter.unusedSimpArgs false
set_option linter.unusedVariables false
namespace Go.Hw
open Go
@[reducible] def bk (b : Nat) : Addr := ⟨b, 0, none⟩
def nw (h : Hp) (o : Obj) (F : Nat → Hp → Prop) : Prop := ∀ b, h b = none → F b (upd h b o)
def both (A X : Prop) : Prop := A ∧ X
def bd (i : Int) (y : Nat) (F : Nat → Prop) : Prop := bif decide (0 ≤ i) && decide (i ≤ y) then F i.toNat else False
def codeAt : Code → List Nat → Code
 | c, [] => c
 | .seq x y, i :: p => match i with
  | 0 => codeAt x p
  | _ => codeAt y p
 | .cond _ x y, i :: p => match i with
  | 0 => codeAt x p
  | _ => codeAt y p
 | .block _ x, _ :: p => codeAt x p
 | .loop x, _ :: p => codeAt x p
 | .scope x, _ :: p => codeAt x p
 | c, _ => c
abbrev Post := Exit → Env → Hp → Prop
abbrev Xf := Env → Hp → Post → Prop
inductive Ann where
 | leaf
 | two (a b : Ann)
 | one (a : Ann)
 | ord (l : List Nat)
 | xf (T : Xf)
def Ann.l : Ann → Ann
 | .two a _ => a
 | _ => .leaf
def Ann.r : Ann → Ann
 | .two _ b => b
 | _ => .leaf
def Ann.o : Ann → Ann
 | .one a => a
 | _ => .leaf
def Ann.ordl : Ann → List Nat
 | .ord l => l
 | _ => []
def xfOr (a : Ann) (ρ : Env) (h : Hp) (Q : Post) (X : Prop) : Prop :=
 match a with
 | .xf T => T ρ h Q
 | _ => X
def mark (ρ : Env) (c : Operand) (b : Bool) : Env :=
 match c with
 | .tmp t => putd ρ (some t) (.bool b)
 | _ => ρ
def den (P : Program) (E : Nat → Bool) (n : Nat) : Code → Ann → Env → Hp → Post → Prop
 | .skip, a, ρ, h, Q => xfOr a ρ h Q (Q .normal ρ h)
 | .region _ ops draw, a, ρ, h, Q => xfOr a ρ h Q (bif draw then denDraw P E n ops.toList a.ordl ρ h fun ρ' h' => Q .normal ρ' h' else denOps P E n ops.toList ops.toList ρ h fun ρ' h' => Q .normal ρ' h')
 | .seq x y, a, ρ, h, Q => xfOr a ρ h Q (den P E n x a.l ρ h (thenQ (fun ρ' h' => den P E n y a.r ρ' h' Q) Q))
 | .cond c x y, a, ρ, h, Q => xfOr a ρ h Q (xB (ev ρ c) fun b => bif b then den P E n x a.l (mark ρ c true) h Q else den P E n y a.r (mark ρ c false) h Q)
 | .block id c, a, ρ, h, Q => xfOr a ρ h Q (den P E n c a.o ρ h (blockQ id Q))
 | .scope c, a, ρ, h, Q => xfOr a ρ h Q (den P E n c a.o ρ h (scopeQ Q))
 | .exit id, a, ρ, h, Q => xfOr a ρ h Q (Q (.exit id) ρ h)
 | .label _, a, ρ, h, Q => xfOr a ρ h Q (Q .normal ρ h)
 | .ret, a, ρ, h, Q => xfOr a ρ h Q (Q .ret ρ h)
 | _, a, ρ, h, Q => xfOr a ρ h Q False
def Sound (P : Program) (n : Nat) (T : Xf) (c : Code) : Prop := ∀ ρ h Q, T ρ h Q → D P n c ρ h Q
def annOk (P : Program) (n : Nat) : Ann → Code → Prop
 | .xf T, c => Sound P n T c
 | .two a b, .seq x y => annOk P n a x ∧ annOk P n b y
 | .two a b, .cond _ x y => annOk P n a x ∧ annOk P n b y
 | .one a, .block _ c => annOk P n a c
 | .one a, .scope c => annOk P n a c
 | _, _ => True
theorem annOk_leaf {P : Program} {n : Nat} {c : Code} : annOk P n .leaf c := by cases c <;> trivial
theorem xfOr_some {P : Program} {n : Nat} {a : Ann} {c : Code} {ρ : Env} {h : Hp} {Q : Post} {X : Prop} (ha : annOk P n a c) (hx : X → D P n c ρ h Q) (hd : xfOr a ρ h Q X) : D P n c ρ h Q := by
 cases a with
 | xf T => exact ha ρ h Q hd
 | leaf => exact hx hd
 | two a b => exact hx hd
 | one a => exact hx hd
 | ord l => exact hx hd
theorem annOk_seq {P : Program} {n : Nat} {a : Ann} {x y : Code} (ha : annOk P n a (.seq x y)) : annOk P n a.l x ∧ annOk P n a.r y := by
 cases a <;> first | exact ⟨annOk_leaf, annOk_leaf⟩ | exact ha
theorem annOk_cond {P : Program} {n : Nat} {a : Ann} {c : Operand} {x y : Code} (ha : annOk P n a (.cond c x y)) : annOk P n a.l x ∧ annOk P n a.r y := by
 cases a <;> first | exact ⟨annOk_leaf, annOk_leaf⟩ | exact ha
theorem annOk_block {P : Program} {n id : Nat} {a : Ann} {x : Code} (ha : annOk P n a (.block id x)) : annOk P n a.o x := by
 cases a <;> first | exact annOk_leaf | exact ha
theorem annOk_scope {P : Program} {n : Nat} {a : Ann} {x : Code} (ha : annOk P n a (.scope x)) : annOk P n a.o x := by
 cases a <;> first | exact annOk_leaf | exact ha
theorem mark_eq {ρ : Env} {c : Operand} {b : Bool} (h : ev ρ c = some (.bool b)) : mark ρ c b = ρ := by
 cases c with
 | tmp t => exact putd_same h
 | const v => rfl
 | global g => rfl
 | func f => rfl
theorem den_sound {P : Program} {E : Nat → Bool} (hE : EnterOk P E) (hm : P.follows .mixedOrders = true) {n : Nat} : ∀ (c : Code) (a : Ann) (ρ : Env) (h : Hp) (Q : Post),
  annOk P n a c → den P E n c a ρ h Q → D P n c ρ h Q := by
 intro c
 induction c with
 | skip => intro a ρ h Q ha hd; exact xfOr_some ha D_skip hd
 | region id ops draw =>
  intro a ρ h Q ha hd
  refine xfOr_some ha ?_ hd
  cases draw with
  | false => exact D_region hE
  | true => exact D_draw hE hm
 | seq x y ihx ihy =>
  intro a ρ h Q ha hd
  refine xfOr_some ha (fun hd => ?_) hd
  obtain ⟨h1, h2⟩ := annOk_seq ha
  refine D_seq ((ihx _ _ _ _ h1 hd).mono ?_)
  intro e ρ' h' hq
  cases e with
  | normal => exact ihy _ _ _ _ h2 hq
  | exit i => exact hq
  | goto l => exact hq
  | ret => exact hq
  | panic ch => exact hq
  | outgrown => exact hq
 | cond c x y ihx ihy =>
  intro a ρ h Q ha hd
  refine xfOr_some ha (fun hd => ?_) hd
  obtain ⟨h1, h2⟩ := annOk_cond ha
  unfold xB at hd
  split at hd
  ·rename_i b hb
   refine D_cond hb ?_
   cases b with
   | true => have := ihx _ _ _ _ h1 hd; rw [mark_eq hb] at this; exact this
   | false => have := ihy _ _ _ _ h2 hd; rw [mark_eq hb] at this; exact this
  ·exact hd.elim
 | block id c ih =>
  intro a ρ h Q ha hd
  exact xfOr_some ha (fun hd => D_block (ih _ _ _ _ (annOk_block ha) hd)) hd
 | loop c ih => intro a ρ h Q ha hd; exact xfOr_some ha False.elim hd
 | rangeFunc f ps x y ihx ihy => intro a ρ h Q ha hd; exact xfOr_some ha False.elim hd
 | exit id => intro a ρ h Q ha hd; exact xfOr_some ha D_exit hd
 | scope c ih =>
  intro a ρ h Q ha hd
  exact xfOr_some ha (fun hd => D_scope (ih _ _ _ _ (annOk_scope ha) hd)) hd
 | label l => intro a ρ h Q ha hd; exact xfOr_some ha D_label hd
 | goto l => intro a ρ h Q ha hd; exact xfOr_some ha False.elim hd
 | ret => intro a ρ h Q ha hd; exact xfOr_some ha D_ret hd
 | refuse s => intro a ρ h Q ha hd; exact xfOr_some ha False.elim hd
abbrev Sg := List (Nat × VT)
@[reducible] def Sg.T : Sg → Type
 | [] => Unit
 | [(_, t)] => t.T
 | (_, t) :: w :: r => t.T × Sg.T (w :: r)
def putO (ρ : Env) (t : Nat) (o : Option Value) : Env := fun x => bif Nat.beq x t then o else ρ x
def envN : Env := fun _ => none
def Sg.env : (s : Sg) → Sg.T s → Env
 | [], _ => envN
 | [(i, t)], x => putO envN i (some (t.mk x))
 | (i, t) :: w :: r, x => putO (Sg.env (w :: r) x.2) i (some (t.mk x.1))
def Sg.on : (s : Sg) → Env → (Sg.T s → Prop) → Prop
 | [], _, F => F ()
 | [(i, t)], ρ, F => t.on (ρ i) F
 | (i, t) :: w :: r, ρ, F => t.on (ρ i) fun x => Sg.on (w :: r) ρ fun y => F (x, y)
def restr : List Nat → Env → Env
 | [], _ => envN
 | k :: r, ρ => putO (restr r ρ) k (ρ k)
def orEnv (a b : Env) : Env := fun t => match a t with
 | some v => some v
 | none => b t
def LeE (a b : Env) : Prop := ∀ t v, a t = some v → b t = some v
theorem putO_le {a b : Env} {t : Nat} {o : Option Value} (h : LeE a b) (ho : ∀ v, o = some v → b t = some v) : LeE (putO a t o) b := by
 intro x v hx
 simp only [putO] at hx
 cases hb : Nat.beq x t with
 | true => rw [hb] at hx; have := Nat.eq_of_beq_eq_true hb; subst this; exact ho v hx
 | false => rw [hb] at hx; exact h x v hx
theorem none_le {b : Env} : LeE envN b := fun _ _ h => by cases h
theorem restr_le {ρ : Env} : ∀ {l : List Nat}, LeE (restr l ρ) ρ := by
 intro l
 induction l with
 | nil => exact none_le
 | cons k l ih => exact putO_le ih fun v h => h
theorem orEnv_le {a b c : Env} (ha : LeE a c) (hb : LeE b c) : LeE (orEnv a b) c := by
 intro t v h
 unfold orEnv at h
 cases hx : a t with
 | none => rw [hx] at h; exact hb t v h
 | some u => rw [hx] at h; cases h; exact ha t _ hx
theorem Sg.on_some : ∀ {s : Sg} {ρ : Env} {F : Sg.T s → Prop}, Sg.on s ρ F → ∃ x, LeE (Sg.env s x) ρ ∧ F x
 | [], ρ, F, h => ⟨(), none_le, h⟩
 | [(i, t)], ρ, F, h => by
  obtain ⟨x, hx, h⟩ := VT.on_some h
  refine ⟨x, putO_le none_le ?_, h⟩
  intro v hv; cases hv; exact hx
 | (i, t) :: w :: r, ρ, F, h => by
  obtain ⟨x, hx, h⟩ := VT.on_some h
  obtain ⟨y, hy, h⟩ := Sg.on_some h
  refine ⟨(x, y), putO_le hy ?_, h⟩
  intro v hv; cases hv; exact hx
theorem Sg.env_none : ∀ {s : Sg} {x y : Sg.T s} {t : Nat}, Sg.env s x t = none → Sg.env s y t = none
 | [], x, y, t, h => h
 | [(i, u)], x, y, t, h => by
  simp only [Sg.env, putO] at h ⊢
  cases hb : Nat.beq t i with
  | true => rw [hb] at h; cases h
  | false => rfl
 | (i, u) :: w :: r, x, y, t, h => by
  simp only [Sg.env, putO] at h ⊢
  cases hb : Nat.beq t i with
  | true => rw [hb] at h; cases h
  | false => rw [hb] at h; exact Sg.env_none h
theorem Sg.env_mem : ∀ {s : Sg} {x : Sg.T s} {t : Nat} {v : Value}, Sg.env s x t = some v → ∃ p ∈ s, p.1 = t
 | [], x, t, v, h => by cases h
 | [(i, u)], x, t, v, h => by
  simp only [Sg.env, putO] at h
  cases hb : Nat.beq t i with
  | true => exact ⟨_, List.mem_cons_self .., (Nat.eq_of_beq_eq_true hb).symm⟩
  | false => rw [hb] at h; cases h
 | (i, u) :: w :: r, x, t, v, h => by
  simp only [Sg.env, putO] at h
  cases hb : Nat.beq t i with
  | true => exact ⟨_, List.mem_cons_self .., (Nat.eq_of_beq_eq_true hb).symm⟩
  | false =>
   rw [hb] at h
   obtain ⟨p, hp, e⟩ := Sg.env_mem h
   exact ⟨p, List.mem_cons_of_mem _ hp, e⟩
def fixedB (c : Code) : Sg → Bool
 | [] => true
 | p :: s => !wr p.1 c && fixedB c s
theorem fixedB_mem {c : Code} : ∀ {s : Sg}, fixedB c s = true → ∀ p ∈ s, wr p.1 c = false := by
 intro s
 induction s with
 | nil => intro _ p h; cases h
 | cons q s ih =>
  intro h p hp
  simp only [fixedB, Bool.and_eq_true, Bool.not_eq_true'] at h
  cases hp with
  | head => exact h.1
  | tail _ hm => exact ih h.2 p hm
def loopT (sF sS : Sg) (c : Code) (B : Sg.T sF → Post → Sg.T sS → Hp → (Sg.T sS → Hp → Prop) → Prop) : Xf :=
 fun ρ h Q => Sg.on sF ρ fun F => Sg.on sS ρ fun S => loopP (B F fun e ρ1 h' => Q e (over ρ1 (.loop c) ρ) h') S h
def pieceT (s : Sg) (c : Code) (J : Sg.T s → Hp → Post → Prop) : Xf :=
 fun ρ h Q => Sg.on s ρ fun x => J x h fun e ρ1 h' => Q e (over ρ1 c ρ) h'
def liveQ (live : Exit → List Nat) (Q : Post) : Post := fun e ρ h => Q e (restr (live e) ρ) h
theorem piece_sound {P : Program} {n : Nat} {s : Sg} {c : Code} {J : Sg.T s → Hp → Post → Prop} (live : Exit → List Nat)
  (hJ : ∀ x h Q, J x h Q → D P n c (Sg.env s x) h (liveQ live Q)) : Sound P n (pieceT s c J) c := by
 intro ρ h Q ht
 obtain ⟨x, hx, hj⟩ := Sg.on_some ht
 have h1 := hJ x h _ hj
 have h2 : D P n c (Sg.env s x) h (fun e ρ1 h' => Q e (over ρ1 c ρ) h') := h1.mono' fun e ρ' h' hq => ⟨_, restr_le, hq⟩
 refine (h2.weaken hx).mono ?_
 rintro e ρ' h' ⟨ρ1, hq, rfl⟩
 exact hq
theorem loop_sound {P : Program} {n : Nat} {sF sS : Sg} {c : Code} {B : Sg.T sF → Post → Sg.T sS → Hp → (Sg.T sS → Hp → Prop) → Prop} (live : Exit → List Nat)
  (hF : fixedB c sF = true)
  (hB : ∀ F Q S h Φ, B F Q S h Φ → D P n c (orEnv (Sg.env sS S) (Sg.env sF F)) h (thenQ (fun ρ' h' => Sg.on sS ρ' fun S' => Φ S' h') (liveQ live Q))) :
  Sound P n (loopT sF sS c B) (.loop c) := by
 intro ρ h Q ht
 obtain ⟨F, hxF, ht⟩ := Sg.on_some ht
 obtain ⟨S, hxS, hl⟩ := Sg.on_some ht
 have h2 : D P n (.loop c) (orEnv (Sg.env sS S) (Sg.env sF F)) h (fun e ρ1 h' => Q e (over ρ1 (.loop c) ρ) h') := by
  refine D_loop (env := fun S => orEnv (Sg.env sS S) (Sg.env sF F)) (B := B F fun e ρ1 h' => Q e (over ρ1 (.loop c) ρ) h') ?_ hl
  intro s h Φ hb
  refine (hB F _ s h Φ hb).mono' ?_
  intro e ρ' h' hq
  cases e with
  | normal =>
   obtain ⟨S', hS', hphi⟩ := Sg.on_some hq
   refine ⟨ρ', fun _ _ h => h, S', ?_, hphi⟩
   intro t v htv
   unfold orEnv at htv
   cases hs' : Sg.env sS S' t with
   | some u => rw [hs'] at htv; cases htv; exact .inl (hS' t _ hs')
   | none =>
    rw [hs'] at htv
    obtain ⟨p, hp, rfl⟩ := Sg.env_mem htv
    have hw := fixedB_mem hF p hp
    cases hs : Sg.env sS s p.1 with
    | none => refine .inr ⟨hw, ?_⟩; show orEnv _ _ _ = _; unfold orEnv; rw [hs]; exact htv
    | some u => rw [Sg.env_none (y := s) hs'] at hs; cases hs
  | exit i => exact ⟨_, restr_le, hq⟩
  | goto l => exact ⟨_, restr_le, hq⟩
  | ret => exact ⟨_, restr_le, hq⟩
  | panic ch => exact hq.elim
  | outgrown => exact hq.elim
 refine (h2.weaken (orEnv_le hxS hxF)).mono ?_
 rintro e ρ' h' ⟨ρ1, hq, rfl⟩
 exact hq
end Go.Hw
