/-
 A calculus of heaps over the machine's own walk. What is proved here: if a triple holds of heaps ('swp', 'opS', 'D'), then the kit's predicate of worlds holds ('Oper.wp', 'Code.wp', 'Calls'), whatever the tape answers.
-/
import Derived.Calls
import Derived.Orders
import Derived.Scope
import Derived.Laws.Sem
import Derived.KernelRfl
set_option linter.unusedSimpArgs false
set_option linter.unusedVariables false
namespace Go.Hw
open Go
abbrev Hp := Nat → Option Obj
def hpOf (w : World) : Hp := fun b => w.heap[b]?
def Real (h : Hp) : Prop := ∃ w, hpOf w = h
def cell (h : Hp) (a : Addr) : Option Value :=
 match h a.block with
 | some (.cells c _ _) => if a.spot.isSome then none else c[a.off]?
 | _ => none
def frz (h : Hp) (a : Addr) : Bool :=
 match h a.block with
 | some (.cells _ _ (lo, hi)) => lo ≤ a.off && a.off < hi
 | _ => false
def shp (h : Hp) (r : Nat) : Option (TypeId × Nat) :=
 match h r with
 | some (.cells c e _) => some (e, c.size)
 | _ => none
def upd (h : Hp) (b : Nat) (o : Obj) : Hp := fun x => if x = b then some o else h x
def setc (h : Hp) (a : Addr) (v : Value) : Hp :=
 match h a.block with
 | some (.cells c e f) => upd h a.block (.cells (if a.spot.isSome then c else c.setIfInBounds a.off v) e f)
 | _ => h
def frzn (h : Hp) (a : Addr) (n : Nat) : Hp :=
 if n = 0 then h else
 match h a.block with
 | some (.cells c e (lo, hi)) => upd h a.block (.cells c e (if lo == hi then (a.off, a.off + n) else (min lo a.off, max hi (a.off + n))))
 | _ => h
def isRow : Obj → Bool
 | .cells .. => true
 | _ => false
def plain : Value → Bool
 | .agg _ | .tuple _ => false
 | _ => true
def Wr (h : Hp) (a : Addr) : Prop := (cell h a).isSome = true ∧ frz h a = false
theorem cell_hp (w : World) (a : Addr) : cell (hpOf w) a = w.cell? a := rfl
theorem frz_hp (w : World) (a : Addr) : frz (hpOf w) a = w.frozen? a := rfl
theorem hp_modify (w : World) (b : Nat) (f : Obj → Obj) :
  hpOf { w with heap := w.heap.modify b f } = fun x => if x = b then (hpOf w x).map f else hpOf w x := by
 funext x
 simp only [hpOf, Array.getElem?_modify]
 by_cases h : b = x
 ·subst h; simp
 ·have h' : ¬ x = b := fun e => h e.symm
  simp [h, h']
theorem setc_hp (w : World) (a : Addr) (v : Value) : hpOf (w.setCell a v) = setc (hpOf w) a v := by
 unfold World.setCell
 rw [hp_modify]
 unfold setc
 cases hb : hpOf w a.block with
 | none =>
  funext x
  by_cases h : x = a.block
  ·subst h; simp [hb]
  ·simp [h]
 | some o =>
  cases o <;> (funext x; by_cases h : x = a.block <;> simp [h, upd, hb])
theorem frzn_hp (w : World) (a : Addr) (n : Nat) : hpOf (w.freeze a n) = frzn (hpOf w) a n := by
 unfold World.freeze frzn
 by_cases hn : n = 0
 ·simp [hn]
 ·simp only [hn, if_false]
  rw [hp_modify]
  cases hb : hpOf w a.block with
  | none =>
   funext x
   by_cases h : x = a.block
   ·subst h; simp [hb]
   ·simp [h]
  | some o =>
   cases o <;> (funext x; by_cases h : x = a.block <;> simp [h, upd, hb])
theorem new_hp (w : World) (o : Obj) : hpOf { w with heap := w.heap.push o } = upd (hpOf w) w.heap.size o := by
 funext x
 simp only [hpOf, upd, Array.getElem?_push]
theorem new_none (w : World) : hpOf w w.heap.size = none := by simp [hpOf]
theorem set_hp (w : World) (r : Nat) (o o' : Obj) (h : hpOf w r = some o') :
  hpOf { w with heap := w.heap.setIfInBounds r o } = upd (hpOf w) r o := by
 funext x
 simp only [hpOf, upd, Array.getElem?_setIfInBounds]
 have hr : r < w.heap.size := by
  simp only [hpOf] at h
  exact (Array.getElem?_eq_some_iff.1 h).1
 by_cases e : r = x
 ·subst e; simp [hr]
 ·have e' : ¬ x = r := fun q => e q.symm
  simp [e, e']
def swp (P : Program) {α : Type} : Sem α → Hp → (α → Hp → Prop) → Prop
 | .pure a, h, K => K a h
 | .load _ a k, h, K => ∃ v, cell h a = some v ∧ swp P (k v) h K
 | .store _ a v k, h, K => bif plain v then Wr h a ∧ swp P k (setc h a v) K else False
 | .new o k, h, K => ∀ b, h b = none → swp P (k b) (upd h b o) K
 | .shape r k, h, K => swp P (k (shp h r)) h K
 | .freeze a n k, h, K => swp P k (frzn h a n) K
 | .frozen a k, h, K => swp P (k (frz h a)) h K
 | .getObj r k, h, K => ∃ o, h r = some o ∧ isRow o = false ∧ swp P (k o) h K
 | .setObj r o k, h, K => (∃ o', h r = some o' ∧ isRow o' = false) ∧ swp P k (upd h r o) K
 | .choose q k, h, K => bif q.forced then swp P (k 0) h K else ∀ t, swp P (k (q.cut t)) h K
 | .sys _ _, _, _ => False
 | .program k, h, K => swp P (k P) h K
 | .mark _ k, h, K => swp P k h K
 | .halt _, _, _ => False
def Kp (w w' : World) : Prop := w'.os = w.os ∧ w'.output = w.output
theorem Kp.refl (w : World) : Kp w w := ⟨rfl, rfl⟩
theorem Kp.trans {w w' w'' : World} (h1 : Kp w w') (h2 : Kp w' w'') : Kp w w'' := ⟨h2.1.trans h1.1, h2.2.trans h1.2⟩
theorem swp_run {P : Program} {α : Type} (s : Sem α) : ∀ (w : World) (K : α → Hp → Prop), swp P s (hpOf w) K →
  ∃ x w', s.run P w = .ok x w' ∧ K x (hpOf w') ∧ Kp w w' := by
 induction s with
 | pure a => intro w K h; exact ⟨a, w, rfl, h, Kp.refl w⟩
 | load m a k ih =>
  intro w K h
  obtain ⟨v, hv, hk⟩ := h
  obtain ⟨x, w', hr, hK⟩ := ih v w K hk
  refine ⟨x, w', ?_, hK⟩
  rw [cell_hp] at hv
  simp only [Sem.run, hv]; exact hr
 | store m a v k ih =>
  intro w K h
  simp only [swp] at h
  cases hp : plain v with
  | false => rw [hp] at h; exact h.elim
  | true =>
   rw [hp] at h
   obtain ⟨⟨hc, hf⟩, hk⟩ := h
   rw [← setc_hp] at hk
   obtain ⟨x, w', hr, hK⟩ := ih _ K hk
   refine ⟨x, w', ?_, hK⟩
   obtain ⟨old, ho⟩ := Option.isSome_iff_exists.1 hc
   rw [cell_hp] at ho
   rw [frz_hp] at hf
   cases v <;> simp [plain] at hp <;> simp only [Sem.run, ho, hf] <;> exact hr
 | new o k ih =>
  intro w K h
  have := h w.heap.size (new_none w)
  rw [← new_hp] at this
  obtain ⟨x, w', hr, hK⟩ := ih _ _ K this
  exact ⟨x, w', hr, hK⟩
 | shape r k ih => intro w K h; exact ih _ w K h
 | freeze a n k ih =>
  intro w K h
  have h' : swp P k (frzn (hpOf w) a n) K := h
  rw [← frzn_hp] at h'
  have hp : Kp w (w.freeze a n) := by unfold World.freeze Kp; split <;> exact ⟨rfl, rfl⟩
  obtain ⟨x, w', hr, hK, h2⟩ := ih _ K h'
  exact ⟨x, w', hr, hK, hp.trans h2⟩
 | frozen a k ih => intro w K h; exact ih _ w K h
 | getObj r k ih =>
  intro w K h
  obtain ⟨o, ho, hr, hk⟩ := h
  obtain ⟨x, w', hrun, hK⟩ := ih _ w K hk
  refine ⟨x, w', ?_, hK⟩
  have ho' : w.heap[r]? = some o := ho
  cases o <;> simp [isRow] at hr <;> simp only [Sem.run, ho'] <;> exact hrun
 | setObj r o k ih =>
  intro w K h
  obtain ⟨⟨o', ho, hr⟩, hk⟩ := h
  rw [← set_hp w r o o' ho] at hk
  obtain ⟨x, w', hrun, hK⟩ := ih _ K hk
  refine ⟨x, w', ?_, hK⟩
  have ho' : w.heap[r]? = some o' := ho
  cases o' <;> simp [isRow] at hr <;> simp only [Sem.run, ho'] <;> exact hrun
 | choose q k ih =>
  intro w K h
  simp only [swp] at h
  cases hq : q.forced with
  | true =>
   rw [hq] at h
   obtain ⟨x, w', hr, hK⟩ := ih _ w K h
   exact ⟨x, w', by simp only [Sem.run, hq]; exact hr, hK⟩
  | false =>
   rw [hq] at h
   obtain ⟨x, w', hr, hK⟩ := ih _ { w with drawn := w.drawn + 1 } K (h (w.tape w.drawn q))
   exact ⟨x, w', by simp only [Sem.run, hq]; exact hr, hK⟩
 | sys c k ih => intro w K h; exact h.elim
 | program k ih => intro w K h; exact ih _ w K h
 | mark m k ih => intro w K h; exact ih w K h
 | halt h => intro w K h; exact h.elim
theorem swp_mono {P : Program} {α : Type} (s : Sem α) : ∀ (h : Hp) {K K' : α → Hp → Prop}, (∀ x h', K x h' → K' x h') → swp P s h K → swp P s h K' := by
 induction s with
 | pure a => intro h K K' hk hs; exact hk _ _ hs
 | load m a k ih => intro h K K' hk hs; obtain ⟨v, hv, hs⟩ := hs; exact ⟨v, hv, ih v h hk hs⟩
 | store m a v k ih =>
  intro h K K' hk hs
  simp only [swp] at hs ⊢
  cases hp : plain v with
  | false => rw [hp] at hs; exact hs.elim
  | true => rw [hp] at hs; exact ⟨hs.1, ih _ hk hs.2⟩
 | new o k ih => intro h K K' hk hs; exact fun b hb => ih _ _ hk (hs b hb)
 | shape r k ih => intro h K K' hk hs; exact ih _ h hk hs
 | freeze a n k ih => intro h K K' hk hs; exact ih _ hk hs
 | frozen a k ih => intro h K K' hk hs; exact ih _ h hk hs
 | getObj r k ih => intro h K K' hk hs; obtain ⟨o, ho, hr, hs⟩ := hs; exact ⟨o, ho, hr, ih _ h hk hs⟩
 | setObj r o k ih => intro h K K' hk hs; exact ⟨hs.1, ih _ hk hs.2⟩
 | choose q k ih =>
  intro h K K' hk hs
  simp only [swp] at hs ⊢
  cases hq : q.forced with
  | true => rw [hq] at hs; exact ih _ h hk hs
  | false => rw [hq] at hs; exact fun t => ih _ h hk (hs t)
 | sys c k ih => intro h K K' hk hs; exact hs.elim
 | program k ih => intro h K K' hk hs; exact ih _ h hk hs
 | mark m k ih => intro h K K' hk hs; exact ih h hk hs
 | halt h => intro h K K' hk hs; exact hs.elim
theorem swp_bind {P : Program} {α β : Type} (s : Sem α) (f : α → Sem β) : ∀ (h : Hp) (K : β → Hp → Prop),
  swp P (s.bind f) h K = swp P s h (fun x h' => swp P (f x) h' K) := by
 induction s with
 | pure a => intro h K; rfl
 | load m a k ih => intro h K; simp only [Sem.bind, swp, ih]
 | store m a v k ih => intro h K; simp only [Sem.bind, swp, ih]
 | new o k ih => intro h K; simp only [Sem.bind, swp, ih]
 | shape r k ih => intro h K; simp only [Sem.bind, swp, ih]
 | freeze a n k ih => intro h K; simp only [Sem.bind, swp, ih]
 | frozen a k ih => intro h K; simp only [Sem.bind, swp, ih]
 | getObj r k ih => intro h K; simp only [Sem.bind, swp, ih]
 | setObj r o k ih => intro h K; simp only [Sem.bind, swp, ih]
 | choose q k ih => intro h K; simp only [Sem.bind, swp, ih]
 | sys c k ih => intro h K; rfl
 | program k ih => intro h K; simp only [Sem.bind, swp, ih]
 | mark m k ih => intro h K; simp only [Sem.bind, swp, ih]
 | halt h => intro h K; rfl
theorem swp_bind' {P : Program} {α β : Type} (s : Sem α) (f : α → Sem β) (h : Hp) (K : β → Hp → Prop) :
  swp P (s >>= f) h K = swp P s h (fun x h' => swp P (f x) h' K) := swp_bind s f h K
def HCalls (P : Program) (f : FuncId) (args : Array Value) (h : Hp) (K : Value → Hp → Prop) : Prop :=
 ∀ w, hpOf w = h → Calls P f args w (fun e w' => ∃ v, e = .returned v ∧ K v (hpOf w') ∧ Kp w w')
theorem HCalls.mono {P : Program} {f : FuncId} {args : Array Value} {h : Hp} {K K' : Value → Hp → Prop}
  (hc : HCalls P f args h K) (hk : ∀ v h', K v h' → K' v h') : HCalls P f args h K' :=
 fun w hw => (hc w hw).mono fun _ _ ⟨v, he, hK, hp⟩ => ⟨v, he, hk _ _ hK, hp⟩
theorem HCalls.get {P : Program} {f : FuncId} {args : Array Value} {h : Hp} {K : Value → Hp → Prop}
  (hc : HCalls P f args h K) (hr : Real h) : ∃ v h', K v h' ∧ Real h' := by
 obtain ⟨w, hw⟩ := hr
 obtain ⟨e, w', fr, ⟨v, _, hK, _⟩, _⟩ := hc w hw []
 exact ⟨v, _, hK, w', rfl⟩
def nextK (P : Program) (K : Value → Hp → Prop) : Next → Hp → Prop
 | .value v, h => K v h
 | .skip, h => K undef h
 | .enter f args, h => HCalls P f args h K
 | _, _ => False
theorem nextK_mono {P : Program} {K K' : Value → Hp → Prop} (hk : ∀ v h', K v h' → K' v h') (n : Next) (h : Hp) (hn : nextK P K n h) : nextK P K' n h := by
 cases n <;> simp only [nextK] at hn ⊢ <;> first | exact hk _ _ hn | exact hn.mono hk | exact hn
def opS (P : Program) (o : Oper) (e : Operand → Value) (h : Hp) (K : Value → Hp → Prop) : Prop := swp P (execOp e o) h (nextK P K)
theorem opS_mono {P : Program} {o : Oper} {e : Operand → Value} {h : Hp} {K K' : Value → Hp → Prop} (hk : ∀ v h', K v h' → K' v h') (hs : opS P o e h K) :
  opS P o e h K' := swp_mono _ h (fun n h' => nextK_mono hk n h') hs
theorem opS_wp {P : Program} {o : Oper} {a : Act} {w : World} {K : Value → Hp → Prop} {next : Act → World → Prop} {Q : Exit → Act → World → Prop}
  (hs : opS P o a.eval (hpOf w) K) (hn : ∀ v w', Kp w w' → K v (hpOf w') → next (a.put o.dst v) w') : o.wp P a w next Q := by
 obtain ⟨x, w', hr, hK, hp⟩ := swp_run _ _ _ hs
 unfold Oper.wp
 rw [hr]
 cases x <;> simp only [nextK] at hK <;> first
  | exact hn _ _ hp hK
  | exact hK.elim
  | skip
 rename_i f args
 refine (hK w' rfl).mono ?_
 rintro e w'' ⟨v, rfl, hv, hp2⟩
 exact hn _ _ (hp.trans hp2) hv
theorem opS_get {P : Program} {o : Oper} {e : Operand → Value} {h : Hp} {K : Value → Hp → Prop} (hs : opS P o e h K) (hr : Real h) :
  ∃ v h', K v h' ∧ Real h' := by
 obtain ⟨w, rfl⟩ := hr
 obtain ⟨x, w', hrun, hK, _⟩ := swp_run _ _ _ hs
 cases x <;> simp only [nextK] at hK <;> first
  | exact ⟨_, _, hK, w', rfl⟩
  | exact hK.elim
  | exact hK.get ⟨w', rfl⟩
def Yd (P : Program) (o : Oper) (e : Operand → Value) (h : Hp) (v : Value) : Prop := swp P (execOp e o) h (fun n h' => n = .value v ∧ h' = h)
theorem Yd.opS {P : Program} {o : Oper} {e : Operand → Value} {h : Hp} {v : Value} {K : Value → Hp → Prop} (hy : Yd P o e h v) (hk : K v h) : opS P o e h K :=
 swp_mono _ h (by rintro n h' ⟨rfl, rfl⟩; exact hk) hy
theorem Yd.one {P : Program} {o : Oper} {e : Operand → Value} {h : Hp} {v v' : Value} (hs : Yd P o e h v) (hs' : Yd P o e h v') (hr : Real h) : v = v' := by
 obtain ⟨w, rfl⟩ := hr
 obtain ⟨x, w', hrun, ⟨hK, _⟩, _⟩ := swp_run _ _ _ hs
 obtain ⟨x', w'', hrun', ⟨hK', _⟩, _⟩ := swp_run _ _ _ hs'
 rw [hrun] at hrun'
 simp only [Result.ok.injEq] at hrun'
 obtain ⟨rfl, rfl⟩ := hrun'
 rw [hK] at hK'
 exact Next.value.inj hK'
end Go.Hw

/-
 Slots by an environment; a function's code as a triple of heaps ('D'), with a rule for each form of code.
-/
set_option linter.unusedSimpArgs false
set_option linter.unusedVariables false
namespace Go.Hw
open Go
abbrev Env := Nat → Option Value
def putd (ρ : Env) (d : Option Nat) (v : Value) : Env :=
 match d with
 | some d => fun t => bif Nat.beq t d then some v else ρ t
 | none => ρ
def ev (ρ : Env) : Operand → Option Value
 | .tmp t => ρ t
 | .const v => some v
 | .global g => some (.pointer (some ⟨g, 0, none⟩))
 | .func f => some (.func (.func f) #[] #[])
def evD (ρ : Env) (x : Operand) : Value := (ev ρ x).getD undef
def okAll (ρ : Env) : List Operand → Bool
 | [] => true
 | x :: l => (ev ρ x).isSome && okAll ρ l
def okDst (n : Nat) : Option Nat → Bool
 | some d => Nat.blt d n
 | none => true
def isSel : Op → Bool
 | .select .. => true
 | _ => false
def Ag (n : Nat) (ρ : Env) (a : Act) : Prop := a.tmps.size = n ∧ True ∧ ∀ t v, ρ t = some v → a.tmps[t]? = some v
theorem Ag.put {n : Nat} {ρ : Env} {a : Act} (h : Ag n ρ a) {d : Option Nat} (hd : okDst n d = true) (v : Value) : Ag n (putd ρ d v) (a.put d v) := by
 obtain ⟨h1, h2, h3⟩ := h
 cases d with
 | none => exact ⟨h1, h2, h3⟩
 | some d =>
  have hd' : d < n := by simpa [okDst] using hd
  refine ⟨by simp [Act.put, h1], h2, ?_⟩
  intro t u ht
  simp only [putd] at ht
  simp only [Act.put, Array.getElem?_setIfInBounds]
  by_cases e : t = d
  ·subst e
   simp at ht
   simp [h1, hd', ← ht]
  ·have hb : Nat.beq t d = false := by
    cases hb : Nat.beq t d with
    | false => rfl
    | true => exact absurd (Nat.eq_of_beq_eq_true hb) e
   rw [hb] at ht
   have e' : ¬ d = t := fun q => e q.symm
   simp [e', h3 t u ht]
theorem Ag.le {n : Nat} {ρ ρ' : Env} {a : Act} (h : Ag n ρ a) (hl : ∀ t v, ρ' t = some v → ρ t = some v) : Ag n ρ' a :=
 ⟨h.1, h.2.1, fun t v ht => h.2.2 t v (hl t v ht)⟩
theorem Ag.ev {n : Nat} {ρ : Env} {a : Act} (h : Ag n ρ a) {x : Operand} {v : Value} (hv : ev ρ x = some v) : a.eval x = v := by
 cases x with
 | tmp t => have := h.2.2 t v hv; simp [Act.eval, this]
 | const c => exact Option.some.inj hv
 | global g => exact Option.some.inj hv
 | func f => exact Option.some.inj hv
theorem okAll_mem {ρ : Env} : ∀ {l : List Operand}, okAll ρ l = true → ∀ x ∈ l, (ev ρ x).isSome = true := by
 intro l
 induction l with
 | nil => intro _ x hx; cases hx
 | cons y l ih =>
  intro h x hx
  simp only [okAll, Bool.and_eq_true] at h
  cases hx with
  | head => exact h.1
  | tail _ hm => exact ih h.2 x hm
theorem Ag.evD {n : Nat} {ρ : Env} {a : Act} (h : Ag n ρ a) {x : Operand} (hx : (Hw.ev ρ x).isSome = true) : a.eval x = Hw.evD ρ x := by
 obtain ⟨v, hv⟩ := Option.isSome_iff_exists.1 hx
 rw [h.ev hv]
 simp [Hw.evD, hv]
theorem exec_ag {n : Nat} {ρ : Env} {a : Act} (h : Ag n ρ a) (o : Oper) (hs : isSel o.op = false) (hok : okAll ρ o.op.operands.toList = true) :
  execOp a.eval o = execOp (evD ρ) o :=
 execOp_congr o (by intro cs b e; rw [e] at hs; cases hs) fun x hx => h.evD (okAll_mem hok x (by simpa using hx))
def runS (P : Program) (n : Nat) (o : Oper) (ρ : Env) (h : Hp) (X : Env → Hp → Prop) : Prop :=
 (isSel o.op = false ∧ okAll ρ o.op.operands.toList = true ∧ okDst n o.dst = true) ∧ opS P o (evD ρ) h (fun v h' => X (putd ρ o.dst v) h')
def blOf : Value → Option Bool
 | .bool b => some b
 | _ => none
def gdst (ops : Array Oper) (j : Nat) : Option Nat := (ops[j]?).bind (·.dst)
def stepS (P : Program) (n : Nat) (ops : Array Oper) (o : Oper) (ρ : Env) (h : Hp) (X : Env → Hp → Prop) : Prop :=
 match o.guard with
 | none => runS P n o ρ h X
 | some (j, want) => ∃ c, (gdst ops j).bind ρ = some c ∧
   (if blOf c = some want then runS P n o ρ h X else okDst n o.dst = true ∧ X (putd ρ o.dst undef) h)
theorem runS_mono {P : Program} {n : Nat} {o : Oper} {ρ : Env} {h : Hp} {X X' : Env → Hp → Prop} (hx : ∀ ρ' h', X ρ' h' → X' ρ' h') (hs : runS P n o ρ h X) :
  runS P n o ρ h X' := ⟨hs.1, opS_mono (fun _ _ => hx _ _) hs.2⟩
theorem stepS_mono {P : Program} {n : Nat} {ops : Array Oper} {o : Oper} {ρ : Env} {h : Hp} {X X' : Env → Hp → Prop} (hx : ∀ ρ' h', X ρ' h' → X' ρ' h')
  (hs : stepS P n ops o ρ h X) : stepS P n ops o ρ h X' := by
 unfold stepS at hs ⊢
 cases hg : o.guard with
 | none => rw [hg] at hs; exact runS_mono hx hs
 | some g =>
  rw [hg] at hs
  obtain ⟨c, hc, hs⟩ := hs
  refine ⟨c, hc, ?_⟩
  split
  ·rename_i e; rw [if_pos e] at hs; exact runS_mono hx hs
  ·rename_i e; rw [if_neg e] at hs; exact ⟨hs.1, hx _ _ hs.2⟩
theorem yielded_ag {n : Nat} {ρ : Env} {a : Act} (h : Ag n ρ a) {ops : Array Oper} {j : Nat} {c : Value} (hc : (gdst ops j).bind ρ = some c) :
  yielded ops a.tmps j = blOf c := by
 unfold gdst at hc
 unfold yielded
 cases hd : (ops[j]?).bind (·.dst) with
 | none => rw [hd] at hc; cases hc
 | some d =>
  rw [hd] at hc
  have := h.2.2 d _ hc
  simp only [Option.bind_some, this]
  cases c <;> rfl
theorem stepS_wp {P : Program} {n : Nat} {ops : Array Oper} {i : Nat} {o : Oper} (ho : ops[i]? = some o) {ρ : Env} {a : Act} {w : World} {X : Env → Hp → Prop}
  {Q : Exit → Act → World → Prop} {K : Act → World → Prop} (hag : Ag n ρ a) (hs : stepS P n ops o ρ (hpOf w) X)
  (hK : ∀ (d : Option Nat), d = o.dst → ∀ v ρ' w', Kp w w' → ρ' = putd ρ d v → Ag n ρ' (a.put d v) → X ρ' (hpOf w') → K (a.put d v) w') : wpOp P ops Q i K a w := by
 unfold wpOp
 simp only [ho]
 have run : runS P n o ρ (hpOf w) X → o.wp P a w K Q ∨ (o.asks P a w ∧ LetsOut Q) := by
  rintro ⟨⟨h1, h2, h3⟩, hs⟩
  refine .inl (opS_wp (K := fun v h' => X (putd ρ o.dst v) h') ?_ ?_)
  ·unfold opS; rw [exec_ag hag o h1 h2]; exact hs
  ·intro v w' hp hx; exact hK _ rfl v _ w' hp rfl (hag.put h3 v) hx
 unfold stepS at hs
 cases hg : o.guard with
 | none =>
  rw [hg] at hs
  have : Region.wanted o (yielded ops a.tmps) = true := by simp [Region.wanted, hg]
  rw [if_pos this]
  exact run hs
 | some g =>
  obtain ⟨j, want⟩ := g
  rw [hg] at hs
  obtain ⟨c, hc, hs⟩ := hs
  have hy := yielded_ag hag hc
  by_cases e : blOf c = some want
  ·rw [if_pos e] at hs
   have : Region.wanted o (yielded ops a.tmps) = true := by simp [Region.wanted, hg, hy, e]
   rw [if_pos this]
   exact run hs
  ·rw [if_neg e] at hs
   have : ¬ Region.wanted o (yielded ops a.tmps) = true := by simp [Region.wanted, hg, hy, e]
   rw [if_neg this]
   exact hK _ rfl undef _ w (Kp.refl w) rfl (hag.put hs.1 undef) hs.2
def wrOps (t : Nat) : List Oper → Bool
 | [] => false
 | o :: l => (match o.dst with | some d => Nat.beq t d | none => false) || wrOps t l
def wr (t : Nat) : Code → Bool
 | .region _ ops _ => wrOps t ops.toList
 | .seq x y => wr t x || wr t y
 | .cond _ x y => wr t x || wr t y
 | .block _ c => wr t c
 | .loop c => wr t c
 | .scope c => wr t c
 | .rangeFunc .. => true
 | _ => false
def Same (c : Code) (a a' : Act) : Prop := ∀ t, wr t c = false → a'.tmps[t]? = a.tmps[t]?
def KpD (a : Act) (w : World) (a' : Act) (w' : World) : Prop := a'.defers = a.defers ∧ Kp w w'
theorem KpD.refl (a : Act) (w : World) : KpD a w a w := ⟨rfl, Kp.refl w⟩
theorem KpD.trans {a a' a'' : Act} {w w' w'' : World} (h1 : KpD a w a' w') (h2 : KpD a' w' a'' w'') : KpD a w a'' w'' := ⟨h2.1.trans h1.1, h1.2.trans h2.2⟩
theorem KpD.put {a a' : Act} {w w' w'' : World} (h1 : KpD a w a' w') (h2 : Kp w' w'') (d : Option Nat) (v : Value) : KpD a w (a'.put d v) w'' := ⟨by cases d <;> exact h1.1, h1.2.trans h2⟩
def Sm (c : Code) (a : Act) (w : World) (a' : Act) (w' : World) : Prop := Same c a a' ∧ KpD a w a' w'
set_option linter.unusedVariables false in
def D (P : Program) (n : Nat) (c : Code) (ρ : Env) (h : Hp) (Q : Exit → Env → Hp → Prop) : Prop :=
 ∀ a w, Ag n ρ a → hpOf w = h → c.wp P (fun e a' w' => ∃ ρ', Ag n ρ' a' ∧ Sm c a w a' w' ∧ Q e ρ' (hpOf w')) a w
theorem D.mono {P : Program} {n : Nat} {c : Code} {ρ : Env} {h : Hp} {Q Q' : Exit → Env → Hp → Prop} (hd : D P n c ρ h Q)
  (hq : ∀ e ρ' h', Q e ρ' h' → Q' e ρ' h') : D P n c ρ h Q' :=
 fun a w ha hw => wp_mono (hd a w ha hw) fun _ _ _ ⟨ρ', h1, h2, h3⟩ => ⟨ρ', h1, h2, hq _ _ _ h3⟩
theorem D.mono' {P : Program} {n : Nat} {c : Code} {ρ : Env} {h : Hp} {Q Q' : Exit → Env → Hp → Prop} (hd : D P n c ρ h Q)
  (hq : ∀ e ρ' h', Q e ρ' h' → ∃ ρ'', (∀ t v, ρ'' t = some v → ρ' t = some v) ∧ Q' e ρ'' h') : D P n c ρ h Q' :=
 fun a w ha hw => wp_mono (hd a w ha hw) fun _ _ _ ⟨_, h1, h2, h3⟩ => let ⟨ρ'', h4, h5⟩ := hq _ _ _ h3; ⟨ρ'', h1.le h4, h2, h5⟩
def over (ρ1 : Env) (c : Code) (ρ : Env) : Env := fun t => match ρ1 t with
 | some v => some v
 | none => bif wr t c then none else ρ t
theorem D.weaken {P : Program} {n : Nat} {c : Code} {ρ ρc : Env} {h : Hp} {Q : Exit → Env → Hp → Prop} (hd : D P n c ρc h Q)
  (hl : ∀ t v, ρc t = some v → ρ t = some v) : D P n c ρ h (fun e ρ' h' => ∃ ρ1, Q e ρ1 h' ∧ ρ' = over ρ1 c ρ) := by
 intro a w ha hw
 refine wp_mono (hd a w (ha.le hl) hw) ?_
 rintro e a' w' ⟨ρ1, h1, h2, h3⟩
 refine ⟨over ρ1 c ρ, ⟨h1.1, h1.2.1, ?_⟩, h2, ρ1, h3, rfl⟩
 intro t v ht
 unfold over at ht
 cases hr : ρ1 t with
 | some u => rw [hr] at ht; cases ht; exact h1.2.2 t _ hr
 | none =>
  rw [hr] at ht
  cases hwr : wr t c with
  | true => simp [hwr] at ht
  | false =>
   simp [hwr] at ht
   rw [h2.1 t hwr]
   exact ha.2.2 t v ht
theorem D_skip {P : Program} {n : Nat} {ρ : Env} {h : Hp} {Q : Exit → Env → Hp → Prop} (hq : Q .normal ρ h) : D P n .skip ρ h Q :=
 fun a w ha hw => wp_skip ⟨ρ, ha, ⟨fun _ _ => rfl, KpD.refl a w⟩, hw ▸ hq⟩
theorem D_label {P : Program} {n l : Nat} {ρ : Env} {h : Hp} {Q : Exit → Env → Hp → Prop} (hq : Q .normal ρ h) : D P n (.label l) ρ h Q :=
 fun a w ha hw => wp_label ⟨ρ, ha, ⟨fun _ _ => rfl, KpD.refl a w⟩, hw ▸ hq⟩
theorem D_exit {P : Program} {n id : Nat} {ρ : Env} {h : Hp} {Q : Exit → Env → Hp → Prop} (hq : Q (.exit id) ρ h) : D P n (.exit id) ρ h Q :=
 fun a w ha hw => wp_exit ⟨ρ, ha, ⟨fun _ _ => rfl, KpD.refl a w⟩, hw ▸ hq⟩
theorem D_ret {P : Program} {n : Nat} {ρ : Env} {h : Hp} {Q : Exit → Env → Hp → Prop} (hq : Q .ret ρ h) : D P n .ret ρ h Q :=
 fun a w ha hw => wp_ret ⟨ρ, ha, ⟨fun _ _ => rfl, KpD.refl a w⟩, hw ▸ hq⟩
def thenQ (next : Env → Hp → Prop) (Q : Exit → Env → Hp → Prop) : Exit → Env → Hp → Prop
 | .normal, ρ, h => next ρ h
 | .exit i, ρ, h => Q (.exit i) ρ h
 | .goto l, ρ, h => Q (.goto l) ρ h
 | .ret, ρ, h => Q .ret ρ h
 | _, _, _ => False
def blockQ (id : Nat) (Q : Exit → Env → Hp → Prop) : Exit → Env → Hp → Prop
 | .normal, ρ, h => Q .normal ρ h
 | .exit i, ρ, h => bif Nat.beq i id then Q .normal ρ h else Q (.exit i) ρ h
 | .goto l, ρ, h => Q (.goto l) ρ h
 | .ret, ρ, h => Q .ret ρ h
 | _, _, _ => False
def scopeQ (Q : Exit → Env → Hp → Prop) : Exit → Env → Hp → Prop
 | .normal, ρ, h => Q .normal ρ h
 | .exit i, ρ, h => Q (.exit i) ρ h
 | .ret, ρ, h => Q .ret ρ h
 | _, _, _ => False
theorem D_seq {P : Program} {n : Nat} {x y : Code} {ρ : Env} {h : Hp} {Q : Exit → Env → Hp → Prop}
  (hd : D P n x ρ h (thenQ (fun ρ' h' => D P n y ρ' h' Q) Q)) : D P n (.seq x y) ρ h Q := by
 intro a w ha hw
 refine wp_seq (wp_mono (hd a w ha hw) ?_)
 rintro e a' w' ⟨ρ', h1, h2, h3⟩
 have hs : ∀ t, wr t (.seq x y) = false → wr t x = false ∧ wr t y = false := by intro t ht; simpa [wr] using ht
 cases e with
 | normal =>
  refine wp_mono (h3 a' w' h1 rfl) ?_
  rintro e a2 w2 ⟨ρ2, g1, g2, g3⟩
  exact ⟨ρ2, g1, ⟨fun t ht => (g2.1 t (hs t ht).2).trans (h2.1 t (hs t ht).1), h2.2.trans g2.2⟩, g3⟩
 | exit i => exact ⟨ρ', h1, ⟨fun t ht => h2.1 t (hs t ht).1, h2.2⟩, h3⟩
 | goto l => exact ⟨ρ', h1, ⟨fun t ht => h2.1 t (hs t ht).1, h2.2⟩, h3⟩
 | ret => exact ⟨ρ', h1, ⟨fun t ht => h2.1 t (hs t ht).1, h2.2⟩, h3⟩
 | panic ch => exact h3.elim
 | outgrown => exact h3.elim
theorem D_cond {P : Program} {n : Nat} {c : Operand} {x y : Code} {ρ : Env} {h : Hp} {Q : Exit → Env → Hp → Prop} {b : Bool} (hc : ev ρ c = some (.bool b))
  (hd : D P n (bif b then x else y) ρ h Q) : D P n (.cond c x y) ρ h Q := by
 intro a w ha hw
 refine wp_cond (t := b) (ha.ev hc) ?_
 cases b
 ·refine wp_mono (hd a w ha hw) ?_
  rintro e a' w' ⟨ρ', h1, h2, h3⟩
  exact ⟨ρ', h1, ⟨fun t ht => h2.1 t (by simp [wr] at ht; exact ht.2), h2.2⟩, h3⟩
 ·refine wp_mono (hd a w ha hw) ?_
  rintro e a' w' ⟨ρ', h1, h2, h3⟩
  exact ⟨ρ', h1, ⟨fun t ht => h2.1 t (by simp [wr] at ht; exact ht.1), h2.2⟩, h3⟩
theorem D_block {P : Program} {n id : Nat} {c : Code} {ρ : Env} {h : Hp} {Q : Exit → Env → Hp → Prop} (hd : D P n c ρ h (blockQ id Q)) :
  D P n (.block id c) ρ h Q := by
 intro a w ha hw
 refine wp_block (wp_mono (hd a w ha hw) ?_)
 rintro e a' w' ⟨ρ', h1, h2, h3⟩
 cases e with
 | normal => exact ⟨ρ', h1, h2, h3⟩
 | exit i =>
  simp only [Exit.inBlock]
  simp only [blockQ] at h3
  by_cases e : i = id
  ·subst e
   simp at h3
   rw [if_pos rfl]; exact ⟨ρ', h1, h2, h3⟩
  ·have hb : Nat.beq i id = false := by
    cases hb : Nat.beq i id with
    | false => rfl
    | true => exact absurd (Nat.eq_of_beq_eq_true hb) e
   rw [hb] at h3
   rw [if_neg e]; exact ⟨ρ', h1, h2, h3⟩
 | goto l => exact ⟨ρ', h1, h2, h3⟩
 | ret => exact ⟨ρ', h1, h2, h3⟩
 | panic ch => exact h3.elim
 | outgrown => exact h3.elim
theorem D_scope {P : Program} {n : Nat} {c : Code} {ρ : Env} {h : Hp} {Q : Exit → Env → Hp → Prop} (hd : D P n c ρ h (scopeQ Q)) :
  D P n (.scope c) ρ h Q := by
 intro a w ha hw
 refine wp_scope_straight (wp_mono (hd a w ha hw) ?_)
 rintro e a' w' ⟨ρ', h1, h2, h3⟩
 cases e with
 | normal => exact ⟨ρ', h1, h2, h3⟩
 | exit i => exact ⟨ρ', h1, h2, h3⟩
 | goto l => exact h3.elim
 | ret => exact ⟨ρ', h1, h2, h3⟩
 | panic ch => exact h3.elim
 | outgrown => exact h3.elim
def LW (P : Program) (c : Code) (Q : Exit → Act → World → Prop) (a : Act) (w : World) : Prop :=
 ∀ (b : Frame) (k : List Item) (cs : List Frame), ∃ e a' w', Q e a' w' ∧ Arrives P (lone (b.at a (.code c :: .inLoop c :: k)) cs w) b k cs e a' w'
theorem LW_loop {P : Program} {c : Code} {Q : Exit → Act → World → Prop} {a : Act} {w : World} (h : LW P c Q a w) : (Code.loop c).wp P Q a w :=
 fun b k cs => let ⟨e, a', w', q, r⟩ := h b k cs; ⟨e, a', w', q, .of_steps (.one step_loop) r⟩
theorem LW_round {P : Program} {c : Code} {Q : Exit → Act → World → Prop} {a : Act} {w : World} (h : c.wp P (Exit.then (LW P c Q) Q) a w) : LW P c Q a w := by
 intro b k cs
 obtain ⟨e, a₁, w₁, hq, harr⟩ := h b (.inLoop c :: k) cs
 cases e with
 | normal =>
  obtain ⟨e₂, a₂, w₂, hq₂, harr₂⟩ := hq b k cs
  exact ⟨e₂, a₂, w₂, hq₂, .of_steps (Steps.trans harr (.one step_inLoop)) harr₂⟩
 | exit id => exact ⟨_, a₁, w₁, hq, .pass (x := .inLoop c) rfl (fun _ _ => .inl (by simp)) harr⟩
 | goto l => exact ⟨_, a₁, w₁, hq, .pass (x := .inLoop c) rfl (fun _ _ => .inl (by simp)) harr⟩
 | ret => exact ⟨_, a₁, w₁, hq, .pass (x := .inLoop c) rfl (fun _ _ => .inl (by simp)) harr⟩
 | panic ch => exact ⟨_, a₁, w₁, hq, .pass (x := .inLoop c) rfl (fun _ _ => .inl (by simp)) harr⟩
 | outgrown => exact ⟨_, a₁, w₁, hq, .pass (x := .inLoop c) rfl (fun _ _ => .inl (by simp)) harr⟩
def loopP {S : Type} (B : S → Hp → (S → Hp → Prop) → Prop) (s : S) (h : Hp) : Prop :=
 ∀ Φ : S → Hp → Prop, (∀ s h, (∃ Φ' : S → Hp → Prop, (∀ s h, Φ' s h → Φ s h) ∧ B s h Φ') → Φ s h) → Φ s h
theorem D_loop {P : Program} {n : Nat} {c : Code} {S : Type} {env : S → Env} {B : S → Hp → (S → Hp → Prop) → Prop} {Q : Exit → Env → Hp → Prop}
  (hB : ∀ s h Φ, B s h Φ → D P n c (env s) h (thenQ (fun ρ' h' => ∃ s', (∀ t v, env s' t = some v → ρ' t = some v ∨ (wr t c = false ∧ env s t = some v)) ∧ Φ s' h') Q))
  {s : S} {h : Hp} (hl : loopP B s h) : D P n (.loop c) (env s) h Q := by
 intro a w ha hw
 refine LW_loop ?_
 have := hl (fun s h => ∀ a' w', Ag n (env s) a' → Sm c a w a' w' → hpOf w' = h →
  LW P c (fun e a' w' => ∃ ρ', Ag n ρ' a' ∧ Sm (.loop c) a w a' w' ∧ Q e ρ' (hpOf w')) a' w') ?_
 ·exact this a w ha ⟨fun _ _ => rfl, KpD.refl a w⟩ hw
 ·rintro s h ⟨Φ', hle, hb⟩ a' w' ha' hs' hw'
  refine LW_round (wp_mono (hB s h Φ' hb a' w' ha' hw') ?_)
  rintro e a2 w2 ⟨ρ2, g1, g2, g3⟩
  have tr : Sm c a w a2 w2 := ⟨fun t ht => (g2.1 t ht).trans (hs'.1 t ht), hs'.2.trans g2.2⟩
  cases e with
  | normal =>
   obtain ⟨s', hsub, hphi⟩ := g3
   refine hle _ _ hphi a2 w2 ⟨g1.1, g1.2.1, ?_⟩ tr rfl
   intro t v ht
   rcases hsub t v ht with h' | ⟨h', h''⟩
   ·exact g1.2.2 t v h'
   ·rw [g2.1 t h']; exact ha'.2.2 t v h''
  | exit i => exact ⟨ρ2, g1, tr, g3⟩
  | goto l => exact ⟨ρ2, g1, tr, g3⟩
  | ret => exact ⟨ρ2, g1, tr, g3⟩
  | panic ch => exact g3.elim
  | outgrown => exact g3.elim
theorem loopP_inv {S : Type} {B : S → Hp → (S → Hp → Prop) → Prop} (I : S → Hp → Prop) (μ : S → Hp → Nat)
  (hr : ∀ s h, I s h → B s h (fun s' h' => I s' h' ∧ μ s' h' < μ s h)) {s : S} {h : Hp} (h0 : I s h) : loopP B s h := by
 intro Φ hΦ
 have key : ∀ m s h, μ s h = m → I s h → Φ s h := by
  intro m
  induction m using Nat.strongRecOn with
  | _ m ih =>
   intro s h hm hI
   exact hΦ s h ⟨_, fun s' h' hp => ih (μ s' h') (hm ▸ hp.2) s' h' rfl hp.1, hr s h hI⟩
 exact key _ s h rfl h0
theorem loopP_step {S : Type} {B : S → Hp → (S → Hp → Prop) → Prop} {s : S} {h : Hp} (hs : B s h (fun s' h' => loopP B s' h')) : loopP B s h :=
 fun Φ hΦ => hΦ s h ⟨_, fun _ _ hl => hl Φ hΦ, hs⟩
def vK (o : Option Value) (F : Value → Prop) : Prop :=
 match o with
 | some v => F v
 | none => False
def resT : List ResultVar → Env → List Value → (List Value → Prop) → Prop
 | [], _, acc, F => F acc.reverse
 | .tmp t :: r, ρ, acc, F => vK (ρ t) fun v => resT r ρ (v :: acc) F
 | .cell _ _ :: _, _, _, _ => False
def resV : List Value → Value
 | [v] => v
 | l => .tuple l.toArray
theorem results_swp (P : Program) (fn : Func) (ρ : Env) (a : Act) (n : Nat) (ha : Ag n ρ a) (w : World) (F : List Value → Prop)
  (h : resT fn.results.toList ρ [] F) : ∃ l, F l ∧ (results fn a.tmps).run P w = .ok (resV l) w := by
 have key : ∀ (rs : List ResultVar) (acc : List Value), resT rs ρ acc F →
   ∃ l, F (acc.reverse ++ l) ∧ (rs.mapM (m := Sem) fun | .tmp t => pure (a.tmps.getD t undef) | .cell a' t => do loadVar t (← asAddr (a.tmps.getD a' undef))) = pure l := by
  intro rs
  induction rs with
  | nil => intro acc h; exact ⟨[], by simpa [resT] using h, rfl⟩
  | cons r rs ih =>
   intro acc h
   cases r with
   | tmp t =>
    simp only [resT] at h
    cases hv : ρ t with
    | none => rw [hv] at h; exact h.elim
    | some v =>
     rw [hv] at h
     obtain ⟨l, h1, h2⟩ := ih _ h
     have hg : a.tmps.getD t undef = v := by have := ha.2.2 t v hv; simp [this]
     refine ⟨v :: l, by simpa using h1, ?_⟩
     rw [List.mapM_cons]; simp only []; rw [hg, h2]; rfl
   | cell a' t => exact h.elim
 obtain ⟨l, h1, h2⟩ := key _ _ h
 refine ⟨l, by simpa using h1, ?_⟩
 unfold results
 simp only [Array.mapM_eq_mapM_toList]
 generalize hg : List.mapM (m := Sem) _ fn.results.toList = m
 have hm : m = pure l := hg.symm.trans h2
 rw [hm]
 change Sem.run P (Sem.pure (if h : l.toArray.size = 1 then l.toArray[0] else .tuple l.toArray)) w = _
 rcases l with _ | ⟨x, _ | ⟨y, l⟩⟩ <;> simp [Sem.run, resV]
def retQ (rs : List ResultVar) (K : Value → Hp → Prop) : Exit → Env → Hp → Prop
 | .normal, ρ, h => resT rs ρ [] fun l => K (resV l) h
 | .ret, ρ, h => resT rs ρ [] fun l => K (resV l) h
 | _, _, _ => False
def argsE : Nat → List Value → Env
 | _, [] => fun _ => none
 | i, v :: l => putd (argsE (i + 1) l) (some i) v
def env0 (args : Array Value) : Env := argsE 0 args.toList
theorem argsE_get : ∀ (l : List Value) (i t : Nat) (v : Value), argsE i l t = some v → i ≤ t ∧ l[t - i]? = some v := by
 intro l
 induction l with
 | nil => intro i t v h; cases h
 | cons x l ih =>
  intro i t v h
  simp only [argsE, putd] at h
  cases hb : Nat.beq t i with
  | true =>
   rw [hb] at h
   have := Nat.eq_of_beq_eq_true hb
   subst this
   simp at h
   simp [h]
  | false =>
   rw [hb] at h
   obtain ⟨h1, h2⟩ := ih (i + 1) t v h
   refine ⟨by omega, ?_⟩
   obtain ⟨m, hm⟩ : ∃ m, t - i = m + 1 := ⟨t - i - 1, by omega⟩
   have hm' : t - (i + 1) = m := by omega
   rw [hm'] at h2
   rw [hm]; simpa using h2
theorem calls_of_D {P : Program} {f : FuncId} {fn : Func} {c : Code} {args : Array Value} {h : Hp} {K : Value → Hp → Prop}
  (hf : P.funcs[f]? = some fn) (hb : fn.body = some c) (hn : Nat.ble args.size fn.ntmps = true)
  (hd : D P fn.ntmps c (env0 args) h (retQ fn.results.toList K)) : HCalls P f args h K := by
 intro w hw
 have hn' : args.size ≤ fn.ntmps := Nat.le_of_ble_eq_true hn
 refine calls_of_wp hf hb (wp_mono (hd _ w ⟨?_, trivial, ?_⟩ hw) ?_)
 ·simp; omega
 ·intro t v ht
  obtain ⟨_, h2⟩ := argsE_get args.toList 0 t v ht
  have h3 : args[t]? = some v := by simpa using h2
  have hlt : t < args.size := (Array.getElem?_eq_some_iff.1 h3).1
  rw [Array.getElem?_append_left hlt]; exact h3
 ·rintro e a' w' ⟨ρ', g1, g2, g3⟩
  cases e with
  | normal =>
   obtain ⟨l, hl, hr⟩ := results_swp P fn ρ' a' _ g1 w' _ g3
   exact ⟨g2.2.1, _, hr, _, rfl, hl, g2.2.2⟩
  | ret =>
   obtain ⟨l, hl, hr⟩ := results_swp P fn ρ' a' _ g1 w' _ g3
   exact ⟨g2.2.1, _, hr, _, rfl, hl, g2.2.2⟩
  | exit i => exact g3.elim
  | goto l => exact g3.elim
  | panic ch => exact g3.elim
  | outgrown => exact g3.elim
end Go.Hw

/-
 The operations of the machine over heaps, each in a form that reads well: cells by their kinds, bounds as tests, what is made under a name.
-/
set_option linter.unusedSimpArgs false
set_option linter.unusedVariables false
namespace Go.Hw
open Go
inductive CT where
 | int (k : IntKind)
 | bool | str | ptr | slice | map | any
 deriving DecidableEq
structure Sl where
 p : Option Addr
 n : Nat
 c : Nat
def kindEq : IntKind → IntKind → Bool
 | .i8, .i8 | .i16, .i16 | .i32, .i32 | .i64, .i64 | .u8, .u8 | .u16, .u16 | .u32, .u32 | .u64, .u64 => true
 | _, _ => false
theorem kindEq_eq : ∀ {a b : IntKind}, kindEq a b = true → a = b := by
 intro a b h
 cases a <;> cases b <;> first | rfl | (simp [kindEq] at h)
def xI (k : IntKind) (o : Option Value) (F : Int → Prop) : Prop :=
 match o with
 | some (.int k' n) => bif kindEq k' k then F n else False
 | _ => False
def xB (o : Option Value) (F : Bool → Prop) : Prop :=
 match o with
 | some (.bool b) => F b
 | _ => False
def xS (o : Option Value) (F : ByteArray → Prop) : Prop :=
 match o with
 | some (.string b) => F b
 | _ => False
def xP (o : Option Value) (F : Option Addr → Prop) : Prop :=
 match o with
 | some (.pointer p) => F p
 | _ => False
def xL (o : Option Value) (F : Sl → Prop) : Prop :=
 match o with
 | some (.slice p n c) => F ⟨p, n, c⟩
 | _ => False
def xM (o : Option Value) (F : Option Nat → Prop) : Prop :=
 match o with
 | some (.map r) => F r
 | _ => False
def xA (o : Option Value) (F : Value → Prop) : Prop :=
 match o with
 | some v => F v
 | none => False
def nn (p : Option Addr) (F : Addr → Prop) : Prop :=
 match p with
 | some a => F a
 | none => False
def Sl.v (s : Sl) : Value := .slice s.p s.n s.c
def xC (c : CT) (o : Option Value) (F : Value → Prop) : Prop :=
 match c with
 | .int k => xI k o fun n => F (.int k n)
 | .bool => xB o fun b => F (.bool b)
 | .str => xS o fun s => F (.string s)
 | .ptr => xP o fun p => F (.pointer p)
 | .slice => xL o fun s => F (.slice s.p s.n s.c)
 | .map => xM o fun r => F (.map r)
 | .any => xA o F
theorem xC_some {c : CT} {o : Option Value} {F : Value → Prop} (h : xC c o F) : ∃ v, o = some v ∧ F v := by
 cases o with
 | none => cases c <;> exact h.elim
 | some v =>
  refine ⟨v, rfl, ?_⟩
  cases c <;> cases v <;> simp only [xC, xI, xB, xS, xP, xL, xM, xA] at h <;> first | exact h | exact h.elim | skip
  rename_i k k' n
  cases hk : kindEq k' k with
  | true => rw [hk] at h; have := kindEq_eq hk; subst this; exact h
  | false => rw [hk] at h; exact h.elim
inductive VT where
 | c (c : CT)
 | agg (l : List CT)
def ctOf (P : Program) (t : TypeId) : CT :=
 match P.underlying t with
 | some (.int k) => .int k
 | some .bool => .bool
 | some .string => .str
 | some (.pointer _) => .ptr
 | some (.slice _) => .slice
 | some (.map _ _) => .map
 | _ => .any
def flats (f : TypeId → List CT) : List Field → List CT
 | [] => []
 | x :: l => f x.type ++ flats f l
def reps (l : List CT) : Nat → List CT
 | 0 => []
 | n + 1 => l ++ reps l n
def flat (P : Program) : Nat → TypeId → List CT
 | 0, _ => []
 | d + 1, t =>
  match P.underlying t with
  | some (.struct fs) => flats (flat P d) fs.toList
  | some (.array n e) => reps (flat P d e) n
  | _ => [ctOf P t]
def isAggT (P : Program) (t : TypeId) : Bool :=
 match P.underlying t with
 | some (.struct _) | some (.array _ _) => true
 | _ => false
def vtOf (P : Program) (t : TypeId) : VT := bif isAggT P t then .agg (flat P 12 t) else .c (ctOf P t)
def ldCs (h : Hp) (a : Addr) : List CT → Nat → List Value → (List Value → Prop) → Prop
 | [], _, acc, F => F acc.reverse
 | c :: cs, i, acc, F => xC c (cell h (a.add i)) fun v => ldCs h a cs (i + 1) (v :: acc) F
def ldT (P : Program) (t : TypeId) (a : Addr) (h : Hp) (K : Value → Prop) : Prop :=
 match vtOf P t with
 | .c c => xC c (cell h a) K
 | .agg cs => bif (P.info? t).isSome && Nat.beq cs.length (P.cellsOf t) then ldCs h a cs 0 [] fun l => K (.agg l.toArray) else False
def ldK (P : Program) (t : TypeId) (v : Value) (h : Hp) (K : Value → Hp → Prop) : Prop :=
 match v with
 | .pointer p => nn p fun a => ldT P t a h fun x => K x h
 | _ => False
theorem ldCs_some {h : Hp} {a : Addr} : ∀ {cs : List CT} {i : Nat} {acc : List Value} {F : List Value → Prop}, ldCs h a cs i acc F →
  ∃ l : List Value, l.length = cs.length ∧ (∀ j v, l[j]? = some v → cell h (a.add (i + j)) = some v) ∧ F (acc.reverse ++ l) := by
 intro cs
 induction cs with
 | nil => intro i acc F h; exact ⟨[], rfl, by simp, by simpa [ldCs] using h⟩
 | cons c cs ih =>
  intro i acc F hh
  obtain ⟨v, hv, hh⟩ := xC_some hh
  obtain ⟨l, h1, h2, h3⟩ := ih hh
  refine ⟨v :: l, by simp [h1], ?_, by simpa using h3⟩
  intro j u hj
  cases j with
  | zero => simp at hj; subst hj; simpa using hv
  | succ j =>
   simp at hj
   have := h2 j u hj
   rw [← this]; congr 2; omega
theorem swp_pure {P : Program} {α : Type} {x : α} {h : Hp} {K : α → Hp → Prop} : swp P (pure x : Sem α) h K = K x h := rfl
theorem loadCellsFrom_swp {P : Program} {a : Addr} {h : Hp} : ∀ (l : List Value) (i : Nat) (acc : Array Value) (K : Array Value → Hp → Prop),
  (∀ j v, l[j]? = some v → cell h (a.add (i + j)) = some v) → K (acc ++ l.toArray) h → swp P (loadCellsFrom a i l.length acc) h K := by
 intro l
 induction l with
 | nil => intro i acc K _ hk; simpa [loadCellsFrom, swp_pure] using hk
 | cons v l ih =>
  intro i acc K hc hk
  simp only [List.length_cons, loadCellsFrom, swp_bind']
  refine ⟨v, by simpa using hc 0 v rfl, ?_⟩
  refine ih (i + 1) _ K ?_ ?_
  ·intro j u hj
   have := hc (j + 1) u (by simpa using hj)
   rw [← this]; congr 2; omega
  ·simpa using hk
theorem typeInfo_swp {P : Program} {t : TypeId} {h : Hp} {K : TypeInfo → Hp → Prop} {i : TypeInfo} (hi : P.info? t = some i) (hk : K i h) : swp P (typeInfo t) h K := by
 unfold typeInfo
 rw [swp_bind']
 change swp P (match P.info? t with | some i => pure i | none => stuck "no such type") h K
 rw [hi]; exact hk
theorem underlying_swp {P : Program} {t : TypeId} {h : Hp} {K : TypeDesc → Hp → Prop} {d : TypeDesc} (hi : P.underlying t = some d) (hk : K d h) : swp P (underlying t) h K := by
 unfold underlying
 rw [swp_bind']
 change swp P (match P.underlying t with | some i => pure i | none => stuck "no such type") h K
 rw [hi]; exact hk
theorem sizeOf_swp {P : Program} {t : TypeId} {h : Hp} {K : Nat → Hp → Prop} (hi : (P.info? t).isSome = true) (hk : K (P.cellsOf t) h) : swp P (Go.sizeOf t) h K := by
 obtain ⟨i, hi⟩ := Option.isSome_iff_exists.1 hi
 unfold Go.sizeOf
 rw [swp_bind']
 refine typeInfo_swp hi ?_
 rw [swp_pure]
 unfold Program.cellsOf at hk
 rw [hi] at hk; exact hk
theorem isAgg_swp {P : Program} {t : TypeId} {h : Hp} {K : Bool → Hp → Prop} (hi : (P.underlying t).isSome = true) (hk : K (isAggT P t) h) : swp P (isAgg t) h K := by
 obtain ⟨d, hd⟩ := Option.isSome_iff_exists.1 hi
 unfold isAgg
 rw [swp_bind']
 refine underlying_swp hd ?_
 unfold isAggT at hk
 rw [hd] at hk
 cases d <;> exact hk
theorem loadVar_swp {P : Program} {t : TypeId} {a : Addr} {h : Hp} {K : Value → Hp → Prop} (hu : (P.underlying t).isSome = true) (hl : ldT P t a h fun v => K v h) :
  swp P (loadVar t a) h K := by
 unfold loadVar
 rw [swp_bind']
 refine isAgg_swp hu ?_
 unfold ldT vtOf at hl
 cases hag : isAggT P t with
 | false =>
  rw [hag] at hl
  obtain ⟨v, hv, hk⟩ := xC_some hl
  exact ⟨v, hv, hk⟩
 | true =>
  rw [hag] at hl
  simp only [cond_true] at hl
  cases hb : (P.info? t).isSome && Nat.beq (flat P 12 t).length (P.cellsOf t) with
  | false => rw [hb] at hl; exact hl.elim
  | true =>
   rw [hb] at hl
   simp only [Bool.and_eq_true] at hb
   obtain ⟨l, h1, h2, h3⟩ := ldCs_some hl
   simp only [if_true, swp_bind']
   refine sizeOf_swp hb.1 ?_
   have e : P.cellsOf t = l.length := by rw [h1]; exact (Nat.eq_of_beq_eq_true hb.2).symm
   rw [e]
   unfold loadCells
   refine loadCellsFrom_swp l 0 #[] _ h2 ?_
   simpa [swp_pure] using h3
@[reducible] def CT.T : CT → Type
 | .int _ => Int
 | .bool => Bool
 | .str => ByteArray
 | .ptr => Option Addr
 | .slice => Sl
 | .map => Option Nat
 | .any => Value
def CT.mk : (c : CT) → c.T → Value
 | .int k, n => .int k n
 | .bool, b => .bool b
 | .str, s => .string s
 | .ptr, p => .pointer p
 | .slice, s => .slice s.p s.n s.c
 | .map, r => .map r
 | .any, v => v
def CT.on : (c : CT) → Option Value → (c.T → Prop) → Prop
 | .int k, o, F => xI k o F
 | .bool, o, F => xB o F
 | .str, o, F => xS o F
 | .ptr, o, F => xP o F
 | .slice, o, F => xL o F
 | .map, o, F => xM o F
 | .any, o, F => xA o F
theorem CT.on_some : ∀ {c : CT} {o : Option Value} {F : c.T → Prop}, c.on o F → ∃ x, o = some (c.mk x) ∧ F x := by
 intro c o F h
 cases c with
 | int k =>
  simp only [CT.on] at h
  unfold xI at h
  split at h
  ·rename_i k' n
   cases hk : kindEq k' k with
   | false => rw [hk] at h; exact h.elim
   | true => rw [hk] at h; have := kindEq_eq hk; subst this; exact ⟨n, rfl, h⟩
  ·exact h.elim
 | bool => simp only [CT.on] at h; unfold xB at h; split at h <;> first | exact ⟨_, rfl, h⟩ | exact h.elim
 | str => simp only [CT.on] at h; unfold xS at h; split at h <;> first | exact ⟨_, rfl, h⟩ | exact h.elim
 | ptr => simp only [CT.on] at h; unfold xP at h; split at h <;> first | exact ⟨_, rfl, h⟩ | exact h.elim
 | slice => simp only [CT.on] at h; unfold xL at h; split at h <;> first | exact ⟨_, rfl, h⟩ | exact h.elim
 | map => simp only [CT.on] at h; unfold xM at h; split at h <;> first | exact ⟨_, rfl, h⟩ | exact h.elim
 | any => simp only [CT.on] at h; unfold xA at h; split at h <;> first | exact ⟨_, rfl, h⟩ | exact h.elim
@[reducible] def TL : List CT → Type
 | [] => Unit
 | [c] => c.T
 | c :: d :: r => c.T × TL (d :: r)
def TL.mk : (l : List CT) → TL l → List Value
 | [], _ => []
 | [c], x => [c.mk x]
 | c :: d :: r, x => c.mk x.1 :: TL.mk (d :: r) x.2
def TL.on : (l : List CT) → List Value → (TL l → Prop) → Prop
 | [], l, F => match l with
  | [] => F ()
  | _ => False
 | [c], l, F => match l with
  | [v] => c.on (some v) F
  | _ => False
 | c :: d :: r, l, F => match l with
  | v :: l => c.on (some v) fun x => TL.on (d :: r) l fun y => F (x, y)
  | _ => False
theorem TL.on_some : ∀ {l : List CT} {vs : List Value} {F : TL l → Prop}, TL.on l vs F → ∃ x, vs = TL.mk l x ∧ F x
 | [], vs, F, h => by
  cases vs with
  | nil => exact ⟨(), rfl, h⟩
  | cons => exact h.elim
 | [c], vs, F, h => by
  rcases vs with _ | ⟨v, _ | ⟨w, vs⟩⟩
  ·exact h.elim
  ·obtain ⟨x, hx, h'⟩ := CT.on_some (show c.on (some v) F from h); cases hx; exact ⟨x, rfl, h'⟩
  ·exact h.elim
 | c :: d :: r, vs, F, h => by
  cases vs with
  | nil => exact h.elim
  | cons v vs =>
   obtain ⟨x, hx, h'⟩ := CT.on_some (show c.on (some v) _ from h)
   obtain ⟨y, hy, h''⟩ := TL.on_some h'
   cases hx
   exact ⟨(x, y), by rw [hy]; rfl, h''⟩
@[reducible] def VT.T : VT → Type
 | .c k => k.T
 | .agg l => TL l
def VT.mk : (t : VT) → t.T → Value
 | .c k, x => k.mk x
 | .agg l, x => .agg ⟨TL.mk l x⟩
def VT.on : (t : VT) → Option Value → (t.T → Prop) → Prop
 | .c k, o, F => k.on o F
 | .agg l, o, F => match o with
  | some (.agg ⟨vs⟩) => TL.on l vs F
  | _ => False
theorem VT.on_some : ∀ {t : VT} {o : Option Value} {F : t.T → Prop}, t.on o F → ∃ x, o = some (t.mk x) ∧ F x := by
 intro t o F h
 cases t with
 | c c => exact CT.on_some h
 | agg l =>
  simp only [VT.on] at h
  split at h
  ·obtain ⟨x, hx, h⟩ := TL.on_some h
   exact ⟨x, by rw [hx]; rfl, h⟩
  ·exact h.elim
@[reducible] def TVs : List VT → Type
 | [] => Unit
 | [t] => t.T
 | t :: u :: r => t.T × TVs (u :: r)
def TVs.mk : (l : List VT) → TVs l → List Value
 | [], _ => []
 | [t], x => [t.mk x]
 | t :: u :: r, x => t.mk x.1 :: TVs.mk (u :: r) x.2
def TVs.on : (l : List VT) → List Value → (TVs l → Prop) → Prop
 | [], l, F => match l with
  | [] => F ()
  | _ => False
 | [t], l, F => match l with
  | [v] => t.on (some v) F
  | _ => False
 | t :: u :: r, l, F => match l with
  | v :: l => t.on (some v) fun x => TVs.on (u :: r) l fun y => F (x, y)
  | _ => False
theorem TVs.on_some : ∀ {l : List VT} {vs : List Value} {F : TVs l → Prop}, TVs.on l vs F → ∃ x, vs = TVs.mk l x ∧ F x
 | [], vs, F, h => by
  cases vs with
  | nil => exact ⟨(), rfl, h⟩
  | cons => exact h.elim
 | [c], vs, F, h => by
  rcases vs with _ | ⟨v, _ | ⟨w, vs⟩⟩
  ·exact h.elim
  ·obtain ⟨x, hx, h'⟩ := VT.on_some (show c.on (some v) F from h); cases hx; exact ⟨x, rfl, h'⟩
  ·exact h.elim
 | c :: d :: r, vs, F, h => by
  cases vs with
  | nil => exact h.elim
  | cons v vs =>
   obtain ⟨x, hx, h'⟩ := VT.on_some (show c.on (some v) _ from h)
   obtain ⟨y, hy, h''⟩ := TVs.on_some h'
   cases hx
   exact ⟨(x, y), by rw [hy]; rfl, h''⟩
def tupOn (l : List VT) (v : Value) (F : TVs l → Prop) : Prop :=
 match v with
 | .tuple ⟨vs⟩ => TVs.on l vs F
 | _ => False
def mapT (f : TypeId → VT) : List TypeId → List VT
 | [] => []
 | t :: l => f t :: mapT f l
def resOn (P : Program) (t : TypeId) (v : Value) (F : Value → Prop) : Prop :=
 match P.underlying t with
 | some (.tuple ⟨[]⟩) => F v
 | some (.tuple ⟨ts⟩) => tupOn (mapT (vtOf P) ts) v fun x => F (.tuple ⟨TVs.mk _ x⟩)
 | _ => (vtOf P t).on (some v) fun x => F ((vtOf P t).mk x)
theorem resOn_some {P : Program} {t : TypeId} {v : Value} {F : Value → Prop} (h : resOn P t v F) : F v := by
 unfold resOn at h
 split at h
 ·exact h
 ·unfold tupOn at h
  split at h
  ·obtain ⟨x, rfl, h'⟩ := TVs.on_some h; exact h'
  ·exact h.elim
 ·obtain ⟨x, hx, h'⟩ := VT.on_some h
  cases hx; exact h'
end Go.Hw

/-
 The operations, one by one: a form that reads well, and that it is the machine's.
-/
set_option linter.unusedSimpArgs false
set_option linter.unusedVariables false
namespace Go.Hw
open Go
def mv (ρ : Env) (x : Operand) (F : Value → Prop) : Prop := vK (ev ρ x) F
def mvs (ρ : Env) : List Operand → List Value → (List Value → Prop) → Prop
 | [], acc, F => F acc.reverse
 | x :: l, acc, F => mv ρ x fun v => mvs ρ l (v :: acc) F
def mvo (ρ : Env) (x : Option Operand) (F : Option Value → Prop) : Prop :=
 match x with
 | none => F none
 | some x => mv ρ x fun v => F (some v)
theorem mv_some {ρ : Env} {x : Operand} {F : Value → Prop} (h : mv ρ x F) : (ev ρ x).isSome = true ∧ F (evD ρ x) := by
 unfold mv vK at h
 cases hx : ev ρ x with
 | none => rw [hx] at h; exact h.elim
 | some v => rw [hx] at h; exact ⟨rfl, by simpa [evD, hx] using h⟩
theorem mvo_some {ρ : Env} {x : Option Operand} {F : Option Value → Prop} (h : mvo ρ x F) : okAll ρ x.toList = true ∧ F (x.map (evD ρ)) := by
 cases x with
 | none => exact ⟨rfl, h⟩
 | some x => have := mv_some h; exact ⟨by simp [okAll, this.1], this.2⟩
theorem mvs_some {ρ : Env} : ∀ {l : List Operand} {acc : List Value} {F : List Value → Prop}, mvs ρ l acc F → okAll ρ l = true ∧ F (acc.reverse ++ l.map (evD ρ)) := by
 intro l
 induction l with
 | nil => intro acc F h; exact ⟨rfl, by simpa [mvs] using h⟩
 | cons x l ih =>
  intro acc F h
  obtain ⟨h1, h2⟩ := mv_some h
  obtain ⟨h3, h4⟩ := ih h2
  exact ⟨by simp [okAll, h1, h3], by simpa using h4⟩
theorem vswp {P : Program} {s : Sem Value} {h : Hp} {K : Value → Hp → Prop} (hs : swp P s h K) : swp P (do let x ← s; pure (Next.value x)) h (nextK P K) := by
 rw [swp_bind']; exact hs
theorem uswp {P : Program} {s : Sem Unit} {h : Hp} {K : Value → Hp → Prop} (hs : swp P s h fun _ h' => K undef h') : swp P (do s; pure Next.skip) h (nextK P K) := by
 rw [swp_bind']; exact hs
def nilK (v : Value) (F : Value → Prop) : Prop :=
 match v with
 | .pointer p => nn p fun a => F (.pointer (some a))
 | .iface t x => F (.iface t x)
 | .func (.func f) a b => F (.func (.func f) a b)
 | .map r => F (.map r)
 | .slice p n c => F (.slice p n c)
 | _ => False
def faK (P : Program) (s : TypeId) (f : Nat) (v : Value) (F : Value → Prop) : Prop :=
 match P.underlying s with
 | some (.struct fs) =>
  match fs.toList[f]? with
  | some fl =>
   match v with
   | .pointer p => nn p fun a => bif (P.info? fl.type).isSome && Nat.blt 0 (P.cellsOf fl.type) then F (.pointer (some (a.add fl.offset))) else False
   | _ => False
  | none => False
 | _ => False
def idx (i : Int) (n : Nat) (X : Prop) : Prop := bif decide (0 ≤ i) && decide (i < n) then X else False
def iaK (P : Program) (t : TypeId) (v vi : Value) (F : Value → Prop) : Prop :=
 match vi with
 | .int _ i =>
  match P.underlying t with
  | some (.array n e) =>
   match v with
   | .pointer p => nn p fun a => bif (P.info? e).isSome then idx i n (F (.pointer (some (a.add (i.toNat * P.cellsOf e))))) else False
   | _ => False
  | some (.slice e) =>
   match v with
   | .slice p n _ => bif (P.info? e).isSome then idx i n (nn p fun a => F (.pointer (some (a.add (i.toNat * P.cellsOf e))))) else False
   | _ => False
  | _ => False
 | _ => False
theorem idx_some {i : Int} {n : Nat} {X : Prop} (h : idx i n X) : (0 ≤ i ∧ i < n) ∧ X := by
 unfold idx at h
 cases hb : decide (0 ≤ i) && decide (i < (n : Int)) with
 | false => rw [hb] at h; exact h.elim
 | true => rw [hb] at h; simp only [Bool.and_eq_true, decide_eq_true_eq] at hb; exact ⟨hb, h⟩
theorem idx_ok {i : Int} {n : Nat} {X : Prop} (h0 : 0 ≤ i) (h1 : i < n) : idx i n X = X := by simp [idx, h0, h1]
theorem nn_some {p : Option Addr} {F : Addr → Prop} (h : nn p F) : ∃ a, p = some a ∧ F a := by
 cases p with
 | none => exact h.elim
 | some a => exact ⟨a, rfl, h⟩
theorem faK_swp {P : Program} {s : TypeId} {f : Nat} {v : Value} {h : Hp} {K : Value → Hp → Prop} (hk : faK P s f v fun x => K x h) : swp P (Instr.fieldAt s v f) h K := by
 unfold faK at hk
 split at hk
 ·rename_i fs hu
  split at hk
  ·rename_i fl hf
   split at hk
   ·obtain ⟨a, rfl, hk⟩ := nn_some hk
    cases hb : (P.info? fl.type).isSome && Nat.blt 0 (P.cellsOf fl.type) with
    | false => rw [hb] at hk; exact hk.elim
    | true =>
     rw [hb] at hk
     simp only [Bool.and_eq_true] at hb
     have hpos : P.cellsOf fl.type ≠ 0 := by have := hb.2; simp [Nat.blt_eq] at this; omega
     have hf' : fs[f]? = some fl := by simpa using hf
     unfold Instr.fieldAt
     rw [swp_bind']
     refine underlying_swp hu ?_
     simp only [hf', swp_bind']
     change swp P (fieldPlace a fl) h fun x h' => K (.pointer (some x)) h'
     unfold fieldPlace
     rw [swp_bind']
     refine sizeOf_swp hb.1 ?_
     rw [if_neg hpos]; exact hk
   ·exact hk.elim
  ·exact hk.elim
 ·exact hk.elim
theorem iaK_swp {P : Program} {t : TypeId} {v vi : Value} {h : Hp} {K : Value → Hp → Prop} (hk : iaK P t v vi fun x => K x h) : swp P (Instr.indexAt t v vi) h K := by
 unfold iaK at hk
 split at hk
 ·rename_i k i
  unfold Instr.indexAt
  rw [swp_bind']
  change swp P _ h K
  simp only [swp_bind']
  split at hk
  ·rename_i n e hu
   split at hk
   ·obtain ⟨a, rfl, hk⟩ := nn_some hk
    cases hb : (P.info? e).isSome with
    | false => rw [hb] at hk; exact hk.elim
    | true =>
     rw [hb] at hk
     obtain ⟨hi, hk⟩ := idx_some hk
     refine underlying_swp hu ?_
     simp only [swp_bind']
     change swp P _ h _
     refine underlying_swp hu ?_
     simp only [swp_pure, if_pos hi, swp_bind']
     exact sizeOf_swp hb hk
   ·exact hk.elim
  ·rename_i e hu
   split at hk
   ·cases hb : (P.info? e).isSome with
    | false => rw [hb] at hk; exact hk.elim
    | true =>
     rw [hb] at hk
     obtain ⟨hi, hk⟩ := idx_some hk
     obtain ⟨a, rfl, hk⟩ := nn_some hk
     refine underlying_swp hu ?_
     simp only [swp_bind']
     change swp P _ h _
     refine underlying_swp hu ?_
     simp only [swp_pure, if_pos hi, swp_bind']
     exact sizeOf_swp hb hk
   ·exact hk.elim
  ·exact hk.elim
 ·exact hk.elim
def sadr (p : Option Addr) (m l sz : Nat) : Option Addr := if m = l then p else p.map (·.add (l * sz))
def bnd (x : Option Value) (d y : Nat) (F : Nat → Prop) : Prop :=
 match x with
 | none => F d
 | some (.int _ i) => bif decide (0 ≤ i) && decide (i ≤ y) then F i.toNat else False
 | _ => False
def slK (P : Program) (t : TypeId) (v : Value) (lo hi mx : Option Value) (F : Value → Prop) : Prop :=
 match P.underlying t with
 | some (.slice e) =>
  match v with
  | .slice p n c => bif (P.info? e).isSome then
    bnd mx c c fun m => bnd hi n m fun hh => bif mx.isSome && hi.isNone then False else bnd lo 0 hh fun l => F (.slice (sadr p m l (P.cellsOf e)) (hh - l) (m - l)) else False
  | _ => False
 | some (.array n e) =>
  match v with
  | .pointer p => nn p fun a => bif (P.info? e).isSome then
    bnd mx n n fun m => bnd hi n m fun hh => bif mx.isSome && hi.isNone then False else bnd lo 0 hh fun l => F (.slice (sadr (some a) m l (P.cellsOf e)) (hh - l) (m - l)) else False
  | _ => False
 | some .string =>
  match v with
  | .string s => bif mx.isSome then False else bnd hi s.size s.size fun hh => bnd lo 0 hh fun l => F (.string (s.extract l hh))
  | _ => False
 | _ => False
theorem bnd_some {x : Option Value} {d y : Nat} {F : Nat → Prop} (hb : bnd x d y F) :
  (x = none ∧ F d) ∨ ∃ (k : IntKind) (i : Int), x = some (.int k i) ∧ (0 ≤ i ∧ i ≤ y) ∧ F i.toNat := by
 unfold bnd at hb
 split at hb
 ·exact .inl ⟨rfl, hb⟩
 ·rename_i k i
  cases hc : decide (0 ≤ i) && decide (i ≤ (y : Int)) with
  | false => rw [hc] at hb; exact hb.elim
  | true => rw [hc] at hb; simp only [Bool.and_eq_true, decide_eq_true_eq] at hc; exact .inr ⟨k, i, rfl, hc, hb⟩
 ·exact hb.elim
theorem sliceBound_swp {P : Program} {k : IntKind} {i : Int} {y : Nat} {c : BoundsCode} {h : Hp} {K : Nat → Hp → Prop} (hi : 0 ≤ i ∧ i ≤ y) (hk : K i.toNat h) :
  swp P (Instr.sliceBound (.int k i) y c) h K := by
 unfold Instr.sliceBound
 rw [swp_bind']
 change swp P (if 0 ≤ i ∧ i ≤ (y : Int) then pure i.toNat else boundsPanic k i y c) h K
 rw [if_pos hi]; exact hk
theorem sliceBounds_swp {P : Program} {b : Bool} {n c : Nat} {lo hi mx : Option Value} {h : Hp} {K : Nat × Nat × Nat → Hp → Prop}
  (hk : bnd mx c c fun m => bnd hi n m fun hh => bif mx.isSome && hi.isNone then False else bnd lo 0 hh fun l => K (l, hh, m) h) :
  swp P (Instr.sliceBounds b n c lo hi mx) h K := by
 unfold Instr.sliceBounds
 rcases bnd_some hk with ⟨rfl, hk⟩ | ⟨k, i, rfl, hi1, hk⟩
 ·rcases bnd_some hk with ⟨rfl, hk⟩ | ⟨k2, i2, rfl, hi2, hk⟩
  ·simp only [Option.isSome_none, Option.isSome_some, Option.isNone_none, Option.isNone_some, Bool.and_false, Bool.and_true, Bool.and_self, Bool.false_and, cond_false] at hk
   rcases bnd_some hk with ⟨rfl, hk⟩ | ⟨k3, i3, rfl, hi3, hk⟩
   ·exact hk
   ·dsimp only; simp only [swp_bind', swp_pure]; exact sliceBound_swp hi3 hk
  ·simp only [Option.isSome_none, Option.isSome_some, Option.isNone_none, Option.isNone_some, Bool.and_false, Bool.and_true, Bool.and_self, Bool.false_and, cond_false] at hk
   rcases bnd_some hk with ⟨rfl, hk⟩ | ⟨k3, i3, rfl, hi3, hk⟩
   ·dsimp only; simp only [swp_bind', swp_pure]; exact sliceBound_swp hi2 hk
   ·dsimp only; simp only [swp_bind', swp_pure]; exact sliceBound_swp hi2 (sliceBound_swp hi3 hk)
 ·rcases bnd_some hk with ⟨rfl, hk⟩ | ⟨k2, i2, rfl, hi2, hk⟩
  ·exact hk.elim
  ·simp only [Option.isSome_none, Option.isSome_some, Option.isNone_none, Option.isNone_some, Bool.and_false, Bool.and_true, Bool.and_self, Bool.false_and, cond_false] at hk
   rcases bnd_some hk with ⟨rfl, hk⟩ | ⟨k3, i3, rfl, hi3, hk⟩
   ·dsimp only; simp only [swp_bind', swp_pure]; exact sliceBound_swp hi1 (sliceBound_swp hi2 hk)
   ·dsimp only; simp only [swp_bind', swp_pure]; exact sliceBound_swp hi1 (sliceBound_swp hi2 (sliceBound_swp hi3 hk))
theorem bnd_none {d y : Nat} {F : Nat → Prop} : bnd none d y F = F d := rfl
theorem bnd_mono {x : Option Value} {d y : Nat} {F G : Nat → Prop} (hf : ∀ m, F m → G m) (hb : bnd x d y F) : bnd x d y G := by
 unfold bnd at hb ⊢
 split
 ·exact hf _ hb
 ·rename_i k i
  simp only [] at hb
  cases hc : decide (0 ≤ i) && decide (i ≤ (y : Int)) with
  | false => rw [hc] at hb; exact hb.elim
  | true => rw [hc] at hb; exact hf _ hb
 ·rename_i h1 h2
  split at hb
  ·exact (h1 rfl).elim
  ·exact (h2 _ _ rfl).elim
  ·exact hb.elim
theorem cif_mono {b : Bool} {F G : Prop} (hf : F → G) (hb : bif b then False else F) : bif b then False else G := by
 cases b
 ·exact hf hb
 ·exact hb
theorem slK_swp {P : Program} {t : TypeId} {v : Value} {lo hi mx : Option Value} {h : Hp} {K : Value → Hp → Prop} (hk : slK P t v lo hi mx fun x => K x h) :
  swp P (Instr.sliceAt t v lo hi mx) h K := by
 unfold slK at hk
 unfold Instr.sliceAt
 rw [swp_bind']
 split at hk
 ·rename_i e hu
  refine underlying_swp hu ?_
  split at hk
  ·rename_i p n c
   cases hb : (P.info? e).isSome with
   | false => rw [hb] at hk; exact hk.elim
   | true =>
    rw [hb] at hk
    simp only [cond_true] at hk
    unfold Instr.slice
    simp only [swp_bind']
    refine underlying_swp hu ?_
    simp only [swp_bind']
    refine sliceBounds_swp ?_
    refine bnd_mono (fun m hm => bnd_mono (fun hh hm => cif_mono (fun hm => bnd_mono (fun l hl => ?_) hm) hm) hm) hk
    exact sizeOf_swp hb hl
  ·exact hk.elim
 ·rename_i n e hu
  refine underlying_swp hu ?_
  split at hk
  ·obtain ⟨a, rfl, hk⟩ := nn_some hk
   cases hb : (P.info? e).isSome with
   | false => rw [hb] at hk; exact hk.elim
   | true =>
    rw [hb] at hk
    simp only [nn, cond_true] at hk
    simp only [swp_bind']
    change swp P _ h _
    refine sliceBounds_swp ?_
    refine bnd_mono (fun m hm => bnd_mono (fun hh hm => cif_mono (fun hm => bnd_mono (fun l hl => ?_) hm) hm) hm) hk
    refine sizeOf_swp hb ?_
    rw [swp_pure]
    have : (if m = l then a else a.add (l * P.cellsOf e)) = a ∨ True := .inr trivial
    simp only [sadr, Option.map_some] at hl
    by_cases e1 : m = l
    ·simp only [e1, if_true] at hl ⊢; exact hl
    ·simp only [e1, if_false] at hl ⊢; exact hl
  ·exact hk.elim
 ·rename_i hu
  refine underlying_swp hu ?_
  split at hk
  ·rename_i s
   cases mx with
   | some x => exact hk.elim
   | none =>
    simp only [Option.isSome_none, cond_false] at hk
    unfold Instr.slice
    simp only [swp_bind']
    refine underlying_swp hu ?_
    simp only [Option.isSome_none, Bool.false_eq_true, if_false, swp_bind']
    refine sliceBounds_swp ?_
    rw [bnd_none]
    refine bnd_mono (fun hh hm => ?_) hk
    simp only [Option.isSome_none, Bool.false_and, cond_false]
    exact hm
  ·exact hk.elim
 ·exact hk.elim
end Go.Hw

/-
 More operations: arithmetic, equality, conversions, rows of cells, append, copy, make, maps.
-/
set_option linter.unusedSimpArgs false
set_option linter.unusedVariables false
namespace Go.Hw
open Go
def eqFs (f : TypeId → Value → Value → Option Bool) (prt : TypeId → List Value → Nat → Option Value) (xs ys : List Value) : List Field → Option Bool
 | [] => some true
 | x :: l =>
  match prt x.type xs x.offset, prt x.type ys x.offset with
  | some a, some b =>
   match f x.type a b, eqFs f prt xs ys l with
   | some p, some q => some (p && q)
   | _, _ => none
  | _, _ => none
def eqEs (f : Value → Value → Option Bool) (prt : List Value → Nat → Option Value) (sz : Nat) (xs ys : List Value) : Nat → Nat → Option Bool
 | _, 0 => some true
 | i, n + 1 =>
  match prt xs (i * sz), prt ys (i * sz) with
  | some a, some b =>
   match f a b, eqEs f prt sz xs ys (i + 1) n with
   | some p, some q => some (p && q)
   | _, _ => none
  | _, _ => none
def prt (P : Program) (t : TypeId) (cs : List Value) (off : Nat) : Option Value :=
 bif isAggT P t then some (.agg ⟨(cs.drop off).take (P.cellsOf t)⟩) else cs[off]?
def noBlank : List Field → Bool
 | [] => true
 | f :: l => (decide (f.name ≠ "_")) && noBlank l
def eqV (P : Program) : Nat → TypeId → Value → Value → Option Bool
 | 0, _, _, _ => none
 | d + 1, t, x, y =>
  match P.underlying t with
  | some .bool => match x, y with | .bool a, .bool b => some (a == b) | _, _ => none
  | some (.int _) => match x, y with | .int k a, .int k' b => bif kindEq k k' then some (a == b) else none | _, _ => none
  | some .string => match x, y with | .string a, .string b => some (a == b) | _, _ => none
  | some (.struct fs) => match x, y with
   | .agg ⟨xs⟩, .agg ⟨ys⟩ => eqFs (eqV P d) (prt P) xs ys fs.toList
   | _, _ => none
  | some (.array n e) => match x, y with
   | .agg ⟨xs⟩, .agg ⟨ys⟩ => eqEs (eqV P d e) (prt P e) (P.cellsOf e) xs ys 0 n
   | _, _ => none
  | _ => none
def eqOkF (f : TypeId → Bool) : List Field → Bool
 | [] => true
 | x :: l => f x.type && eqOkF f l
def eqOk (P : Program) : Nat → TypeId → Bool
 | 0, _ => false
 | d + 1, t =>
  match P.underlying t with
  | some .bool | some (.int _) | some .string => (P.info? t).isSome
  | some (.struct fs) => (P.info? t).isSome && noBlank fs.toList && !P.stoodInHeld t && eqOkF (eqOk P d) fs.toList
  | some (.array _ e) => (P.info? t).isSome && (P.info? e).isSome && eqOk P d e
  | _ => false
theorem part_swp {P : Program} {t : TypeId} {cs : List Value} {off : Nat} {v : Value} {h : Hp} {K : Value → Hp → Prop} (hu : (P.underlying t).isSome = true) (hi : (P.info? t).isSome = true)
  (hp : prt P t cs off = some v) (hk : K v h) : swp P (part t ⟨cs⟩ off) h K := by
 unfold part
 rw [swp_bind']
 refine isAgg_swp hu ?_
 unfold prt at hp
 cases ha : isAggT P t with
 | true =>
  rw [ha] at hp
  simp only [cond_true, Option.some.injEq] at hp
  simp only [if_true, swp_bind']
  refine sizeOf_swp hi ?_
  rw [swp_pure]
  have : (⟨cs⟩ : Array Value).extract off (off + P.cellsOf t) = ⟨(cs.drop off).take (P.cellsOf t)⟩ := by
   simp [List.extract_eq_take_drop]
  rw [this, hp]; exact hk
 | false =>
  rw [ha] at hp
  simp only [cond_false] at hp
  simp only [Bool.false_eq_true, if_false]
  have : (⟨cs⟩ : Array Value)[off]? = some v := by simpa using hp
  rw [this]; exact hk
def binI (op : BinOp) (k k' : IntKind) (a b : Int) (F : Value → Prop) : Prop :=
 match op with
 | .shl => bif decide (b < 0) then False else F (.int k (k.wrap (a * 2 ^ (min b.toNat k.bits))))
 | .shr => bif decide (b < 0) then False else F (.int k (a.fdiv (2 ^ (min b.toNat k.bits))))
 | .add => bif kindEq k k' then F (.int k (k.wrap (a + b))) else False
 | .sub => bif kindEq k k' then F (.int k (k.wrap (a - b))) else False
 | .mul => bif kindEq k k' then F (.int k (k.wrap (a * b))) else False
 | .quo => bif kindEq k k' && !decide (b = 0) then F (.int k (k.wrap (a.tdiv b))) else False
 | .rem => bif kindEq k k' && !decide (b = 0) then F (.int k (a.tmod b)) else False
 | .and => bif kindEq k k' then F (.int k (k.wrap (BitVec.ofInt k.bits a &&& BitVec.ofInt k.bits b).toNat)) else False
 | .or => bif kindEq k k' then F (.int k (k.wrap (BitVec.ofInt k.bits a ||| BitVec.ofInt k.bits b).toNat)) else False
 | .xor => bif kindEq k k' then F (.int k (k.wrap (BitVec.ofInt k.bits a ^^^ BitVec.ofInt k.bits b).toNat)) else False
 | .andNot => bif kindEq k k' then F (.int k (k.wrap (BitVec.ofInt k.bits a &&& ~~~(BitVec.ofInt k.bits b)).toNat)) else False
 | .eql => bif kindEq k k' then F (.bool (a == b)) else False
 | .neq => bif kindEq k k' then F (.bool (a != b)) else False
 | .lss => bif kindEq k k' then F (.bool (decide (a < b))) else False
 | .leq => bif kindEq k k' then F (.bool (decide (a ≤ b))) else False
 | .gtr => bif kindEq k k' then F (.bool (decide (a > b))) else False
 | .geq => bif kindEq k k' then F (.bool (decide (a ≥ b))) else False
theorem binI_swp {P : Program} {op : BinOp} {t : TypeId} {k k' : IntKind} {a b : Int} {h : Hp} {K : Value → Hp → Prop} (hk : binI op k k' a b fun v => K v h) :
  swp P (binOp op t (.int k a) (.int k' b)) h K := by
 cases op <;> simp only [binI] at hk
 case shl =>
  cases hd : decide (b < 0) with
  | true => rw [hd] at hk; exact hk.elim
  | false =>
   rw [hd] at hk; have : ¬ b < 0 := of_decide_eq_false hd
   simp only [binOp, Op.shift, if_neg this]; exact hk
 case shr =>
  cases hd : decide (b < 0) with
  | true => rw [hd] at hk; exact hk.elim
  | false =>
   rw [hd] at hk; have : ¬ b < 0 := of_decide_eq_false hd
   simp only [binOp, Op.shift, if_neg this]; exact hk
 case quo =>
  cases hd : kindEq k k' && !decide (b = 0) with
  | false => rw [hd] at hk; exact hk.elim
  | true =>
   rw [hd] at hk; simp only [Bool.and_eq_true, Bool.not_eq_true', decide_eq_false_iff_not] at hd
   have := kindEq_eq hd.1; subst this
   simp only [binOp, Op.intDiv, if_neg hd.2, ne_eq, not_true_eq_false, if_false]; exact hk
 case rem =>
  cases hd : kindEq k k' && !decide (b = 0) with
  | false => rw [hd] at hk; exact hk.elim
  | true =>
   rw [hd] at hk; simp only [Bool.and_eq_true, Bool.not_eq_true', decide_eq_false_iff_not] at hd
   have := kindEq_eq hd.1; subst this
   simp only [binOp, Op.intDiv, if_neg hd.2, ne_eq, not_true_eq_false, if_false]; exact hk
 all_goals
  cases hd : kindEq k k' with
  | false => rw [hd] at hk; exact hk.elim
  | true =>
   rw [hd] at hk
   have := kindEq_eq hd; subst this
   simp only [binOp, ne_eq, not_true_eq_false, if_false]
   exact hk
def binS (op : BinOp) (x y : ByteArray) (F : Value → Prop) : Prop :=
 match op with
 | .add => bif decide (((x.size + y.size : Nat) : Int) > IntKind.i64.max) then False else F (.string (x ++ y))
 | .eql => F (.bool (x.toList == y.toList))
 | .neq => F (.bool !(x.toList == y.toList))
 | .lss => F (.bool (Op.bytesLess x.toList y.toList))
 | .leq => F (.bool (Op.bytesLess x.toList y.toList || x.toList == y.toList))
 | .gtr => F (.bool !(Op.bytesLess x.toList y.toList || x.toList == y.toList))
 | .geq => F (.bool !(Op.bytesLess x.toList y.toList))
 | _ => False
theorem binS_swp {P : Program} {op : BinOp} {t : TypeId} {x y : ByteArray} {h : Hp} {K : Value → Hp → Prop} (hk : binS op x y fun v => K v h) :
  swp P (binOp op t (.string x) (.string y)) h K := by
 cases op <;> simp only [binS] at hk <;> (try exact hk.elim) <;> simp only [binOp, Op.stringOp] <;> (try exact hk)
 cases hd : decide (((x.size + y.size : Nat) : Int) > IntKind.i64.max) with
 | true => rw [hd] at hk; exact hk.elim
 | false => rw [hd] at hk; have := of_decide_eq_false hd; rw [if_neg this]; exact hk
def strish (h : Hp) (a : Addr) : Bool :=
 frz h a || (match shp h a.block with | some (_, n) => frz h { block := a.block, off := n } | none => false)
def apartOk (h : Hp) (a b : Addr) : Prop :=
 (shp h a.block).isSome = true ∧ (shp h b.block).isSome = true ∧ strish h a = false ∧ strish h b = false
def peq (h : Hp) (p q : Option Addr) (F : Bool → Prop) : Prop :=
 match p, q with
 | none, q => F q.isNone
 | some _, none => F false
 | some a, some b => bif Nat.beq a.block b.block then F (a == b) else apartOk h a b ∧ F false
theorem frozen_swp {P : Program} {a : Addr} {h : Hp} {K : Bool → Hp → Prop} : swp P (frozen a) h K = K (frz h a) h := rfl
theorem shape_swp {P : Program} {r : Nat} {h : Hp} {K : Option (TypeId × Nat) → Hp → Prop} : swp P (Go.shape r) h K = K (shp h r) h := rfl
theorem stringish_swp {P : Program} {a : Addr} {h : Hp} {K : Bool → Hp → Prop} (hk : K (strish h a) h) : swp P (stringish a) h K := by
 unfold stringish
 rw [swp_bind']
 change swp P (if frz h a = true then pure true else _) h K
 unfold strish at hk
 cases hf : frz h a with
 | true => rw [hf] at hk; simp only [if_true, Bool.true_or] at hk ⊢; exact hk
 | false =>
  rw [hf] at hk
  simp only [Bool.false_eq_true, if_false, Bool.false_or] at hk ⊢
  rw [swp_bind']
  change swp P (match shp h a.block with | some (_, n) => frozen { block := a.block, off := n } | none => pure false) h K
  cases hs : shp h a.block with
  | none => rw [hs] at hk; exact hk
  | some x => rw [hs] at hk; exact hk
theorem sameAddr_swp {P : Program} {a b : Addr} {h : Hp} {K : Bool → Hp → Prop} (hk : bif Nat.beq a.block b.block then K (a == b) h else apartOk h a b ∧ K false h) :
  swp P (sameAddr a b) h K := by
 unfold sameAddr
 cases hb : Nat.beq a.block b.block with
 | true =>
  rw [hb] at hk
  have : (a.block == b.block) = true := beq_iff_eq.2 (Nat.eq_of_beq_eq_true hb)
  rw [this]; exact hk
 | false =>
  rw [hb] at hk
  have : (a.block == b.block) = false := beq_eq_false_iff_ne.2 (Nat.ne_of_beq_eq_false hb)
  simp only [this, Bool.false_eq_true, if_false]
  obtain ⟨⟨h1, h2, h3, h4⟩, hk⟩ := hk
  have f1 : frz h a = false := by unfold strish at h3; simp only [Bool.or_eq_false_iff] at h3; exact h3.1
  have noV : ∀ (x : Addr) (K : Unit → Hp → Prop), (shp h x.block).isSome = true → K () h → swp P (noView x) h K := by
   intro x K hx hk
   unfold noView viewAt
   simp only [swp_bind', shape_swp, hx, if_true, swp_pure, Option.isSome_none, Bool.false_eq_true, if_false]
   exact hk
  simp only [swp_bind', frozen_swp, f1, Bool.false_and, Bool.false_eq_true, if_false]
  refine noV a _ h1 (noV b _ h2 ?_)
  unfold mayBeOne
  simp only [swp_bind', shape_swp]
  refine stringish_swp ?_
  refine stringish_swp ?_
  simp only [h3, h4, swp_bind', shape_swp, swp_pure, Bool.false_and, Bool.or_self, Bool.false_eq_true, if_false]
  exact hk
end Go.Hw

/-
 Rows of cells read and written; append, copy, make; conversions; indexes; maps.
-/
set_option linter.unusedSimpArgs false
set_option linter.unusedVariables false
namespace Go.Hw
open Go
theorem program_swp {P : Program} {h : Hp} {K : Program → Hp → Prop} : swp P program h K = K P h := rfl
theorem forIn_cons_swp {P : Program} {α β : Type} (f : α → β → Sem (ForInStep β)) (x : α) (l : List α) (b : β) (h : Hp) (K : β → Hp → Prop) :
  swp P (forIn (x :: l) b f) h K = swp P (f x b) h fun r h' => match r with
    | .done b => K b h'
    | .yield b => swp P (forIn l b f) h' K := by
 simp only [List.forIn_cons]
 rw [swp_bind']
 congr 1
 funext r h'
 cases r <;> rfl
abbrev Early := Option Bool × Unit
def early (K : Bool → Hp → Prop) : Early → Hp → Prop := fun r h => K (match r.1 with | some b => b | none => true) h
theorem fields_swp {P : Program} {xs ys : List Value} {f : TypeId → Value → Value → Option Bool} {g : TypeId → Value → Value → Sem Bool} (fs : List Field) :
  ∀ {b : Bool} {h : Hp} {K : Bool → Hp → Prop}, eqFs f (prt P) xs ys fs = some b → noBlank fs = true → K b h →
  (∀ x ∈ fs, ∀ u v c (h : Hp) (K' : Bool → Hp → Prop), f x.type u v = some c → K' c h → (P.underlying x.type).isSome = true ∧ (P.info? x.type).isSome = true ∧ swp P (g x.type u v) h K') →
  swp P (forIn fs ((none, ()) : Early) fun f r =>
    if f.name ≠ "_" then do
     let a ← part f.type ⟨xs⟩ f.offset
     let b ← part f.type ⟨ys⟩ f.offset
     let c ← g f.type a b
     if (!c) = true then pure (ForInStep.done (some false, ()))
     else pure (ForInStep.yield (none, ()))
    else pure (ForInStep.yield (none, ()))) h (early K) := by
 induction fs with
 | nil => intro b h K he _ hk _; cases he; exact hk
 | cons x fs ih =>
  intro b h K he hn hk hg
  simp only [eqFs] at he
  simp only [noBlank, Bool.and_eq_true, decide_eq_true_eq] at hn
  split at he
  ·rename_i u v hu hv
   split at he
   ·rename_i p q hp hq
    simp only [Option.some.injEq] at he
    rw [forIn_cons_swp]
    simp only [hn.1, ne_eq, not_false_eq_true, if_true, swp_bind']
    have tys := hg x (List.mem_cons_self ..) u v p h (fun _ _ => True) hp trivial
    refine part_swp tys.1 tys.2.1 hu ?_
    refine part_swp tys.1 tys.2.1 hv ?_
    refine (hg x (List.mem_cons_self ..) u v p h _ hp ?_).2.2
    cases p with
    | false => simp only [Bool.not_false, if_true, swp_pure]; subst he; exact hk
    | true =>
     simp only [Bool.not_true, Bool.false_eq_true, if_false, swp_pure]
     refine ih hq hn.2 ?_ fun y hy => hg y (List.mem_cons_of_mem _ hy)
     subst he; exact hk
   ·cases he
  ·cases he
theorem elems_swp {P : Program} {e sz : Nat} {xs ys : List Value} {f : Value → Value → Option Bool} {g : Value → Value → Sem Bool}
  (hu : (P.underlying e).isSome = true) (hi : (P.info? e).isSome = true)
  (hg : ∀ u v c (h : Hp) (K' : Bool → Hp → Prop), f u v = some c → K' c h → swp P (g u v) h K') : ∀ (n i : Nat)
  {b : Bool} {h : Hp} {K : Bool → Hp → Prop}, eqEs f (prt P e) sz xs ys i n = some b → K b h →
  swp P (forIn (List.range' i n) ((none, ()) : Early) fun i r => do
    let a ← part e ⟨xs⟩ (i * sz)
    let b ← part e ⟨ys⟩ (i * sz)
    let c ← g a b
    if (!c) = true then pure (ForInStep.done (some false, ()))
    else pure (ForInStep.yield (none, ()))) h (early K) := by
 intro n
 induction n with
 | zero => intro i b h K he hk; cases he; exact hk
 | succ n ih =>
  intro i b h K he hk
  simp only [eqEs] at he
  split at he
  ·rename_i u v hu' hv
   split at he
   ·rename_i p q hp hq
    simp only [Option.some.injEq] at he
    rw [List.range'_succ, forIn_cons_swp]
    simp only [swp_bind']
    refine part_swp hu hi hu' ?_
    refine part_swp hu hi hv ?_
    refine hg u v p h _ hp ?_
    cases p with
    | false => simp only [Bool.not_false, if_true, swp_pure]; subst he; exact hk
    | true =>
     simp only [Bool.not_true, Bool.false_eq_true, if_false, swp_pure]
     refine ih (i + 1) hq ?_
     subst he; exact hk
   ·cases he
  ·cases he
theorem eqOk_has {P : Program} {d : Nat} {t : TypeId} (h : eqOk P d t = true) : (P.underlying t).isSome = true ∧ (P.info? t).isSome = true := by
 cases d with
 | zero => cases h
 | succ d =>
  unfold eqOk at h
  split at h <;> rename_i hu <;> (try exact ⟨by rw [hu]; rfl, h⟩) <;> (try cases h)
  ·simp only [Bool.and_eq_true] at h; exact ⟨by rw [hu]; rfl, h.1.1.1⟩
  ·simp only [Bool.and_eq_true] at h; exact ⟨by rw [hu]; rfl, h.1.1⟩
theorem eqOkF_mem {f : TypeId → Bool} : ∀ {l : List Field}, eqOkF f l = true → ∀ x ∈ l, f x.type = true := by
 intro l
 induction l with
 | nil => intro _ x hx; cases hx
 | cons y l ih =>
  intro h x hx
  simp only [eqOkF, Bool.and_eq_true] at h
  cases hx with
  | head => exact h.1
  | tail _ hm => exact ih h.2 x hm
theorem eqV_swp {P : Program} : ∀ (d d' : Nat) (t : TypeId) (x y : Value) (b : Bool) (h : Hp) (K : Bool → Hp → Prop), d ≤ d' →
  eqV P d t x y = some b → eqOk P d t = true → K b h → swp P (Op.equalIn d' t x y) h K := by
 intro d
 induction d with
 | zero => intro d' t x y b h K _ he; cases he
 | succ d ih =>
  intro d' t x y b h K hd he hok hk
  obtain ⟨d', rfl⟩ : ∃ m, d' = m + 1 := ⟨d' - 1, by omega⟩
  unfold eqV at he
  unfold Op.equalIn
  rw [swp_bind']
  split at he
  ·rename_i hu
   refine underlying_swp hu ?_
   split at he
   ·cases he; exact hk
   ·cases he
  ·rename_i k hu
   refine underlying_swp hu ?_
   split at he
   ·rename_i k a k' b'
    cases hkk : kindEq k k' with
    | false => rw [hkk] at he; cases he
    | true => rw [hkk] at he; have := kindEq_eq hkk; subst this; cases he; simp only [if_true]; exact hk
   ·cases he
  ·rename_i hu
   refine underlying_swp hu ?_
   split at he
   ·cases he; exact hk
   ·cases he
  ·rename_i fs hu
   refine underlying_swp hu ?_
   split at he
   ·rename_i xs ys
    simp only [eqOk, hu, Bool.and_eq_true, Bool.not_eq_true'] at hok
    simp only [swp_bind', program_swp, hok.1.2, Bool.false_eq_true, if_false]
    have hb : ∀ (f : Field → Early → Sem (ForInStep Early)), forIn fs ((none, ()) : Early) f = forIn fs.toList ((none, ()) : Early) f := fun f => by rw [Array.forIn_toList]
    rw [hb]
    have := fields_swp (P := P) (xs := xs) (ys := ys) (f := eqV P d) (g := Op.equalIn d') fs.toList (b := b) (h := h) (K := K) he hok.1.1.2 hk ?_
    ·refine swp_mono _ h ?_ this
     rintro ⟨r, u⟩ h' hr
     cases r <;> exact hr
    ·intro f hf u v c h' K' he' hk'
     have hokf := eqOkF_mem hok.2 f hf
     exact ⟨(eqOk_has hokf).1, (eqOk_has hokf).2, ih d' f.type u v c h' K' (by omega) he' hokf hk'⟩
   ·cases he
  ·rename_i n e hu
   refine underlying_swp hu ?_
   split at he
   ·rename_i xs ys
    simp only [eqOk, hu, Bool.and_eq_true] at hok
    simp only [swp_bind']
    refine sizeOf_swp hok.1.2 ?_
    rw [Std.Legacy.Range.forIn_eq_forIn_range']
    have := elems_swp (P := P) (e := e) (sz := P.cellsOf e) (xs := xs) (ys := ys) (f := eqV P d e) (g := Op.equalIn d' e) (eqOk_has hok.2).1 hok.1.2
     (fun u v c h' K' he' hk' => ih d' e u v c h' K' (by omega) he' hok.2 hk') n 0 (b := b) (h := h) (K := K) he hk
    simp only [Std.Legacy.Range.size, Nat.sub_zero, Nat.add_sub_cancel, Nat.div_one]
    refine swp_mono _ h ?_ this
    rintro ⟨r, u⟩ h' hr
    cases r <;> exact hr
   ·cases he
  ·cases he
end Go.Hw

/-
 Rows of cells read and written; append, copy, make; conversions; indexes; maps.
-/
set_option linter.unusedSimpArgs false
set_option linter.unusedVariables false
namespace Go.Hw
open Go
def rdN (h : Hp) (a : Addr) : Nat → Nat → Option (List Value)
 | _, 0 => some []
 | i, n + 1 =>
  match cell h (a.add i), rdN h a (i + 1) n with
  | some v, some l => some (v :: l)
  | _, _ => none
def st (h : Hp) (a : Addr) (v : Value) (F : Hp → Prop) : Prop := bif plain v then Wr h a ∧ F (setc h a v) else False
def wrL (a : Addr) : Nat → List Value → Hp → (Hp → Prop) → Prop
 | _, [], h, F => F h
 | i, v :: l, h, F => st h (a.add i) v fun h' => wrL a (i + 1) l h' F
def vcells : Value → List Value
 | .agg ⟨l⟩ => l
 | v => [v]
theorem vcells_eq (v : Value) : v.cells.toList = vcells v := by cases v <;> rfl
theorem rdN_some {h : Hp} {a : Addr} : ∀ {n i : Nat} {l : List Value}, rdN h a i n = some l → l.length = n ∧ ∀ j v, l[j]? = some v → cell h (a.add (i + j)) = some v := by
 intro n
 induction n with
 | zero => intro i l h; cases h; simp
 | succ n ih =>
  intro i l hh
  simp only [rdN] at hh
  split at hh
  ·rename_i v l' hv hl
   cases hh
   obtain ⟨h1, h2⟩ := ih hl
   refine ⟨by simp [h1], ?_⟩
   intro j u hj
   cases j with
   | zero => simp at hj; subst hj; simpa using hv
   | succ j =>
    simp at hj
    have := h2 j u hj
    rw [← this]; congr 2; omega
  ·cases hh
theorem loadCells_swp {P : Program} {a : Addr} {h : Hp} {n : Nat} {l : List Value} {K : Array Value → Hp → Prop} (hr : rdN h a 0 n = some l) (hk : K ⟨l⟩ h) :
  swp P (loadCells a n) h K := by
 obtain ⟨h1, h2⟩ := rdN_some hr
 unfold loadCells
 rw [← h1]
 exact loadCellsFrom_swp l 0 #[] K h2 (by simpa using hk)
theorem st_swp {P : Program} {h : Hp} {a : Addr} {v : Value} {K : Unit → Hp → Prop} (hs : st h a v fun h' => K () h') : swp P (store a v) h K := hs
theorem storeCells_swp {P : Program} {a : Addr} : ∀ {l : List Value} {i : Nat} {h : Hp} {K : Unit → Hp → Prop}, (wrL a i l h fun h' => K () h') →
  swp P (storeCells a l i) h K := by
 intro l
 induction l with
 | nil => intro i h K hk; unfold storeCells; exact hk
 | cons v l ih =>
  intro i h K hk
  unfold storeCells
  rw [swp_bind']
  simp only [wrL, st] at hk
  refine st_swp ?_
  unfold st
  cases hp : plain v with
  | false => rw [hp] at hk; exact hk.elim
  | true => rw [hp] at hk; exact ⟨hk.1, ih hk.2⟩
def stK (P : Program) (t : TypeId) (v x : Value) (h : Hp) (F : Hp → Prop) : Prop :=
 match v with
 | .pointer p => nn p fun a => bif (P.info? t).isSome && Nat.beq (vcells x).length (P.cellsOf t) then wrL a 0 (vcells x) h F else False
 | _ => False
theorem stK_swp {P : Program} {t : TypeId} {v x : Value} {h : Hp} {K : Unit → Hp → Prop} (hk : stK P t v x h fun h' => K () h') : swp P (Instr.storeAt t v x) h K := by
 unfold stK at hk
 split at hk
 ·obtain ⟨a, rfl, hk⟩ := nn_some hk
  cases hb : (P.info? t).isSome && Nat.beq (vcells x).length (P.cellsOf t) with
  | false => rw [hb] at hk; exact hk.elim
  | true =>
   rw [hb] at hk
   simp only [Bool.and_eq_true] at hb
   unfold Instr.storeAt
   rw [swp_bind']
   change swp P (storeVar t a x) h K
   unfold storeVar
   simp only [swp_bind']
   refine sizeOf_swp hb.1 ?_
   have e : x.cells.size = P.cellsOf t := by
    rw [← Nat.eq_of_beq_eq_true hb.2, ← vcells_eq]; simp
   simp only [e, ne_eq, not_true_eq_false, if_false]
   rw [vcells_eq]
   exact storeCells_swp hk
 ·exact hk.elim
def sbyte (s : ByteArray) (i : Int) : Int := ((s.data.getD i.toNat 0).toNat : Int)
def ixK (P : Program) (t : TypeId) (v vi : Value) (F : Value → Prop) : Prop :=
 match vi with
 | .int _ i =>
  match P.underlying t with
  | some .string => match v with
   | .string s => idx i s.size (F (.int .u8 (sbyte s i)))
   | _ => False
  | some (.array n e) => match v with
   | .agg ⟨cs⟩ => bif (P.info? e).isSome && (P.underlying e).isSome then idx i n (vK (prt P e cs (i.toNat * P.cellsOf e)) fun v => bif isAggT P e then F v else xC (ctOf P e) (some v) F) else False
   | _ => False
  | _ => False
 | _ => False
theorem xCsome {c : CT} {v : Value} {F : Value → Prop} (h : xC c (some v) F) : F v := by
 obtain ⟨w, e, hF⟩ := xC_some h
 cases e; exact hF
theorem ixK_swp {P : Program} {t : TypeId} {v vi : Value} {h : Hp} {K : Value → Hp → Prop} (hk : ixK P t v vi fun x => K x h) : swp P (Instr.index t v vi) h K := by
 unfold ixK at hk
 split at hk
 ·rename_i k i
  unfold Instr.index
  rw [swp_bind']
  change swp P _ h K
  simp only [swp_bind']
  split at hk
  ·rename_i hu
   refine underlying_swp hu ?_
   split at hk
   ·rename_i s
    obtain ⟨hi, hk⟩ := idx_some hk
    have hlt : i.toNat < s.size := by omega
    have : (if 0 ≤ i then s[i.toNat]? else none) = some s[i.toNat] := by
     rw [if_pos hi.1]; simp [hlt]
    simp only [this, swp_pure]
    have e : sbyte s i = (s[i.toNat].toNat : Int) := by
     unfold sbyte
     have h2 : i.toNat < s.data.size := hlt
     simp only [Array.getD_eq_getD_getElem?, Array.getElem?_eq_getElem h2, Option.getD_some]
     rfl
    rw [e] at hk; exact hk
   ·exact hk.elim
  ·rename_i n e hu
   refine underlying_swp hu ?_
   split at hk
   ·rename_i cs
    cases hb : (P.info? e).isSome && (P.underlying e).isSome with
    | false => rw [hb] at hk; exact hk.elim
    | true =>
     rw [hb] at hk
     simp only [Bool.and_eq_true] at hb
     obtain ⟨hi, hk⟩ := idx_some hk
     simp only [if_pos hi, swp_bind']
     refine sizeOf_swp hb.1 ?_
     unfold vK at hk
     split at hk
     ·rename_i w hw
      refine part_swp hb.2 hb.1 hw ?_
      cases ha : isAggT P e with
      | true => rw [ha] at hk; exact hk
      | false => rw [ha, cond_false] at hk; exact xCsome hk
     ·exact hk.elim
   ·exact hk.elim
  ·exact hk.elim
 ·exact hk.elim
def bcells (s : ByteArray) : List Value := s.data.toList.map fun b => .int .u8 b.toNat
def cbytes : List Value → Option (List UInt8)
 | [] => some []
 | .int .u8 n :: l => match cbytes l with
  | some r => some (UInt8.ofNat n.toNat :: r)
  | none => none
 | _ => none
def b2s (h : Hp) (p : Option Addr) (n : Nat) (F : ByteArray → Prop) : Prop :=
 match p with
 | none => F .empty
 | some a =>
  match rdN h a 0 n with
  | some l => match cbytes l with
   | some r => F ⟨⟨r⟩⟩
   | none => False
  | none => False
def s2b (e : TypeId) (s : ByteArray) (h : Hp) (F : Sl → Hp → Prop) : Prop :=
 ∀ c b, s.size ≤ c → h b = none →
  F ⟨some ⟨b, 0, none⟩, s.size, c⟩ (upd h b (.cells ⟨bcells s ++ List.replicate (c - s.size) (.int .u8 0)⟩ e (c, c + 1)))
def mkSh (h : Hp) (a : Addr) (F : Hp → Prop) : Prop := match shp h a.block with
 | some (_, n) => F (frzn h ⟨a.block, n, none⟩ 1)
 | none => F h
def cvK (P : Program) (src dst : TypeId) (x : Value) (h : Hp) (K : Value → Hp → Prop) : Prop :=
 match P.underlying dst with
 | some (.int k) => match x with
  | .int _ n => bif (P.underlying src).isSome then K (.int k (k.wrap n)) h else False
  | _ => False
 | some .string => match x with
  | .string s => bif (P.underlying src).isSome then K (.string s) h else False
  | .slice p n c => match P.underlying src with
   | some (.slice e) => match P.underlying e with
    | some (.int .u8) => b2s h p n fun s => K (.string s) h
    | _ => False
   | _ => False
  | _ => False
 | some (.slice e) => match x with
  | .string s => match P.underlying e with
   | some (.int .u8) => bif (P.underlying src).isSome then s2b e s h fun r h' => K (.slice r.p r.n r.c) h' else False
   | _ => False
  | .slice p n c => nn p fun a => match P.underlying e with
   | some (.int .u8) => bif Nat.beq src dst then mkSh h a fun h' => K (.slice (some a) n c) h' else False
   | _ => False
  | _ => False
 | some (.pointer _) | some .unsafePointer => swp P (convert src dst x) h K
 | _ => False
theorem cbytes_push {P : Program} : ∀ {l : List Value} {r : List UInt8} {s : ByteArray} {h : Hp} {K : ByteArray → Hp → Prop}, cbytes l = some r → K ⟨⟨s.data.toList ++ r⟩⟩ h →
  swp P (forIn l s fun c s => match c with | .int .u8 n => pure (ForInStep.yield (s.push (UInt8.ofNat n.toNat))) | _ => stuck "bytesToString: byte expected") h K := by
 intro l
 induction l with
 | nil => intro r s h K hc hk; cases hc; simpa [swp_pure] using hk
 | cons v l ih =>
  intro r s h K hc hk
  cases v <;> first | (exfalso; simp [cbytes] at hc; done) | skip
  rename_i k n
  cases k <;> first | (exfalso; simp [cbytes] at hc; done) | skip
  simp only [cbytes] at hc
  split at hc
  ·rename_i r' hr
   cases hc
   rw [forIn_cons_swp]
   refine ih hr ?_
   simpa using hk
  ·cases hc
theorem bcells_eq (s : ByteArray) : (s.data.map fun b => (Value.int .u8 b.toNat)) = ⟨bcells s⟩ := by
 unfold bcells
 rw [← Array.toList_map]
theorem isSome_cond {α : Type} {o : Option α} {X : Prop} (h : bif o.isSome then X else False) : ∃ x, o = some x ∧ X := by
 cases o with
 | none => exact h.elim
 | some x => exact ⟨x, rfl, h⟩
theorem spure_swp {P : Program} {α : Type} {x : α} {h : Hp} {K : α → Hp → Prop} : swp P (Sem.pure x) h K = K x h := rfl
theorem newRow_swp {P : Program} {e : TypeId} {l : Array Value} {h : Hp} {K : Addr → Hp → Prop} : swp P (newRow e l) h K = ∀ b, h b = none → K ⟨b, 0, none⟩ (upd h b (.cells l e)) := rfl
theorem s2b_swp {P : Program} {e : TypeId} {s : ByteArray} {h : Hp} {K : Value → Hp → Prop} (hk : s2b e s h fun r h' => K (.slice r.p r.n r.c) h') :
  swp P (Conv.stringToBytes e s) h K := by
 unfold Conv.stringToBytes
 simp only [swp_bind']
 intro t
 rw [spure_swp, bcells_eq, newRow_swp]
 intro b hb
 have hle : s.size ≤ (Question.appendCap s.size 0 e).cut t := by simp only [Question.cut]; omega
 generalize (Question.appendCap s.size 0 e).cut t = c at hle
 have hsz : (bcells s).length = s.size := by simp [bcells]
 have := hk c b hle hb
 have arr : (⟨bcells s⟩ : Array Value) ++ Array.replicate (c - s.size) (Value.int .u8 0) = ⟨bcells s ++ List.replicate (c - s.size) (.int .u8 0)⟩ := by
  apply Array.ext'; simp
 have hn : (⟨bcells s ++ List.replicate (c - s.size) (.int .u8 0)⟩ : Array Value).size = c := by
  simp [hsz]; omega
 rw [arr]
 generalize hl : (⟨bcells s ++ List.replicate (c - s.size) (.int .u8 0)⟩ : Array Value) = l at this hn
 unfold markStringish
 simp only [swp_bind', shape_swp]
 have hsh : shp (upd h b (.cells l e)) b = some (e, c) := by simp [shp, upd, hn]
 rw [hsh]
 simp only []
 change K (.slice (some ⟨b, 0, none⟩) s.size c) (frzn (upd h b (.cells l e (0, 0))) { block := b, off := c } 1)
 have hf : frzn (upd h b (.cells l e (0, 0))) { block := b, off := c } 1 = upd h b (.cells l e (c, c + 1)) := by
  unfold frzn
  simp only [Nat.one_ne_zero, if_false]
  have : upd h b (.cells l e (0, 0)) b = some (.cells l e (0, 0)) := by simp [upd]
  rw [this]
  funext x
  simp only [upd]
  by_cases hx : x = b <;> simp [hx]
 rw [hf]; exact this
theorem b2s_swp {P : Program} {p : Option Addr} {n c : Nat} {h : Hp} {K : Value → Hp → Prop} (hk : b2s h p n fun s => K (.string s) h) :
  swp P (Conv.bytesToString (.slice p n c)) h K := by
 unfold Conv.bytesToString
 unfold b2s at hk
 split at hk
 ·exact hk
 ·rename_i a
  simp only [swp_bind']
  split at hk
  ·rename_i l hl
   refine loadCells_swp hl ?_
   split at hk
   ·rename_i r hr
    rw [← Array.forIn_toList]
    have := cbytes_push (P := P) (s := .empty) (h := h) (K := fun s h' => K (.string s) h') hr (by simpa using hk)
    refine cast (congrArg (fun f => swp P (forIn l ByteArray.empty f) h _) ?_) this
    funext c s
    cases c <;> first | rfl | skip
   ·exact hk.elim
  ·exact hk.elim
theorem markSh_swp {P : Program} {h : Hp} {a : Addr} {F : Hp → Prop} (hk : mkSh h a F) : swp P (markStringish a) h fun _ h' => F h' := by
 unfold mkSh at hk
 unfold markStringish
 rw [swp_bind']
 change swp P (match shp h a.block with | some (_, n) => freeze { block := a.block, off := n } 1 | _ => pure ()) h _
 cases hs : shp h a.block with
 | none => rw [hs] at hk; exact hk
 | some x => rw [hs] at hk; exact hk
theorem cvK_swp {P : Program} {src dst : TypeId} {x : Value} {h : Hp} {K : Value → Hp → Prop} (hk : cvK P src dst x h K) : swp P (convert src dst x) h K := by
 unfold cvK at hk
 unfold convert
 simp only [swp_bind']
 split at hk
 ·rename_i k h2
  split at hk
  ·obtain ⟨d, h1, hk⟩ := isSome_cond hk
   refine underlying_swp h1 (underlying_swp h2 ?_)
   cases d <;> exact hk
  ·exact hk.elim
 ·rename_i h2
  split at hk
  ·obtain ⟨d, h1, hk⟩ := isSome_cond hk
   refine underlying_swp h1 (underlying_swp h2 ?_)
   cases d <;> exact hk
  ·split at hk
   ·rename_i e h1
    split at hk
    ·rename_i hu
     refine underlying_swp h1 (underlying_swp h2 ?_)
     simp only [swp_bind']
     exact underlying_swp hu (b2s_swp hk)
    ·exact hk.elim
   ·exact hk.elim
  ·exact hk.elim
 ·rename_i e h2
  split at hk
  ·split at hk
   ·rename_i hu
    obtain ⟨d, h1, hk⟩ := isSome_cond hk
    refine underlying_swp h1 (underlying_swp h2 ?_)
    cases d <;> (simp only [swp_bind']; exact underlying_swp hu (s2b_swp hk))
   ·exact hk.elim
  ·obtain ⟨a, rfl, hk⟩ := nn_some hk
   split at hk
   ·rename_i hu
    cases hb : Nat.beq src dst with
    | false => rw [hb] at hk; exact hk.elim
    | true =>
     have e1 := Nat.eq_of_beq_eq_true hb
     refine underlying_swp (e1 ▸ h2) (underlying_swp h2 ?_)
     simp only [swp_bind']
     refine underlying_swp hu ?_
     simp only [e1, BEq.rfl, swp_bind']
     rw [hb] at hk
     exact markSh_swp (F := fun h' => K _ h') hk
   ·exact hk.elim
  ·exact hk.elim
 ·simp only [swp_bind', convert] at hk ⊢; exact hk
 ·simp only [swp_bind', convert] at hk ⊢; exact hk
 ·exact hk.elim
end Go.Hw
