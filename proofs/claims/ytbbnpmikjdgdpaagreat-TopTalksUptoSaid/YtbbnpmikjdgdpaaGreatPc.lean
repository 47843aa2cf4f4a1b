/-
 Results that lie in memory: a function's end.
-/
import Derived.Test.YtbbnpmikjdgdpaaGreatPb
import Derived.WalkKit
import Derived.ProofKit
import Derived.OpenShut
set_option linter.unusedSimpArgs false
set_option linter.unusedVariables false
namespace Go.Hw
open Go
def resM (P : Program) (h : Hp) : List ResultVar → Env → List Value → (List Value → Prop) → Prop
 | [], _, acc, F => F acc.reverse
 | .tmp t :: r, ρ, acc, F => vK (ρ t) fun v => resM P h r ρ (v :: acc) F
 | .cell a t :: r, ρ, acc, F => vK (ρ a) fun p => xP (some p) fun q => nn q fun a => bif (P.underlying t).isSome then ldT P t a h fun v => resM P h r ρ (v :: acc) F else False
inductive Rds {α : Type} : Sem α → Prop
 | pure (a : α) : Rds (.pure a)
 | load (m : Mode) (a : Addr) (k : Value → Sem α) : (∀ v, Rds (k v)) → Rds (.load m a k)
 | program (k : Program → Sem α) : (∀ p, Rds (k p)) → Rds (.program k)
 | halt (h : Halt) : Rds (.halt h)
theorem Rds.bind {α β : Type} {s : Sem α} {f : α → Sem β} (hs : Rds s) (hf : ∀ a, Rds (f a)) : Rds (s.bind f) := by
 induction hs with
 | pure a => exact hf a
 | load m a k _ ih => exact .load m a _ fun v => ih v
 | program k _ ih => exact .program _ fun p => ih p
 | halt h => exact .halt h
theorem Rds.bind' {α β : Type} {s : Sem α} {f : α → Sem β} (hs : Rds s) (hf : ∀ a, Rds (f a)) : Rds (s >>= f) := hs.bind hf
theorem Rds.run {P : Program} {α : Type} {s : Sem α} (hs : Rds s) : ∀ (w : World) (K : α → Hp → Prop), swp P s (hpOf w) K → ∃ x, s.run P w = .ok x w ∧ K x (hpOf w) := by
 induction hs with
 | pure a => intro w K h; exact ⟨a, rfl, h⟩
 | load m a k _ ih =>
  intro w K h
  obtain ⟨v, hv, hk⟩ := h
  obtain ⟨x, hr, hK⟩ := ih v w K hk
  refine ⟨x, ?_, hK⟩
  rw [cell_hp] at hv
  simp only [Sem.run, hv]; exact hr
 | program k _ ih => intro w K h; exact ih _ w K h
 | halt h => intro w K h; exact h.elim
theorem rds_ret {α : Type} (a : α) : Rds (Pure.pure a : Sem α) := .pure a
theorem rds_prog : Rds program := .program _ fun p => .pure p
theorem rds_stuck {α : Type} (s : String) : Rds (stuck s : Sem α) := .halt _
theorem rds_info (t : TypeId) : Rds (typeInfo t) := rds_prog.bind' fun p => by
 split <;> first | exact rds_ret _ | exact rds_stuck _
theorem rds_und (t : TypeId) : Rds (underlying t) := rds_prog.bind' fun p => by
 split <;> first | exact rds_ret _ | exact rds_stuck _
theorem rds_size (t : TypeId) : Rds (Go.sizeOf t) := (rds_info t).bind' fun i => rds_ret _
theorem rds_isAgg (t : TypeId) : Rds (isAgg t) := (rds_und t).bind' fun d => by split <;> exact rds_ret _
theorem rds_load (a : Addr) : Rds (load a) := .load _ _ _ fun v => .pure v
theorem rds_loadCells (a : Addr) : ∀ (n i : Nat) (acc : Array Value), Rds (loadCellsFrom a i n acc) := by
 intro n
 induction n with
 | zero => intro i acc; exact rds_ret _
 | succ n ih => intro i acc; exact (rds_load _).bind' fun v => ih _ _
theorem rds_loadVar (t : TypeId) (a : Addr) : Rds (loadVar t a) := (rds_isAgg t).bind' fun b => by
 cases b
 ·exact rds_load _
 ·exact (rds_size t).bind' fun n => (rds_loadCells _ _ _ _).bind' fun c => rds_ret _
theorem rds_asAddr (v : Value) : Rds (asAddr v) := by
 unfold asAddr
 split
 ·exact rds_ret _
 ·unfold runtimePanic
  exact rds_prog.bind' fun p => .halt _
 ·exact rds_stuck _
theorem results_M (P : Program) (fn : Func) (ρ : Env) (a : Act) (n : Nat) (ha : Ag n ρ a) (w : World) (F : List Value → Prop)
  (h : resM P (hpOf w) fn.results.toList ρ [] F) : ∃ l, F l ∧ (results fn a.tmps).run P w = .ok (resV l) w := by
 let g : ResultVar → Sem Value := fun | .tmp t => pure (a.tmps.getD t undef) | .cell a' t => do loadVar t (← asAddr (a.tmps.getD a' undef))
 have rg : ∀ r, Rds (g r) := by
  intro r
  cases r with
  | tmp t => exact rds_ret _
  | cell a' t => exact (rds_asAddr _).bind' fun x => rds_loadVar _ _
 have rm : ∀ rs : List ResultVar, Rds (rs.mapM g) := by
  intro rs
  induction rs with
  | nil => exact rds_ret _
  | cons r rs ih => rw [List.mapM_cons]; exact (rg r).bind' fun x => ih.bind' fun l => rds_ret _
 have key : ∀ (rs : List ResultVar) (acc : List Value) (h : Hp), resM P h rs ρ acc F → swp P (rs.mapM g) h (fun l _ => F (acc.reverse ++ l)) := by
  intro rs
  induction rs with
  | nil => intro acc h hm; rw [List.mapM_nil]; show F _; simpa [resM] using hm
  | cons r rs ih =>
   intro acc h hm
   rw [List.mapM_cons, swp_bind']
   cases r with
   | tmp t =>
    simp only [resM] at hm
    cases hv : ρ t with
    | none => rw [hv] at hm; exact hm.elim
    | some v =>
     rw [hv] at hm
     have hg : a.tmps.getD t undef = v := by have := ha.2.2 t v hv; simp [this]
     show swp P (do let l ← rs.mapM g; pure (a.tmps.getD t undef :: l)) h _
     rw [hg, swp_bind']
     refine swp_mono _ _ ?_ (ih (v :: acc) h hm)
     intro l h' hl
     show F _
     simpa using hl
   | cell a' t =>
    simp only [resM] at hm
    cases hv : ρ a' with
    | none => rw [hv] at hm; exact hm.elim
    | some v =>
     rw [hv] at hm
     have hg : a.tmps.getD a' undef = v := by have := ha.2.2 a' v hv; simp [this]
     simp only [vK] at hm
     cases v <;> simp only [xP] at hm <;> first | exact hm.elim | skip
     ·rename_i p
      obtain ⟨p, rfl, hm'⟩ := nn_some hm
      cases hu : (P.underlying t).isSome with
      | false => rw [hu] at hm'; exact hm'.elim
      | true =>
       rw [hu, cond_true] at hm'
       show swp P (do let x ← asAddr (a.tmps.getD a' undef); loadVar t x) h _
       rw [hg]
       show swp P (loadVar t p) h _
       refine swp_mono _ _ ?_ (loadVar_swp (K := fun v h' => resM P h' rs ρ (v :: acc) F) hu hm')
       intro x h' hx
       show swp P (do let l ← rs.mapM g; pure (x :: l)) h' _
       rw [swp_bind']
       refine swp_mono _ _ ?_ (ih (x :: acc) h' hx)
       intro l h' hl
       show F _
       simpa using hl
 obtain ⟨l, hr, hl⟩ := (rm _).run w _ (key _ [] _ h)
 refine ⟨l, by simpa using hl, ?_⟩
 unfold results
 simp only [Array.mapM_eq_mapM_toList]
 have e2 : ∃ m : Sem (List Value), m = fn.results.toList.mapM g := ⟨_, rfl⟩
 have rb : ∀ {α β : Type} (s : Sem α) (f : α → Sem β) (x : α), s.run P w = .ok x w → (s >>= f).run P w = (f x).run P w := by
  intro α β s f x hs
  exact (Sem.run_bind' P s f w).trans (by rw [hs]; rfl)
 rw [rb _ _ l.toArray (rb _ _ l hr)]
 rcases l with _ | ⟨x, _ | ⟨y, l⟩⟩ <;> simp [Sem.run, resV] <;> rfl
def retM (P : Program) (rs : List ResultVar) (K : Value → Hp → Prop) : Exit → Env → Hp → Prop
 | .normal, ρ, h => resM P h rs ρ [] fun l => K (resV l) h
 | .ret, ρ, h => resM P h rs ρ [] fun l => K (resV l) h
 | _, _, _ => False
theorem calls_of_M {P : Program} {f : FuncId} {fn : Func} {c : Code} {args : Array Value} {h : Hp} {K : Value → Hp → Prop}
  (hf : P.funcs[f]? = some fn) (hb : fn.body = some c) (hn : Nat.ble args.size fn.ntmps = true)
  (hd : D P fn.ntmps c (env0 args) h (retM P fn.results.toList K)) : HCalls P f args h K := by
 intro w hw
 have hn' : args.size ≤ fn.ntmps := Nat.le_of_ble_eq_true hn
 refine calls_of_wp hf hb (wp_mono (hd _ w ⟨?_, trivial, ?_⟩ hw) ?_)
 ·simp; omega
 ·intro t v ht
  obtain ⟨_, h2⟩ := argsE_get args.toList 0 t v ht
  have h3 : args[t]? = some v := by simpa using h2
  have hlt : t < args.size := (Array.getElem?_eq_some_iff.1 h3).1
  rw [Array.getElem?_append_left hlt]; exact h3
 ·rintro e a' w' ⟨ρ', g1, g2, g3⟩
  cases e with
  | normal =>
   obtain ⟨l, hl, hr⟩ := results_M P fn ρ' a' _ g1 w' _ g3
   exact ⟨g2.2.1, _, hr, _, rfl, hl, g2.2.2⟩
  | ret =>
   obtain ⟨l, hl, hr⟩ := results_M P fn ρ' a' _ g1 w' _ g3
   exact ⟨g2.2.1, _, hr, _, rfl, hl, g2.2.2⟩
  | exit i => exact g3.elim
  | goto l => exact g3.elim
  | panic ch => exact g3.elim
  | outgrown => exact g3.elim
end Go.Hw

/-
 Small laws for proofs over heaps: blocks, cells, stores, slices that own their row.
-/
set_option linter.unusedSimpArgs false
set_option linter.unusedVariables false
namespace Go.Hw
open Go
def Blk (h : Hp) (b : Nat) (T : TypeId) (l : List Value) : Prop := h b = some (.cells ⟨l⟩ T (0, 0))
theorem upd_same {h : Hp} {b : Nat} {o : Obj} : upd h b o b = some o := by simp [upd]
theorem upd_ne {h : Hp} {b c : Nat} {o : Obj} (hn : c ≠ b) : upd h b o c = h c := by simp [upd, hn]
theorem Blk.upd_same {h : Hp} {b : Nat} {T : TypeId} {l : List Value} : Blk (upd h b (.cells ⟨l⟩ T (0, 0))) b T l := Hw.upd_same
@[simp] theorem add_mk (b o n : Nat) : (Addr.mk b o none).add n = ⟨b, o + n, none⟩ := by
 unfold Addr.add; split
 ·rename_i h; subst h; rfl
 ·rfl
@[simp] theorem add_bk (b n : Nat) : (bk b).add n = ⟨b, n, none⟩ := by rw [bk, add_mk, Nat.zero_add]
theorem cell_at {h : Hp} {b k : Nat} {T : TypeId} {l : List Value} {z : Nat × Nat} (hb : h b = some (.cells ⟨l⟩ T z)) : cell h ⟨b, k, none⟩ = l[k]? := by
 simp [cell, hb]
theorem Blk.cell {h : Hp} {b k : Nat} {T : TypeId} {l : List Value} (hb : Blk h b T l) : Hw.cell h ⟨b, k, none⟩ = l[k]? := cell_at hb
theorem Blk.wr {h : Hp} {b k : Nat} {T : TypeId} {l : List Value} (hb : Blk h b T l) (hk : k < l.length) : Wr h ⟨b, k, none⟩ := by
 refine ⟨by rw [hb.cell]; simp [hk], ?_⟩
 unfold Blk at hb
 simp [frz, hb]
theorem Blk.setc {h : Hp} {b k : Nat} {T : TypeId} {l : List Value} {v : Value} (hb : Blk h b T l) : Hw.setc h ⟨b, k, none⟩ v = upd h b (.cells ⟨l.set k v⟩ T (0, 0)) := by
 unfold Blk at hb
 simp [Hw.setc, hb]
theorem Blk.st {h : Hp} {b k : Nat} {T : TypeId} {l : List Value} {v : Value} {F : Hp → Prop} (hb : Blk h b T l) (hk : k < l.length) (hp : plain v = true)
  (hF : F (upd h b (.cells ⟨l.set k v⟩ T (0, 0)))) : Hw.st h ⟨b, k, none⟩ v F := by
 unfold Hw.st; rw [hp]; refine ⟨hb.wr hk, ?_⟩; rw [hb.setc]; exact hF
theorem xI_of {k : IntKind} {o : Option Value} {n : Int} {F : Int → Prop} (ho : o = some (.int k n)) (hF : F n) : xI k o F := by
 subst ho; unfold xI; cases k <;> exact hF
theorem xB_of {o : Option Value} {b : Bool} {F : Bool → Prop} (ho : o = some (.bool b)) (hF : F b) : xB o F := by subst ho; exact hF
theorem xS_of {o : Option Value} {b : ByteArray} {F : ByteArray → Prop} (ho : o = some (.string b)) (hF : F b) : xS o F := by subst ho; exact hF
theorem xP_of {o : Option Value} {p : Option Addr} {F : Option Addr → Prop} (ho : o = some (.pointer p)) (hF : F p) : xP o F := by subst ho; exact hF
theorem xL_of {o : Option Value} {s : Sl} {F : Sl → Prop} (ho : o = some s.v) (hF : F s) : xL o F := by subst ho; exact hF
theorem xM_of {o : Option Value} {r : Option Nat} {F : Option Nat → Prop} (ho : o = some (.map r)) (hF : F r) : xM o F := by subst ho; exact hF
theorem xA_of {o : Option Value} {v : Value} {F : Value → Prop} (ho : o = some v) (hF : F v) : xA o F := by subst ho; exact hF
theorem kindEq_self (k : IntKind) : kindEq k k = true := by cases k <;> rfl
@[simp] theorem xI_some {k : IntKind} {n : Int} {F : Int → Prop} : xI k (some (.int k n)) F = F n := by unfold xI; simp [kindEq_self]
@[simp] theorem xB_some {b : Bool} {F : Bool → Prop} : xB (some (.bool b)) F = F b := rfl
@[simp] theorem xS_some {b : ByteArray} {F : ByteArray → Prop} : xS (some (.string b)) F = F b := rfl
@[simp] theorem xP_some {b : Option Addr} {F : Option Addr → Prop} : xP (some (.pointer b)) F = F b := rfl
@[simp] theorem xL_some {p : Option Addr} {n c : Nat} {F : Sl → Prop} : xL (some (.slice p n c)) F = F ⟨p, n, c⟩ := rfl
@[simp] theorem xL_v {s : Sl} {F : Sl → Prop} : xL (some s.v) F = F s := rfl
@[simp] theorem xM_some {b : Option Nat} {F : Option Nat → Prop} : xM (some (.map b)) F = F b := rfl
@[simp] theorem xA_some {v : Value} {F : Value → Prop} : xA (some v) F = F v := rfl
@[simp] theorem nn_some' {a : Addr} {F : Addr → Prop} : nn (some a) F = F a := rfl
@[simp] theorem both_only {h : Hp} {v : Value} {A X : Prop} : both A X = (A ∧ X) := rfl
@[simp] theorem only_self {v : Value} {h : Hp} : Only v h v h = True := by simp [Only]
theorem idx_of {i : Int} {n : Nat} {X : Prop} (h0 : 0 ≤ i) (h1 : i < n) (hX : X) : idx i n X := by rw [idx_ok h0 h1]; exact hX
theorem bd_of {i : Int} {y : Nat} {F : Nat → Prop} (h0 : 0 ≤ i) (h1 : i ≤ y) (hF : F i.toNat) : bd i y F := by
 unfold bd; simp [h0, h1, hF]
theorem bd_nat {i y : Nat} {F : Nat → Prop} (h1 : i ≤ y) (hF : F i) : bd (i : Int) y F := bd_of (by omega) (by omega) (by simpa using hF)
@[simp] theorem sadr_zero (p : Option Addr) (m sz : Nat) : sadr p m 0 sz = p := by
 unfold sadr; split
 ·rfl
 ·cases p with
  | none => rfl
  | some a => simp [Addr.add]
/-! ### frames -/
def Ext (S : Nat → Prop) (h h' : Hp) : Prop := ∀ b o, h b = some o → ¬ S b → h' b = some o
theorem Ext.refl {S : Nat → Prop} {h : Hp} : Ext S h h := fun _ _ hb _ => hb
theorem Ext.trans {S : Nat → Prop} {h h' h'' : Hp} (h1 : Ext S h h') (h2 : Ext S h' h'') : Ext S h h'' := fun b o hb hs => h2 b o (h1 b o hb hs) hs
theorem Ext.new {S : Nat → Prop} {h : Hp} {b : Nat} {o : Obj} (hb : h b = none) : Ext S h (upd h b o) := by
 intro c o' hc _
 have : c ≠ b := by rintro rfl; rw [hb] at hc; cases hc
 rw [upd_ne this]; exact hc
theorem Ext.upd {S : Nat → Prop} {h : Hp} {b : Nat} {o : Obj} (hb : S b) : Ext S h (upd h b o) := by
 intro c o' hc hn
 have : c ≠ b := by rintro rfl; exact hn hb
 rw [upd_ne this]; exact hc
abbrev none' : Nat → Prop := fun _ => False
end Go.Hw

/-
 Slices that own their row: reading, writing, append.
-/
set_option linter.unusedSimpArgs false
set_option linter.unusedVariables false
namespace Go.Hw
open Go
def Own (h : Hp) (T : TypeId) (sz : Nat) (s : Sl) (vs : List Value) : Prop :=
 vs.length = s.n * sz ∧ s.n ≤ s.c ∧
 match s.p with
 | none => s.c = 0
 | some a => a = bk a.block ∧ ∃ cs, Blk h a.block T cs ∧ cs.length = s.c * sz ∧ cs.take vs.length = vs
theorem Own.nil {h : Hp} {T : TypeId} {sz : Nat} : Own h T sz ⟨none, 0, 0⟩ [] := ⟨by simp, Nat.le_refl _, rfl⟩
theorem Own.row {h : Hp} {T : TypeId} {sz : Nat} {s : Sl} {vs : List Value} (ho : Own h T sz s vs) (hn : vs ≠ []) :
  ∃ b cs, s.p = some (bk b) ∧ Blk h b T cs ∧ cs.length = s.c * sz ∧ cs.take vs.length = vs := by
 obtain ⟨h1, h2, h3⟩ := ho
 cases hp : s.p with
 | none =>
  rw [hp] at h3
  have h3' : s.c = 0 := h3
  have : s.n = 0 := by omega
  rw [this, Nat.zero_mul] at h1
  exact absurd (List.length_eq_zero_iff.1 h1) hn
 | some a =>
  rw [hp] at h3
  obtain ⟨e, cs, hb, hl, ht⟩ := h3
  exact ⟨a.block, cs, by rw [← e], hb, hl, ht⟩
theorem Own.get {h : Hp} {T : TypeId} {sz : Nat} {s : Sl} {vs : List Value} (ho : Own h T sz s vs) {k : Nat} {v : Value} (hk : vs[k]? = some v) :
  ∃ b, s.p = some (bk b) ∧ cell h ⟨b, k, none⟩ = some v := by
 have hlt := (List.getElem?_eq_some_iff.1 hk).1
 obtain ⟨b, cs, hp, hb, hl, ht⟩ := ho.row (by intro e; rw [e] at hlt; simp at hlt)
 refine ⟨b, hp, ?_⟩
 rw [hb.cell]
 rw [← ht, List.getElem?_take, if_pos hlt] at hk
 exact hk
theorem rdN_blk {h : Hp} {b : Nat} {T : TypeId} {cs : List Value} (hb : Blk h b T cs) : ∀ (n i : Nat), i + n ≤ cs.length → rdN h (bk b) i n = some ((cs.drop i).take n) := by
 intro n
 induction n with
 | zero => intro i _; simp [rdN]
 | succ n ih =>
  intro i hi
  simp only [rdN, add_bk, hb.cell]
  have hlt : i < cs.length := by omega
  rw [List.getElem?_eq_getElem hlt, ih (i + 1) (by omega)]
  rw [List.drop_eq_getElem_cons hlt, List.take_succ_cons]
theorem srcK_own {h : Hp} {T : TypeId} {sz : Nat} {s : Sl} {vs : List Value} {n : Nat} {F : List Value → Prop} (ho : Own h T sz s vs) (hn : n ≤ s.n) (hF : F (vs.take (n * sz))) : srcK h sz n s.v F := by
 obtain ⟨h1, h2, h3⟩ := ho
 unfold srcK Sl.v
 simp only []
 have hle : n * sz ≤ s.n * sz := Nat.mul_le_mul_right _ hn
 cases hp : s.p with
 | none =>
  rw [hp] at h3
  have : s.c = 0 := h3
  have : s.n = 0 := by omega
  rw [this, Nat.zero_mul] at h1
  rw [List.length_eq_zero_iff.1 h1] at hF
  simpa using hF
 | some a =>
  rw [hp] at h3
  obtain ⟨e, cs, hb, hl, ht⟩ := h3
  simp only []
  rw [e]
  have hcs : s.n * sz ≤ s.c * sz := Nat.mul_le_mul_right _ h2
  rw [rdN_blk hb _ _ (by omega)]
  simp only [List.drop_zero]
  have : cs.take (n * sz) = vs.take (n * sz) := by
   rw [← ht, List.take_take]; congr 1; omega
  rw [this]; exact hF
def setL (cs : List Value) (i : Nat) : List Value → List Value
 | [] => cs
 | v :: l => setL (cs.set i v) (i + 1) l
theorem setL_length {l : List Value} : ∀ {cs : List Value} {i : Nat}, (setL cs i l).length = cs.length := by
 induction l with
 | nil => intro cs i; rfl
 | cons v l ih => intro cs i; simp [setL, ih]
theorem setL_eq {l : List Value} : ∀ {cs : List Value} {i : Nat}, i + l.length ≤ cs.length → setL cs i l = cs.take i ++ l ++ cs.drop (i + l.length) := by
 induction l with
 | nil => intro cs i _; simp [setL]
 | cons v l ih =>
  intro cs i hi
  simp only [List.length_cons] at hi
  simp only [setL]
  rw [ih (by simp; omega)]
  have h1 : (cs.set i v).take (i + 1) = cs.take i ++ [v] := by
   rw [List.take_succ_eq_append_getElem (by simp; omega)]
   simp [List.take_set_of_le]
  have h2 : (cs.set i v).drop (i + 1 + l.length) = cs.drop (i + (l.length + 1)) := by
   rw [List.drop_set_of_lt (by omega)]; congr 1; omega
  rw [h1, h2]; simp
theorem wrL_blk {b : Nat} {T : TypeId} {F : Hp → Prop} {o : Nat} : ∀ (l : List Value) (i : Nat) (h : Hp) (cs : List Value), Blk h b T cs → o + i + l.length ≤ cs.length → (∀ v ∈ l, plain v = true) →
  (∀ h', Blk h' b T (setL cs (o + i) l) → (∀ c, c ≠ b → h' c = h c) → F h') → wrL ⟨b, o, none⟩ i l h F := by
 intro l
 induction l with
 | nil => intro i h cs hb _ _ hF; exact hF h hb fun _ _ => rfl
 | cons v l ih =>
  intro i h cs hb hi hp hF
  simp only [List.length_cons] at hi
  simp only [wrL, add_mk]
  refine hb.st (by omega) (hp v (List.mem_cons_self ..)) ?_
  refine ih (i + 1) _ (cs.set (o + i) v) Blk.upd_same (by simp; omega) (fun w hw => hp w (List.mem_cons_of_mem _ hw)) ?_
  intro h' hb' hf
  refine hF h' ?_ ?_
  ·exact hb'
  ·intro c hc; rw [hf c hc, upd_ne hc]
theorem zeros_len (P : Program) (e : TypeId) (n : Nat) : (zeros P e n).toList.length = n * (zc P e).length := by
 unfold zeros Builtin.zeroCells; simp
theorem nextcap_le (n c : Nat) (h : c < n) : Builtin.nextslicecap n c ≤ 2 * n := by
 unfold Builtin.nextslicecap
 split
 ·omega
 ·split
  ·omega
  ·have g : ∀ (r c : Nat), 256 ≤ n → c ≤ 2 * n → Builtin.growBy n r c ≤ 2 * n := by
    intro r
    induction r with
    | zero => intro c _ hc; exact hc
    | succ r ih =>
     intro c hn hc
     unfold Builtin.growBy
     split
     ·exact hc
     ·exact ih _ hn (by omega)
   exact g 4 c (by omega) (by omega)
theorem apK_own {P : Program} {T : TypeId} {sz : Nat} {s : Sl} {vs ns : List Value} {y : Value} {h : Hp} {F : Sl → Hp → Prop} {n : Nat} (ho : Own h T sz s vs)
  (hsz : P.cellsOf T = sz) (hz : (zc P T).length = sz) (hln : ∀ G : Nat → Prop, lnK y G = G n) (hsrc : ∀ G : List Value → Prop, G ns → srcK h sz n y G)
  (hns : ns.length = n * sz) (hpl : ∀ v ∈ ns, plain v = true) (hby : (s.n + n) * 2 * P.bytesOf T ≤ 2 ^ 48)
  (hF : ∀ s' h', Own h' T sz s' (vs ++ ns) → s'.n = s.n + n → Ext (fun b => s.p = some (bk b)) h h' → (∀ b, s'.p = some (bk b) → s.p = some (bk b) ∨ h b = none) → F s' h') : apK P T s y h F := by
 unfold apK
 rw [hln]
 obtain ⟨h1, h2, h3⟩ := ho
 refine ⟨fun hc => ?_, fun hc => ⟨?_, ?_⟩⟩
 ·rw [hsz]
  refine hsrc _ ?_
  cases hp : s.p with
  | none =>
   rw [hp] at h3
   have h3' : s.c = 0 := h3
   have : n = 0 := by omega
   subst this
   rw [Nat.zero_mul] at hns
   rw [List.length_eq_zero_iff.1 hns] at hF
   simp only []
   refine hF ⟨none, s.n + 0, s.c⟩ h ⟨by simp [h1], by simp; omega, h3'⟩ rfl Ext.refl (by intro b hb; cases hb)
  | some a =>
   rw [hp] at h3
   obtain ⟨e, cs, hb, hl, ht⟩ := h3
   simp only []
   have hmul : (s.n + n) * sz ≤ s.c * sz := Nat.mul_le_mul_right _ hc
   rw [Nat.add_mul] at hmul
   rw [e, add_bk]
   refine wrL_blk ns 0 h cs hb (by omega) hpl ?_
   intro h' hb' hf
   rw [Nat.add_zero, setL_eq (by omega)] at hb'
   refine hF ⟨some (bk a.block), s.n + n, s.c⟩ h' ⟨by simp [h1, hns, Nat.add_mul], hc, rfl, _, hb', ?_, ?_⟩ rfl ?_ ?_
   ·simp; omega
   ·rw [← h1, ht]
    rw [List.append_assoc, ← List.append_assoc vs, List.take_left']
    simp
   ·intro c o hco hn
    have : c ≠ a.block := by rintro rfl; exact hn (by show s.p = some (bk a.block); rw [hp, ← e])
    rw [hf c this]; exact hco
   ·intro b hb; left; rw [← hb]; rw [hp, ← e]
 ·have := nextcap_le (s.n + n) s.c hc
  calc _ ≤ 2 * (s.n + n) * P.bytesOf T := Nat.mul_le_mul_right _ this
   _ = (s.n + n) * 2 * P.bytesOf T := by rw [Nat.mul_comm 2]
   _ ≤ 2 ^ 48 := hby
 ·rw [hsz]
  refine srcK_own ⟨h1, h2, h3⟩ (Nat.le_refl _) ?_
  refine hsrc _ ?_
  intro c b hcb hb
  rw [← h1, List.take_length]
  have harr : (⟨vs ++ ns⟩ : Array Value) ++ zeros P T (c - (s.n + n)) = ⟨(vs ++ ns) ++ (zeros P T (c - (s.n + n))).toList⟩ := by apply Array.ext'; simp
  rw [harr]
  refine hF ⟨some (bk b), s.n + n, c⟩ _ ⟨by simp [h1, hns, Nat.add_mul], hcb, rfl, _, Blk.upd_same, ?_, ?_⟩ rfl (Ext.new hb) ?_
  ·show _ = c * sz
   rw [List.length_append, zeros_len, hz, List.length_append, h1, hns, ← Nat.add_mul, ← Nat.add_mul]; congr 1; omega
  ·exact List.take_left
  ·intro b' hb'; right
   simp only [Option.some.injEq] at hb'
   have : b = b' := congrArg Addr.block hb'
   subst this; exact hb
theorem Own.st {h : Hp} {T : TypeId} {sz : Nat} {s : Sl} {vs : List Value} (ho : Own h T sz s vs) {k : Nat} (hk : k < vs.length) : ∃ r, s.p = some (bk r) ∧ (∃ cs, Blk h r T cs) ∧
  ∀ (v : Value) (F : Hp → Prop), plain v = true → (∀ h', Own h' T sz s (vs.set k v) → Ext (fun b => b = r) h h' → F h') → st h ⟨r, k, none⟩ v F := by
 obtain ⟨r, cs, hp, hb, hl, ht⟩ := ho.row (by intro e; rw [e] at hk; simp at hk)
 obtain ⟨h1, h2, h3⟩ := ho
 refine ⟨r, hp, ⟨cs, hb⟩, fun v F hv hF => ?_⟩
 have hkc : k < cs.length := by
  have := congrArg List.length ht
  simp only [List.length_take] at this; omega
 refine hb.st hkc hv (hF _ ⟨by simpa using h1, h2, ?_⟩ (Ext.upd rfl))
 rw [hp]
 refine ⟨rfl, _, Blk.upd_same, by simpa using hl, ?_⟩
 rw [List.length_set, List.take_set, ht]
theorem peq_none {h : Hp} {p : Option Addr} {F : Bool → Prop} : peq h p none F = F p.isNone := by cases p <;> rfl
end Go.Hw

/-
 The arguments of a law: slices that are read, and that read behind the call as they read before.
-/
set_option linter.unusedSimpArgs false
set_option linter.unusedVariables false
namespace Go.Hw
open Go
open Go.ChangeShapes Go.WideShapes Go.ChangeAt Go.RowKit
theorem kept_of {w w' : World} (hp : Kp w w') (he : Ext none' (hpOf w) (hpOf w')) : w.keptBut w' (fun _ => False) := by
 refine ⟨hp.1, hp.2, fun i hi => ?_⟩
 have h1 : w.heap[i]? = some w.heap[i] := Array.getElem?_eq_getElem hi
 have h2 : w'.heap[i]? = some w.heap[i] := he i _ h1 (fun e => e)
 rw [h1, h2]
 cases w.heap[i] with
 | cells c t fr => exact ⟨rfl, rfl, rfl, fun _ _ => rfl⟩
 | map es c => exact .inr ⟨rfl, rfl⟩
 | _ => rfl
theorem add_add (a : Addr) (m n : Nat) : (a.add m).add n = a.add (m + n) := by
 unfold Addr.add
 by_cases h1 : m = 0
 ·subst h1; simp
 ·by_cases h2 : n = 0
  ·subst h2; simp
  ·simp [h1, h2, Nat.add_assoc]
section
variable {H : Type} {enc : TypeId × Value → H} {P : Program}
theorem trodAll_stays (hl : laidOutB P = true) {W W' : World} {sp' : Nat → Bool} (he : Ext none' (hpOf W) (hpOf W')) : ∀ {ts : List TypeId} {vs : List Value} {ds : List (DataW H)} {ps : List MemPlace},
  (∀ t ∈ ts, P.readableRec t = true ∧ t < P.types.size) → DataW.TrodAll enc P W 0 (fun _ => true) true ts vs ds ps → (∀ p ∈ ps, p.block < W.heap.size) → (∀ p ∈ ps, sp' p.block = true) → DataW.TrodAll enc P W' 0 sp' true ts vs ds ps := by
 intro ts
 induction ts with
 | nil => intro vs ds ps _ h _ _; obtain ⟨rfl, rfl, rfl⟩ := trodAll_nil h; rfl
 | cons t ts ih =>
  intro vs ds ps hr h hlt hs
  obtain ⟨v, vs', d, ds', p, q, rfl, rfl, rfl, h1, h2⟩ := trodAll_cons h
  refine ⟨p, q, WideElems.Trod_stays hl (hr t (by simp)).1 (hr t (by simp)).2 h1 ?_ (fun x hx => hs x (by simp [hx])), ih (fun u hu => hr u (by simp [hu])) h2 (fun x hx => hlt x (by simp [hx])) (fun x hx => hs x (by simp [hx])), rfl⟩
  intro x hx
  have hb := hlt x (by simp [hx])
  have e : W'.heap[x.block]? = W.heap[x.block]? := by
   have h1 : W.heap[x.block]? = some W.heap[x.block] := Array.getElem?_eq_getElem hb
   rw [h1]; exact he _ _ h1 (fun e => e)
  cases x with
  | cell b off => exact World.cell?_of_block (a := ⟨b, off, none⟩) e
  | map b => exact e
theorem law_post {f : Func} {s : ChangeSpec} {apart fresh handsOn : Bool} {W W' : World} {args : Array Value} {ds gs : List (DataW H)} {before : List MemPlace} {tb : TypeId}
  (hl : laidOutB P = true) (hr : ∀ t ∈ f.params.toList, P.readableRec t = true ∧ t < P.types.size) (hrt : f.resultTypes = #[tb]) (hb : P.underlying tb = some .bool)
  (hW : DataW.Whole enc P f.params.toList [] apart W args.toList ds gs before) (hvs : s.vars = [])
  (hres : (s.fn H ds).results = [.lit (.bool true)]) (hargs : (s.fn H ds).args = ds) (hvars : (s.fn H ds).vars = [])
  (hp : Kp W W') (he : Ext none' (hpOf W) (hpOf W')) : s.post enc P f apart fresh handsOn false W args (.bool true) W' := by
 have hlt := hW.lt
 obtain ⟨p, q, hA, hV, rfl, hz, hn⟩ := hW
 have hV0 := hV
 obtain ⟨rfl, rfl⟩ := trodVars_none hV
 simp only [List.append_nil] at hlt
 refine ⟨ds, [], p ++ [], [], p, [], ⟨p, [], hA, by rw [hvs]; exact hV0, rfl, hz, hn⟩, ?_, ?_, ?_, World.keptBut_mono (fun p hp => hp.elim) (kept_of hp he), fun h => ?_⟩
 ·rw [List.append_nil, hres, hrt]
  exact trodAll_cons_mk (shut_bool hb true) trodAll_mk0
 ·rw [List.append_nil, hargs]
  exact trodAll_stays hl he hr hA hlt (fun x hx => by simpa using hlt x hx)
 ·rw [List.append_nil, hvars, hvs]; rfl
 ·cases h
theorem okWide_slice {r : Reach} {W : World} {b0 : Nat} {t e : TypeId} {v : Value} (ht : P.underlying t = some (.slice e)) (hval : Value.okWide P W r b0 t v) : ∃ p n c, v = .slice p n c := by
 unfold Value.okWide at hval
 rw [ht] at hval
 simp only at hval
 unfold Cell.okWide at hval
 rw [ht] at hval
 cases v <;> simp only [Cell.ok, ht] at hval <;> first | exact ⟨_, _, _, rfl⟩ | exact hval.elim
end
theorem pick_all {α β : Type} (R : α → β → Prop) : ∀ {l : List α}, (∀ x ∈ l, ∃ y, R x y) → ∃ m : List β, m.length = l.length ∧ ∀ (i : Nat) (x : α), l[i]? = some x → ∃ y, m[i]? = some y ∧ R x y := by
 intro l
 induction l with
 | nil => intro _; exact ⟨[], rfl, by simp⟩
 | cons a l ih =>
  intro h
  obtain ⟨y, hy⟩ := h a (by simp)
  obtain ⟨m, hm, hr⟩ := ih fun x hx => h x (by simp [hx])
  refine ⟨y :: m, by simp [hm], ?_⟩
  intro i x hi
  cases i with
  | zero => simp at hi; subst hi; exact ⟨y, rfl, hy⟩
  | succ i => simpa using hr i x (by simpa using hi)
end Go.Hw

/-
 Append, with what becomes of the old row told too.
-/
set_option linter.unusedSimpArgs false
set_option linter.unusedVariables false
namespace Go.Hw
open Go
end Go.Hw

/-
 Regions in which effects come in more than one order: each order of the effects is looked at; what only computes or reads comes as early as it can.
-/
set_option linter.unusedSimpArgs false
set_option linter.unusedVariables false
namespace Go.Hw
open Go
def slotsTo (P : Program) (ops : List Oper) (M : List Nat) (i : Nat) (x : Oper) : List Oper → Nat → Bool
 | [], _ => true
 | y :: l, j => (Nat.beq i j || bit (M.getD i 0) j || bit (M.getD j 0) i || apartB ops x y || (match clsO P x, clsO P y with | .eff, .eff => true | _, _ => false)) && slotsTo P ops M i x l (j + 1)
def slotsAll (P : Program) (ops : List Oper) (M : List Nat) : List Oper → Nat → Bool
 | [], _ => true
 | x :: l, i => slotsTo P ops M i x ops 0 && slotsAll P ops M l (i + 1)
theorem slotsTo_get {P : Program} {ops : List Oper} {M : List Nat} {i : Nat} {x : Oper} : ∀ {l : List Oper} {k : Nat}, slotsTo P ops M i x l k = true → ∀ {j : Nat} {y : Oper}, l[j]? = some y →
  i = k + j ∨ bit (M.getD i 0) (k + j) = true ∨ bit (M.getD (k + j) 0) i = true ∨ apartB ops x y = true ∨ (clsO P x = .eff ∧ clsO P y = .eff) := by
 intro l
 induction l with
 | nil => intro k _ j y h; simp at h
 | cons z l ih =>
  intro k h j y hy
  simp only [slotsTo, Bool.and_eq_true, Bool.or_eq_true] at h
  cases j with
  | zero =>
   simp at hy; subst hy
   rcases h.1 with (((h1 | h1) | h1) | h1) | h1
   ·exact .inl (Nat.eq_of_beq_eq_true h1)
   ·exact .inr (.inl h1)
   ·exact .inr (.inr (.inl h1))
   ·exact .inr (.inr (.inr (.inl h1)))
   ·refine .inr (.inr (.inr (.inr ?_)))
    split at h1
    ·rename_i e1 e2; exact ⟨e1, e2⟩
    ·cases h1
  | succ j =>
   simp at hy
   have := ih h.2 hy
   rw [show k + 1 + j = k + (j + 1) by omega] at this
   exact this
theorem slotsAll_get {P : Program} {ops : List Oper} {M : List Nat} : ∀ {l : List Oper} {k : Nat}, slotsAll P ops M l k = true → ∀ {i : Nat} {x : Oper}, l[i]? = some x → slotsTo P ops M (k + i) x ops 0 = true := by
 intro l
 induction l with
 | nil => intro k _ i x h; simp at h
 | cons z l ih =>
  intro k h i x hx
  simp only [slotsAll, Bool.and_eq_true] at h
  cases i with
  | zero => simp at hx; subst hx; exact h.1
  | succ i =>
   simp at hx
   have := ih h.2 hx
   rw [show k + 1 + i = k + (i + 1) by omega] at this
   exact this
section
variable {P : Program} {n : Nat} {ops : Array Oper} {Qn : Env → Hp → Prop}
abbrev rdy (ops : Array Oper) (L : Array Bool) : List Nat := Region.ready .any ops L
abbrev setD (L : Array Bool) (i : Nat) : Array Bool := L.setIfInBounds i true
abbrev mk' (ops : Array Oper) (i : Nat) : Nat := (masks ops.toList []).getD i 0
def Tr (P : Program) (n : Nat) (ops : Array Oper) (Qn : Env → Hp → Prop) : Nat → Array Bool → Watch → Env → Hp → Prop
 | 0, L, _, ρ, h => rdy ops L = [] ∧ Qn ρ h
 | f + 1, L, W, ρ, h =>
  (rdy ops L = [] ∧ Qn ρ h) ∨
  (∃ i o v, i ∈ rdy ops L ∧ ops.toList[i]? = some o ∧ clsO P o = .pure ∧ (∀ h', YdS P n ops o ρ h' v) ∧ Tr P n ops Qn f (setD L i) W (putd ρ o.dst v) h) ∨
  (∃ i o v, i ∈ rdy ops L ∧ ops.toList[i]? = some o ∧ clsO P o = .read ∧ YdS P n ops o ρ h v ∧ Tr P n ops Qn f (setD L i) ((i, fun h' => YdS P n ops o ρ h' v) :: W) (putd ρ o.dst v) h) ∨
  (rdy ops L ≠ [] ∧ ∀ i ∈ rdy ops L, ∃ o, ops.toList[i]? = some o ∧ clsO P o = .eff ∧ stepS P n ops o ρ h fun ρ' h' => (∀ r ∈ W, bit (mk' ops i) r.1 = false → r.2 h') ∧ Tr P n ops Qn f (setD L i) W ρ' h')
theorem Tr_weaken : ∀ (f : Nat) (L : Array Bool) (W W' : Watch) (ρ : Env) (h : Hp), (∀ r ∈ W', r ∈ W) → Tr P n ops Qn f L W ρ h → Tr P n ops Qn f L W' ρ h := by
 intro f
 induction f with
 | zero => intro L W W' ρ h _ ht; exact ht
 | succ f ih =>
  intro L W W' ρ h hs ht
  rcases ht with ht | ⟨i, o, v, h1, h2, h3, h4, h5⟩ | ⟨i, o, v, h1, h2, h3, h4, h5⟩ | ⟨h1, h2⟩
  ·exact .inl ht
  ·exact .inr (.inl ⟨i, o, v, h1, h2, h3, h4, ih _ _ _ _ _ hs h5⟩)
  ·refine .inr (.inr (.inl ⟨i, o, v, h1, h2, h3, h4, ih _ _ _ _ _ ?_ h5⟩))
   intro r hr
   cases hr with
   | head => exact List.mem_cons_self ..
   | tail _ hm => exact List.mem_cons_of_mem _ (hs r hm)
  ·refine .inr (.inr (.inr ⟨h1, fun i hi => ?_⟩))
   obtain ⟨o, g1, g2, g3⟩ := h2 i hi
   exact ⟨o, g1, g2, stepS_mono (fun ρ' h' ⟨k1, k2⟩ => ⟨fun r hr => k1 r (hs r hr), ih _ _ _ _ _ hs k2⟩) g3⟩
theorem rdy_set {L : Array Bool} {p q : Nat} (hp : p ∈ rdy ops L) (hne : p ≠ q) : p ∈ rdy ops (setD L q) := by
 obtain ⟨h1, h2, o, ho, hd⟩ := mem_ready.1 hp
 have hq : q ≠ p := fun e => hne e.symm
 have e2 : (setD L q).getD p true = L.getD p true := by
  rw [Array.getD_eq_getD_getElem?, Array.getElem?_setIfInBounds_ne hq, ← Array.getD_eq_getD_getElem?]
 refine mem_ready.2 ⟨h1, by rw [e2]; exact h2, o, ho, fun e he hb => ?_⟩
 have := hd e he hb
 rw [Array.getD_eq_getD_getElem?] at this ⊢
 by_cases hq : q = e.on
 ·subst hq
  rw [Array.getElem?_setIfInBounds_self]
  split
  ·rfl
  ·rename_i hge
   rw [Array.getElem?_eq_none (by omega)] at this; cases this
 ·rw [Array.getElem?_setIfInBounds_ne hq]; exact this
theorem set_comm {L : Array Bool} {p q : Nat} : setD (setD L p) q = setD (setD L q) p := by
 apply Array.ext'
 simp only [setD, Array.toList_setIfInBounds]
 by_cases e : p = q
 ·subst e; rfl
 ·exact List.set_comm _ _ (fun h => e h)
theorem closed_set {L : Array Bool} {i : Nat} (hc : Closed ops.toList (fun k => L.getD k false = true)) (hi : i ∈ rdy ops L) : Closed ops.toList (fun k => (setD L i).getD k false = true) := by
 obtain ⟨h1, h2, o, ho, hd⟩ := mem_ready.1 hi
 intro k o' ho' hD e hem hb
 have up : ∀ m, L.getD m false = true → (setD L i).getD m false = true := by
  intro m hm
  rw [Array.getD_eq_getD_getElem?] at hm ⊢
  by_cases hmi : i = m
  ·subst hmi
   rw [Array.getElem?_setIfInBounds_self]
   split
   ·rfl
   ·rename_i hge; rw [Array.getElem?_eq_none (by omega)] at hm; cases hm
  ·rw [Array.getElem?_setIfInBounds_ne hmi]; exact hm
 by_cases hki : i = k
 ·subst hki
  rw [Array.getElem?_toList, ho] at ho'; cases ho'
  exact up _ (hd e hem hb)
 ·have : L.getD k false = true := by
   rw [Array.getD_eq_getD_getElem?] at hD ⊢
   rw [Array.getElem?_setIfInBounds_ne hki] at hD; exact hD
  exact up _ (hc k o' ho' this e hem hb)
theorem no_bit {L : Array Bool} (hc : Closed ops.toList (fun k => L.getD k false = true)) {p q : Nat} (hp : p ∈ rdy ops L) (hq : q ∈ rdy ops L) : bit (mk' ops p) q = false := by
 obtain ⟨h1, h2, o, ho, hd⟩ := mem_ready.1 hp
 obtain ⟨_, g2, _⟩ := mem_ready.1 hq
 cases hb : bit (mk' ops p) q with
 | false => rfl
 | true =>
  have := closed_bits hc p o (by rw [Array.getElem?_toList]; exact ho) hd q hb
  rw [(getD_lt g2).2] at this; cases this
variable (hsl : slotsAll P ops.toList (masks ops.toList []) ops.toList 0 = true)
include hsl
set_option linter.unusedSectionVars false
theorem ap {L : Array Bool} (hc : Closed ops.toList (fun k => L.getD k false = true)) {p q : Nat} {x y : Oper} (hp : p ∈ rdy ops L) (hq : q ∈ rdy ops L) (hne : p ≠ q) (hx : ops.toList[p]? = some x) (hy : ops.toList[q]? = some y)
  (hn : ¬ (clsO P x = .eff ∧ clsO P y = .eff)) : dstNot x.dst (lk ops.toList y) = true ∧ dstNot y.dst (lk ops.toList x) = true ∧ dstNe x.dst y.dst = true := by
 have h1 := slotsAll_get hsl hx
 rw [Nat.zero_add] at h1
 have h2 := slotsTo_get h1 hy
 rw [Nat.zero_add] at h2
 rcases h2 with h2 | h2 | h2 | h2 | h2
 ·exact absurd h2 hne
 ·rw [no_bit hc hp hq] at h2; cases h2
 ·rw [no_bit hc hq hp] at h2; cases h2
 ·simp only [apartB, Bool.and_eq_true] at h2; exact ⟨h2.1.1, h2.1.2, h2.2⟩
 ·exact absurd h2 hn
theorem trP {p : Nat} {y : Oper} (hy : ops.toList[p]? = some y) (hcl : clsO P y = .pure) : ∀ (f : Nat) (L : Array Bool) (W : Watch) (ρ : Env) (h : Hp), Closed ops.toList (fun k => L.getD k false = true) → p ∈ rdy ops L →
  Tr P n ops Qn f L W ρ h → ∃ v, (∀ h', YdS P n ops y ρ h' v) ∧ ∃ f', f = f' + 1 ∧ Tr P n ops Qn f' (setD L p) W (putd ρ y.dst v) h := by
 intro f
 induction f with
 | zero => intro L W ρ h _ hp ht; rw [ht.1] at hp; cases hp
 | succ f ih =>
  intro L W ρ h hc hp ht
  rcases ht with ht | ⟨i, o, v, h1, h2, h3, h4, h5⟩ | ⟨i, o, v, h1, h2, h3, h4, h5⟩ | ⟨h1, h2⟩
  ·rw [ht.1] at hp; cases hp
  ·by_cases e : p = i
   ·subst e
    rw [hy] at h2; cases h2
    exact ⟨v, h4, f, rfl, h5⟩
   ·obtain ⟨u, g1, f', rfl, g2⟩ := ih _ _ _ _ (closed_set hc h1) (rdy_set hp e) h5
    obtain ⟨a1, a2, a3⟩ := ap hsl hc h1 hp (fun e' => e e'.symm) h2 hy (fun ⟨q, _⟩ => by rw [h3] at q; cases q)
    refine ⟨u, fun h' => (YdS_put a1 h' u).1 (g1 h'), _, rfl, .inr (.inl ⟨i, o, v, rdy_set h1 (fun e' => e e'.symm), h2, h3, fun h' => (YdS_put a2 h' v).2 (h4 h'), ?_⟩)⟩
    rw [set_comm, ← putd_comm a3]; exact g2
  ·by_cases e : p = i
   ·subst e; rw [hy] at h2; cases h2; rw [hcl] at h3; cases h3
   ·obtain ⟨u, g1, f', rfl, g2⟩ := ih _ _ _ _ (closed_set hc h1) (rdy_set hp e) h5
    obtain ⟨a1, a2, a3⟩ := ap hsl hc h1 hp (fun e' => e e'.symm) h2 hy (fun ⟨q, _⟩ => by rw [h3] at q; cases q)
    refine ⟨u, fun h' => (YdS_put a1 h' u).1 (g1 h'), _, rfl, .inr (.inr (.inl ⟨i, o, v, rdy_set h1 (fun e' => e e'.symm), h2, h3, (YdS_put a2 h v).2 h4, ?_⟩))⟩
    have e2 : (fun h' => YdS P n ops o (putd ρ y.dst u) h' v) = fun h' => YdS P n ops o ρ h' v := by
     funext h'; exact propext (YdS_put a2 h' v)
    rw [e2, set_comm, ← putd_comm a3]; exact g2
  ·obtain ⟨o, g1, g2, _⟩ := h2 p hp
   rw [hy] at g1; cases g1; rw [hcl] at g2; cases g2
theorem trR {p : Nat} {y : Oper} (hy : ops.toList[p]? = some y) (hcl : clsO P y = .read) : ∀ (f : Nat) (L : Array Bool) (W : Watch) (ρ : Env) (h : Hp), Closed ops.toList (fun k => L.getD k false = true) → p ∈ rdy ops L →
  Tr P n ops Qn f L W ρ h → ∃ v, YdS P n ops y ρ h v ∧ ∃ f', f = f' + 1 ∧ Tr P n ops Qn f' (setD L p) ((p, fun h' => YdS P n ops y ρ h' v) :: W) (putd ρ y.dst v) h := by
 intro f
 induction f with
 | zero => intro L W ρ h _ hp ht; rw [ht.1] at hp; cases hp
 | succ f ih =>
  intro L W ρ h hc hp ht
  rcases ht with ht | ⟨i, o, v, h1, h2, h3, h4, h5⟩ | ⟨i, o, v, h1, h2, h3, h4, h5⟩ | ⟨h1, h2⟩
  ·rw [ht.1] at hp; cases hp
  ·by_cases e : p = i
   ·subst e; rw [hy] at h2; cases h2; rw [hcl] at h3; cases h3
   ·obtain ⟨u, g1, f', rfl, g2⟩ := ih _ _ _ _ (closed_set hc h1) (rdy_set hp e) h5
    obtain ⟨a1, a2, a3⟩ := ap hsl hc h1 hp (fun e' => e e'.symm) h2 hy (fun ⟨q, _⟩ => by rw [h3] at q; cases q)
    refine ⟨u, (YdS_put a1 h u).1 g1, _, rfl, .inr (.inl ⟨i, o, v, rdy_set h1 (fun e' => e e'.symm), h2, h3, fun h' => (YdS_put a2 h' v).2 (h4 h'), ?_⟩)⟩
    have e2 : (fun h' => YdS P n ops y (putd ρ o.dst v) h' u) = fun h' => YdS P n ops y ρ h' u := by
     funext h'; exact propext (YdS_put a1 h' u)
    rw [e2] at g2
    rw [set_comm, ← putd_comm a3]; exact g2
  ·by_cases e : p = i
   ·subst e
    rw [hy] at h2; cases h2
    exact ⟨v, h4, f, rfl, h5⟩
   ·obtain ⟨u, g1, f', rfl, g2⟩ := ih _ _ _ _ (closed_set hc h1) (rdy_set hp e) h5
    obtain ⟨a1, a2, a3⟩ := ap hsl hc h1 hp (fun e' => e e'.symm) h2 hy (fun ⟨q, _⟩ => by rw [h3] at q; cases q)
    refine ⟨u, (YdS_put a1 h u).1 g1, _, rfl, .inr (.inr (.inl ⟨i, o, v, rdy_set h1 (fun e' => e e'.symm), h2, h3, (YdS_put a2 h v).2 h4, ?_⟩))⟩
    have e2 : (fun h' => YdS P n ops y (putd ρ o.dst v) h' u) = fun h' => YdS P n ops y ρ h' u := by
     funext h'; exact propext (YdS_put a1 h' u)
    have e3 : (fun h' => YdS P n ops o (putd ρ y.dst u) h' v) = fun h' => YdS P n ops o ρ h' v := by
     funext h'; exact propext (YdS_put a2 h' v)
    rw [e2] at g2
    rw [e3, set_comm, ← putd_comm a3]
    refine Tr_weaken _ _ _ _ _ _ ?_ g2
    intro r hr
    cases hr with
    | head => exact List.mem_cons_of_mem _ (List.mem_cons_self ..)
    | tail _ hm => cases hm with
     | head => exact List.mem_cons_self ..
     | tail _ hm => exact List.mem_cons_of_mem _ (List.mem_cons_of_mem _ hm)
  ·obtain ⟨o, g1, g2, _⟩ := h2 p hp
   rw [hy] at g1; cases g1; rw [hcl] at g2; cases g2
theorem trE {p : Nat} {y : Oper} (hy : ops.toList[p]? = some y) (hcl : clsO P y = .eff) : ∀ (f : Nat) (L : Array Bool) (W : Watch) (ρ : Env) (h : Hp), Closed ops.toList (fun k => L.getD k false = true) → p ∈ rdy ops L →
  Tr P n ops Qn f L W ρ h → ∃ f', f = f' + 1 ∧ stepS P n ops y ρ h fun ρ' h' => (∀ r ∈ W, bit (mk' ops p) r.1 = false → r.2 h') ∧ Tr P n ops Qn f' (setD L p) W ρ' h' := by
 intro f
 induction f with
 | zero => intro L W ρ h _ hp ht; rw [ht.1] at hp; cases hp
 | succ f ih =>
  intro L W ρ h hc hp ht
  rcases ht with ht | ⟨i, o, v, h1, h2, h3, h4, h5⟩ | ⟨i, o, v, h1, h2, h3, h4, h5⟩ | ⟨h1, h2⟩
  ·rw [ht.1] at hp; cases hp
  ·by_cases e : p = i
   ·subst e; rw [hy] at h2; cases h2; rw [hcl] at h3; cases h3
   ·obtain ⟨f', rfl, g2⟩ := ih _ _ _ _ (closed_set hc h1) (rdy_set hp e) h5
    obtain ⟨a1, a2, a3⟩ := ap hsl hc h1 hp (fun e' => e e'.symm) h2 hy (fun ⟨q, _⟩ => by rw [h3] at q; cases q)
    refine ⟨_, rfl, stepS_mono ?_ (stepS_shape (stepS_put a1 a3 g2))⟩
    rintro ρ' h' ⟨⟨k1, k2⟩, w, rfl⟩
    refine ⟨k1, .inr (.inl ⟨i, o, v, rdy_set h1 (fun e' => e e'.symm), h2, h3, fun h'' => (YdS_put a2 h'' v).2 (h4 h''), ?_⟩)⟩
    rw [set_comm]; exact k2
  ·by_cases e : p = i
   ·subst e; rw [hy] at h2; cases h2; rw [hcl] at h3; cases h3
   ·obtain ⟨f', rfl, g2⟩ := ih _ _ _ _ (closed_set hc h1) (rdy_set hp e) h5
    obtain ⟨a1, a2, a3⟩ := ap hsl hc h1 hp (fun e' => e e'.symm) h2 hy (fun ⟨q, _⟩ => by rw [h3] at q; cases q)
    refine ⟨_, rfl, stepS_mono ?_ (stepS_shape (stepS_put a1 a3 g2))⟩
    rintro ρ' h' ⟨⟨k1, k2⟩, w, rfl⟩
    refine ⟨fun r hr => k1 r (List.mem_cons_of_mem _ hr), .inr (.inr (.inl ⟨i, o, v, rdy_set h1 (fun e' => e e'.symm), h2, h3, (YdS_put a2 h' v).2 (k1 _ (List.mem_cons_self ..) (no_bit hc hp h1)), ?_⟩))⟩
    have e3 : (fun h' => YdS P n ops o (putd ρ y.dst w) h' v) = fun h' => YdS P n ops o ρ h' v := by
     funext h'; exact propext (YdS_put a2 h' v)
    rw [e3, set_comm]; exact k2
  ·obtain ⟨o, g1, g2, g3⟩ := h2 p hp
   rw [hy] at g1; cases g1
   exact ⟨f, rfl, g3⟩
end
section
variable {P : Program} {n id : Nat} {ops : Array Oper} {dr : Bool} {a0 : Act} {w0 : World} {Q : Exit → Env → Hp → Prop}
theorem any_tree (hsl : slotsAll P ops.toList (masks ops.toList []) ops.toList 0 = true) : ∀ (fuel f : Nat) (L : Array Bool) (W : Watch) (ρ : Env) (a : Act) (w : World), f ≤ fuel →
  Ag n ρ a → Sm (.region id ops dr) a0 w0 a w → Closed ops.toList (fun i => L.getD i false = true) →
  Tr P n ops (fun ρ h => Q .normal ρ h) f L W ρ (hpOf w) → wpAny P .any ops (EndR n (.region id ops dr) a0 w0 Q) fuel L a w := by
 have nodone : ∀ (f : Nat) (L : Array Bool) (W : Watch) (ρ : Env) (h : Hp), rdy ops L = [] → Tr P n ops (fun ρ h => Q .normal ρ h) f L W ρ h → Q .normal ρ h := by
  intro f L W ρ h hr ht
  cases f with
  | zero => exact ht.2
  | succ f =>
   rcases ht with ht | ⟨i, o, v, h1, _⟩ | ⟨i, o, v, h1, _⟩ | ⟨h1, _⟩
   ·exact ht.2
   ·rw [hr] at h1; cases h1
   ·rw [hr] at h1; cases h1
   ·exact absurd hr h1
 intro fuel
 induction fuel with
 | zero =>
  intro f L W ρ a w hf ha hs hc ht
  obtain rfl : f = 0 := by omega
  exact ⟨ht.1, ρ, ha, hs, ht.2⟩
 | succ fuel ih =>
  intro f L W ρ a w hf ha hs hc ht
  refine ⟨fun hr => ⟨ρ, ha, hs, nodone f L W ρ _ hr ht⟩, ?_⟩
  intro i hi
  obtain ⟨h1, h2, o, ho, hdeps⟩ := mem_ready.1 hi
  have hoL : ops.toList[i]? = some o := by simpa using ho
  have step : stepS P n ops o ρ (hpOf w) fun ρ' h' => ∃ f' W', f' ≤ fuel ∧ Tr P n ops (fun ρ h => Q .normal ρ h) f' (setD L i) W' ρ' h' := by
   cases hk : clsO P o with
   | pure =>
    obtain ⟨v, hv, f', rfl, ht2⟩ := trP hsl hoL hk f L W ρ _ hc hi ht
    exact (hv _).step ⟨f', W, by omega, ht2⟩
   | read =>
    obtain ⟨v, hv, f', rfl, ht2⟩ := trR hsl hoL hk f L W ρ _ hc hi ht
    exact hv.step ⟨f', _, by omega, ht2⟩
   | eff =>
    obtain ⟨f', rfl, ht2⟩ := trE hsl hoL hk f L W ρ _ hc hi ht
    exact stepS_mono (fun ρ' h' h => ⟨f', W, by omega, h.2⟩) ht2
  refine stepS_wp ho ha step ?_
  intro d hd v ρ' w' hp _ hag hX
  obtain ⟨f', W', hle, ht'⟩ := hX
  exact ih f' _ W' ρ' _ w' hle hag ⟨hs.1.put (List.mem_of_getElem? hoL) hd v, hs.2.put hp d v⟩ (closed_set hc hi) ht'
theorem D_draw_tree (hm : P.follows .mixedOrders = true) (hsl : slotsAll P ops.toList (masks ops.toList []) ops.toList 0 = true) {ρ : Env} {h : Hp}
  (hc : Tr P n ops (fun ρ h => Q .normal ρ h) ops.size (Array.replicate ops.size false) [] ρ h) : D P n (.region id ops true) ρ h Q := by
 intro a w ha hw
 subst hw
 refine wp_region_any hm ?_
 have := any_tree (P := P) (n := n) (id := id) (dr := true) (a0 := a) (w0 := w) (Q := Q) hsl ops.size ops.size (Array.replicate ops.size false) [] ρ a { w with drawn := w.drawn + 1 } (Nat.le_refl _) ha ⟨fun _ _ => rfl, rfl, rfl, rfl⟩ ?_ hc
 ·exact this
 ·intro i o _ hD
  rw [Array.getD_eq_getD_getElem?] at hD
  by_cases hk : i < ops.size <;> simp [hk] at hD
end
end Go.Hw

/-
 Regions in which effects come in more than one order, as text: a tree of orders, told ahead.
-/
set_option linter.unusedSimpArgs false
set_option linter.unusedVariables false
namespace Go.Hw
open Go
inductive Sch where
 | done
 /-- what only computes or reads -/
 | one (i : Nat) (t : Sch)
 /-- an effect; and the other effects that may come in its place -/
 | fork (i : Nat) (t : Sch) (r : Sch)
def alt (A B : Prop) : Prop := A ∧ B
def rdB' (done : Nat) (o : Oper) (i : Nat) : Bool := !bit done i && (o.after.toList.all fun e => !Region.binds .any e || bit done e.on)
def allR (done : Nat) : List Oper → Nat → List Nat
 | [], _ => []
 | o :: l, i => bif rdB' done o i then i :: allR done l (i + 1) else allR done l (i + 1)
def nlEq : List Nat → List Nat → Bool
 | [], [] => true
 | a :: l, b :: m => Nat.beq a b && nlEq l m
 | _, _ => false
def Sch.heads : Sch → List Nat
 | .fork i _ r => i :: r.heads
 | _ => []
def schOk (P : Program) (all : List Oper) : Sch → Nat → Bool → Nat → Bool
 | .done, _, br, done => br || nlEq (allR done all 0) []
 | .one i t, f, br, done => match f with
  | 0 => false
  | f + 1 => !br && (match all[i]? with
   | some o => rdB' done o i && (match clsO P o with | .eff => false | _ => true) && schOk P all t f false (Nat.lor done (Nat.shiftLeft 1 i))
   | none => false)
 | .fork i t r, f, br, done => match f with
  | 0 => false
  | f' + 1 => (br || nlEq (allR done all 0) (i :: r.heads)) && ((match all[i]? with
   | some o => (match clsO P o with | .eff => true | _ => false) && schOk P all t f' false (Nat.lor done (Nat.shiftLeft 1 i))
   | none => false) && schOk P all r (f' + 1) true done)
def tD (P : Program) (E : Nat → Bool) (n : Nat) (all : List Oper) (M : List Nat) (X : Env → Hp → Prop) : Sch → Watch → Env → Hp → Prop
 | .done, _, ρ, h => X ρ h
 | .one i t, W, ρ, h => match all[i]? with
  | none => False
  | some o => match clsO P o with
   | .pure => denOp P E n all o ρ h fun ρ' h' => tD P E n all M X t W ρ' h'
   | .eff => False
   | .read =>
    match o.guard with
    | none => bif okDst n o.dst then opK P E o ρ h fun v h' => tD P E n all M X t ((i, rechk P E o ρ v) :: W) (putd ρ o.dst v) h' else False
    | some (j, want) => gK ρ (gdstL all j) fun c ρ1 =>
      bif okDst n o.dst then (bif gEq c want then opK P E o ρ1 h fun v h' => tD P E n all M X t ((i, rechk P E o ρ1 v) :: W) (putd ρ1 o.dst v) h'
       else tD P E n all M X t W (putd ρ1 o.dst undef) h) else False
 | .fork i t .done, W, ρ, h => match all[i]? with
  | none => False
  | some o => denOp P E n all o ρ h fun ρ' h' => andW (M.getD i 0) W h' (tD P E n all M X t W ρ' h')
 | .fork i t r, W, ρ, h => match all[i]? with
  | none => False
  | some o => alt (denOp P E n all o ρ h fun ρ' h' => andW (M.getD i 0) W h' (tD P E n all M X t W ρ' h')) (tD P E n all M X r W ρ h)
section
variable {P : Program} {n : Nat} {ops : Array Oper} {E : Nat → Bool}
def RelL' (ops : Array Oper) (done : Nat) (L : Array Bool) : Prop := L.size = ops.size ∧ ∀ j, L.getD j false = bit done j
theorem rdB'_ok {done : Nat} {L : Array Bool} (hr : RelL' ops done L) {i : Nat} {o : Oper} (ho : ops.toList[i]? = some o) : rdB' done o i = true ↔ i ∈ rdy ops L := by
 have hi : i < ops.size := by have := (List.getElem?_eq_some_iff.1 ho).1; simpa using this
 have ho' : ops[i]? = some o := by rw [← Array.getElem?_toList]; exact ho
 have hd : L.getD i true = bit done i := by
  rw [← hr.2 i, Array.getD_eq_getD_getElem?, Array.getD_eq_getD_getElem?, Array.getElem?_eq_getElem (by rw [hr.1]; exact hi)]; rfl
 unfold rdB'
 rw [mem_ready]
 simp only [Bool.and_eq_true, Bool.not_eq_true', List.all_eq_true, Bool.or_eq_true]
 constructor
 ·rintro ⟨h1, h2⟩
  refine ⟨hi, by rw [hd]; exact h1, o, ho', fun e he hb => ?_⟩
  rw [hr.2]
  rcases h2 e he with h3 | h3
  ·rw [hb] at h3; cases h3
  ·exact h3
 ·rintro ⟨_, h1, o', ho2, h2⟩
  rw [ho'] at ho2; cases ho2
  refine ⟨by rw [← hd]; exact h1, fun e he => ?_⟩
  cases hb : Region.binds .any e with
  | false => exact .inl rfl
  | true => exact .inr (by rw [← hr.2]; exact h2 e he hb)
theorem RelL'.set {done : Nat} {L : Array Bool} (hr : RelL' ops done L) {i : Nat} (hi : i < ops.size) : RelL' ops (Nat.lor done (Nat.shiftLeft 1 i)) (setD L i) := by
 refine ⟨by simp [hr.1], fun j => ?_⟩
 rw [bit_eq]
 have e1 : (Nat.lor done (Nat.shiftLeft 1 i)).testBit j = (done.testBit j || decide (i = j)) := by
  show (done ||| 1 <<< i).testBit j = _
  rw [Nat.testBit_or, Nat.one_shiftLeft, Nat.testBit_two_pow]
 rw [e1, ← bit_eq, ← hr.2 j, Array.getD_eq_getD_getElem?, Array.getD_eq_getD_getElem?]
 by_cases e : i = j
 ·subst e
  rw [Array.getElem?_setIfInBounds_self, if_pos (by rw [hr.1]; exact hi)]
  simp
 ·rw [Array.getElem?_setIfInBounds_ne e]; simp [e]
theorem allR_mem {done : Nat} : ∀ {l : List Oper} {k i : Nat}, i ∈ allR done l k ↔ ∃ o, k ≤ i ∧ l[i - k]? = some o ∧ rdB' done o i = true := by
 intro l
 induction l with
 | nil => intro k i; simp [allR]
 | cons x l ih =>
  intro k i
  unfold allR
  have step : (∃ o, k + 1 ≤ i ∧ l[i - (k + 1)]? = some o ∧ rdB' done o i = true) ↔ (∃ o, k < i ∧ (x :: l)[i - k]? = some o ∧ rdB' done o i = true) := by
   constructor
   ·rintro ⟨o, h1, h2, h3⟩
    exact ⟨o, by omega, by rw [show i - k = (i - (k + 1)) + 1 by omega, List.getElem?_cons_succ]; exact h2, h3⟩
   ·rintro ⟨o, h1, h2, h3⟩
    rw [show i - k = (i - (k + 1)) + 1 by omega, List.getElem?_cons_succ] at h2
    exact ⟨o, by omega, h2, h3⟩
  cases hb : rdB' done x k with
  | true =>
   simp only [cond_true, List.mem_cons, ih, step]
   constructor
   ·rintro (rfl | ⟨o, h1, h2, h3⟩)
    ·exact ⟨x, Nat.le_refl _, by simp, hb⟩
    ·exact ⟨o, by omega, h2, h3⟩
   ·rintro ⟨o, h1, h2, h3⟩
    by_cases e : i = k
    ·exact .inl e
    ·exact .inr ⟨o, by omega, h2, h3⟩
  | false =>
   simp only [cond_false, ih, step]
   constructor
   ·rintro ⟨o, h1, h2, h3⟩
    exact ⟨o, by omega, h2, h3⟩
   ·rintro ⟨o, h1, h2, h3⟩
    by_cases e : i = k
    ·subst e; simp at h2; subst h2; rw [hb] at h3; cases h3
    ·exact ⟨o, by omega, h2, h3⟩
theorem nlEq_eq : ∀ {l m : List Nat}, nlEq l m = true → l = m
 | [], [], _ => rfl
 | a :: l, b :: m, h => by
  simp only [nlEq, Bool.and_eq_true] at h
  rw [Nat.eq_of_beq_eq_true h.1, nlEq_eq h.2]
 | [], _ :: _, h => by cases h
 | _ :: _, [], h => by cases h
theorem rdy_allR {done : Nat} {L : Array Bool} (hr : RelL' ops done L) {i : Nat} : i ∈ rdy ops L ↔ i ∈ allR done ops.toList 0 := by
 rw [allR_mem]
 constructor
 ·intro hi
  obtain ⟨_, _, o, ho', _⟩ := mem_ready.1 hi
  have ho : ops.toList[i]? = some o := by simpa using ho'
  exact ⟨o, Nat.zero_le _, by simpa using ho, (rdB'_ok hr ho).2 hi⟩
 ·rintro ⟨o, _, h2, h3⟩
  exact (rdB'_ok hr (by simpa using h2)).1 h3
theorem tD_fork {X : Env → Hp → Prop} {i : Nat} {t r : Sch} {all : List Oper} {M : List Nat} {W : Watch} {ρ : Env} {h : Hp} (hd : tD P E n all M X (.fork i t r) W ρ h) :
  (∃ o, all[i]? = some o ∧ denOp P E n all o ρ h fun ρ' h' => andW (M.getD i 0) W h' (tD P E n all M X t W ρ' h')) ∧ (r ≠ .done → tD P E n all M X r W ρ h) := by
 cases r with
 | done =>
  simp only [tD] at hd
  refine ⟨?_, fun h => absurd rfl h⟩
  split at hd
  ·exact hd.elim
  ·rename_i o ho; exact ⟨o, ho, hd⟩
 | one j t' =>
  simp only [tD] at hd
  split at hd
  ·exact hd.elim
  ·rename_i o ho; exact ⟨⟨o, ho, hd.1⟩, fun _ => hd.2⟩
 | fork j t' r' =>
  unfold tD at hd
  split at hd
  ·exact hd.elim
  ·rename_i o ho; exact ⟨⟨o, ho, hd.1⟩, fun _ => hd.2⟩
def WRel (W W' : Watch) : Prop := ∀ r' ∈ W', (∃ r ∈ W, r.1 = r'.1 ∧ ∀ h, r.2 h → r'.2 h) ∨ ∀ h, r'.2 h
theorem tD_Tr (hE : EnterOk P E) {X : Env → Hp → Prop} : ∀ (s : Sch),
  (∀ (f done : Nat) (L : Array Bool) (W W' : Watch) (ρ : Env) (h : Hp), schOk P ops.toList s f false done = true → RelL' ops done L → WRel W W' → tD P E n ops.toList (masks ops.toList []) X s W ρ h → Tr P n ops X f L W' ρ h) ∧
  (∀ (f done : Nat) (br : Bool) (L : Array Bool) (W W' : Watch) (ρ : Env) (h : Hp), s ≠ .done → schOk P ops.toList s (f + 1) br done = true → (br = false → ∃ i t r, s = .fork i t r) → RelL' ops done L → WRel W W' → tD P E n ops.toList (masks ops.toList []) X s W ρ h →
   ∀ i ∈ s.heads, ∃ o, ops.toList[i]? = some o ∧ clsO P o = .eff ∧ stepS P n ops o ρ h fun ρ' h' => (∀ r ∈ W', bit (mk' ops i) r.1 = false → r.2 h') ∧ Tr P n ops X f (setD L i) W' ρ' h') := by
 intro s
 induction s with
 | done =>
  refine ⟨?_, fun f done br L W W' ρ h hne => absurd rfl hne⟩
  intro f done L W W' ρ h hok hr hW hd
  simp only [schOk, Bool.false_or] at hok
  have hnil : rdy ops L = [] := by
   cases hq : rdy ops L with
   | nil => rfl
   | cons x l =>
    have hx : x ∈ rdy ops L := by rw [hq]; exact List.mem_cons_self ..
    have := (rdy_allR hr).1 hx
    rw [nlEq_eq hok] at this; cases this
  cases f with
  | zero => exact ⟨hnil, hd⟩
  | succ f => exact .inl ⟨hnil, hd⟩
 | one i t ih =>
  refine ⟨?_, ?_⟩
  ·intro f done L W W' ρ h hok hr hW hd
   cases f with
   | zero => simp [schOk] at hok
   | succ f =>
    simp only [schOk, Bool.not_false, Bool.true_and] at hok
    cases ho : ops.toList[i]? with
    | none => rw [ho] at hok; cases hok
    | some o =>
     rw [ho] at hok
     simp only [Bool.and_eq_true] at hok
     obtain ⟨⟨k1, k2⟩, k3⟩ := hok
     have hi := (rdB'_ok hr ho).1 k1
     have hlt : i < ops.size := by have := (List.getElem?_eq_some_iff.1 ho).1; simpa using this
     have hr2 := hr.set (i := i) hlt
     unfold tD at hd
     rw [ho] at hd
     simp only [] at hd
     cases hcl : clsO P o with
     | eff => rw [hcl] at k2; cases k2
     | pure =>
      rw [hcl] at hd
      have hne : clsO P o ≠ .eff := by rw [hcl]; intro e; cases e
      simp only [] at hd
      have main : ∃ v, (∀ h', YdS P n ops o ρ h' v) ∧ tD P E n ops.toList (masks ops.toList []) X t W (putd ρ o.dst v) h := by
       unfold denOp at hd
       split at hd
       ·rename_i hg
        cases hok : okDst n o.dst with
        | false => rw [hok] at hd; exact hd.elim
        | true =>
         rw [hok] at hd
         obtain ⟨v, hv, _, hall⟩ := detK hne hd
         refine ⟨v, ?_, hv⟩
         intro h'
         refine ⟨hok, ?_⟩
         rw [hg]
         exact yd_of_opK hE hne (hall hcl h')
       ·rename_i j want hg
        obtain ⟨c, hc, hd⟩ := gK_some hd
        rw [gdstL_eq] at hc
        cases hok : okDst n o.dst with
        | false => rw [hok] at hd; exact hd.elim
        | true =>
         rw [hok] at hd
         simp only [cond_true] at hd
         cases hb : gEq (blOf c) want with
         | true =>
          rw [hb] at hd
          obtain ⟨v, hv, _, hall⟩ := detK hne hd
          refine ⟨v, ?_, hv⟩
          intro h'
          refine ⟨hok, ?_⟩
          rw [hg]
          refine ⟨c, hc, ?_⟩
          rw [if_pos (gEq_eq.1 hb)]
          exact yd_of_opK hE hne (hall hcl h')
         | false =>
          rw [hb] at hd
          refine ⟨undef, ?_, hd⟩
          intro h'
          refine ⟨hok, ?_⟩
          rw [hg]
          refine ⟨c, hc, ?_⟩
          rw [if_neg (fun e => by rw [gEq_eq.2 e] at hb; cases hb)]
      obtain ⟨v, h1, h2⟩ := main
      exact .inr (.inl ⟨i, o, v, hi, ho, hcl, h1, ih.1 f _ _ _ _ _ _ k3 hr2 hW h2⟩)
     | read =>
      rw [hcl] at hd
      have hne : clsO P o ≠ .eff := by rw [hcl]; intro e; cases e
      simp only [] at hd
      have main : ∃ v W2, YdS P n ops o ρ h v ∧ WRel W2 ((i, fun h' => YdS P n ops o ρ h' v) :: W') ∧ tD P E n ops.toList (masks ops.toList []) X t W2 (putd ρ o.dst v) h := by
       have wadd : ∀ {x : Hp → Prop} {v : Value}, (∀ h, x h → YdS P n ops o ρ h v) → WRel ((i, x) :: W) ((i, fun h' => YdS P n ops o ρ h' v) :: W') := by
        intro x v hx r' hr'
        cases hr' with
        | head => exact .inl ⟨_, List.mem_cons_self .., rfl, hx⟩
        | tail _ hm =>
         rcases hW r' hm with ⟨r, q1, q2⟩ | q
         ·exact .inl ⟨r, List.mem_cons_of_mem _ q1, q2⟩
         ·exact .inr q
       split at hd
       ·rename_i hg
        cases hok : okDst n o.dst with
        | false => rw [hok] at hd; exact hd.elim
        | true =>
         rw [hok] at hd
         obtain ⟨v, hv, hone, _⟩ := detK hne hd
         refine ⟨v, _, ⟨hok, ?_⟩, wadd (x := rechk P E o ρ v) ?_, hv⟩
         ·rw [hg]; exact yd_of_opK hE hne hone
         ·intro h' hx
          refine ⟨hok, ?_⟩
          rw [hg]; exact yd_of_opK hE hne hx
       ·rename_i j want hg
        obtain ⟨c, hc, hd⟩ := gK_some hd
        rw [gdstL_eq] at hc
        cases hok : okDst n o.dst with
        | false => rw [hok] at hd; exact hd.elim
        | true =>
         rw [hok] at hd
         simp only [cond_true] at hd
         cases hb : gEq (blOf c) want with
         | true =>
          rw [hb] at hd
          obtain ⟨v, hv, hone, _⟩ := detK hne hd
          refine ⟨v, _, ⟨hok, ?_⟩, wadd (x := rechk P E o ρ v) ?_, hv⟩
          ·rw [hg]; refine ⟨c, hc, ?_⟩; rw [if_pos (gEq_eq.1 hb)]; exact yd_of_opK hE hne hone
          ·intro h' hx
           refine ⟨hok, ?_⟩
           rw [hg]; refine ⟨c, hc, ?_⟩; rw [if_pos (gEq_eq.1 hb)]; exact yd_of_opK hE hne hx
         | false =>
          rw [hb] at hd
          have hsk : ∀ h', YdS P n ops o ρ h' undef := by
           intro h'
           refine ⟨hok, ?_⟩
           rw [hg]
           refine ⟨c, hc, ?_⟩
           rw [if_neg (fun e => by rw [gEq_eq.2 e] at hb; cases hb)]
          refine ⟨undef, W, hsk h, ?_, hd⟩
          intro r' hr'
          cases hr' with
          | head => exact .inr hsk
          | tail _ hm => exact hW r' hm
      obtain ⟨v, W2, h1, h2, h3⟩ := main
      exact .inr (.inr (.inl ⟨i, o, v, hi, ho, hcl, h1, ih.1 f _ _ _ _ _ _ k3 hr2 h2 h3⟩))
  ·intro f done br L W W' ρ h _ hok hbr hr hW hd
   cases br with
   | true => simp [schOk] at hok
   | false => obtain ⟨_, _, _, e⟩ := hbr rfl; cases e
 | fork i t r iht ihr =>
  have B : ∀ (f done : Nat) (br : Bool) (L : Array Bool) (W W' : Watch) (ρ : Env) (h : Hp), schOk P ops.toList (.fork i t r) (f + 1) br done = true → RelL' ops done L → WRel W W' → tD P E n ops.toList (masks ops.toList []) X (.fork i t r) W ρ h →
   ∀ k ∈ (Sch.fork i t r).heads, ∃ o, ops.toList[k]? = some o ∧ clsO P o = .eff ∧ stepS P n ops o ρ h fun ρ' h' => (∀ r ∈ W', bit (mk' ops k) r.1 = false → r.2 h') ∧ Tr P n ops X f (setD L k) W' ρ' h' := by
   intro f done br L W W' ρ h hok hr hW hd k hk
   simp only [schOk, Bool.and_eq_true] at hok
   obtain ⟨_, k2, k3⟩ := hok
   obtain ⟨⟨o, ho, hd1⟩, hd2⟩ := tD_fork hd
   rw [ho] at k2
   simp only [Bool.and_eq_true] at k2
   have hlt : i < ops.size := by have := (List.getElem?_eq_some_iff.1 ho).1; simpa using this
   rcases List.mem_cons.1 (show k ∈ i :: r.heads from hk) with rfl | hk
   ·refine ⟨o, ho, ?_, ?_⟩
    ·have := k2.1
     cases hcl : clsO P o with
     | eff => rfl
     | pure => rw [hcl] at this; cases this
     | read => rw [hcl] at this; cases this
    ·refine stepS_mono ?_ (denOp_step hE hd1)
     intro ρ' h' hx
     obtain ⟨h1, h2⟩ := andW_some hx
     refine ⟨?_, iht.1 f _ _ _ _ _ _ k2.2 (hr.set hlt) hW h2⟩
     intro r' hr' hb
     rcases hW r' hr' with ⟨r, q1, q2, q3⟩ | q
     ·exact q3 _ (h1 r q1 (by rw [q2]; exact hb))
     ·exact q _
   ·have hne : r ≠ .done := by intro e; subst e; cases hk
    exact ihr.2 f done true L W W' ρ h hne k3 (fun e => by cases e) hr hW (hd2 hne) k hk
  refine ⟨?_, fun f done br L W W' ρ h _ hok _ hr hW hd => B f done br L W W' ρ h hok hr hW hd⟩
  intro f done L W W' ρ h hok hr hW hd
  cases f with
  | zero => simp [schOk] at hok
  | succ f =>
   have hb := B f done false L W W' ρ h hok hr hW hd
   simp only [schOk, Bool.and_eq_true, Bool.false_or] at hok
   have hl := nlEq_eq hok.1
   refine .inr (.inr (.inr ⟨?_, fun k hk => ?_⟩))
   ·intro e
    have : i ∈ rdy ops L := (rdy_allR hr).2 (by rw [hl]; exact List.mem_cons_self ..)
    rw [e] at this; cases this
   ·have := (rdy_allR hr).1 hk
    rw [hl] at this
    exact hb k this
def treeT (P : Program) (E : Nat → Bool) (n : Nat) (s : Sch) (c : Code) : Xf := fun ρ h Q => match c with
 | .region _ ops _ => tD P E n ops.toList (masks ops.toList []) (fun ρ' h' => Q .normal ρ' h') s [] ρ h
 | _ => False
def treeOk (P : Program) (s : Sch) : Code → Bool
 | .region _ ops true => slotsAll P ops.toList (masks ops.toList []) ops.toList 0 && schOk P ops.toList s ops.size false 0
 | _ => false
theorem tree_sound (hE : EnterOk P E) (hm : P.follows .mixedOrders = true) {s : Sch} {c : Code} (hc : treeOk P s c = true) : Sound P n (treeT P E n s c) c := by
 intro ρ h Q hd
 unfold treeOk at hc
 split at hc
 ·rename_i id ops
  simp only [Bool.and_eq_true] at hc
  refine D_draw_tree hm hc.1 ?_
  refine (tD_Tr hE s).1 _ 0 _ [] [] ρ h hc.2 ⟨by simp, fun j => ?_⟩ (by intro r hr; cases hr) hd
  rw [Array.getD_eq_getD_getElem?, bit_eq]
  by_cases hk : j < ops.size <;> simp [hk]
 ·cases hc
end
def nzK (b : Int) (X : Prop) : Prop := bif !decide (b = 0) then X else False
theorem nzK_of {b : Int} {X : Prop} (hb : b ≠ 0) (hx : X) : nzK b X := by unfold nzK; rw [decide_eq_false hb]; exact hx
end Go.Hw
