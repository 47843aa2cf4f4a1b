/- Texts of a walk over heaps, printed by program and by hand: lemmas for the law that is proved in this claim. No condition. -/
import Derived.Test.YtedklcmdjoojfaaDoorProg
import Derived.Test.YtedklcmdjoojfaaDoorPc
set_option linter.unusedSimpArgs false
set_option linter.unusedVariables false
set_option maxRecDepth 100000
namespace Go.Proofs.YtedklcmdjoojfaaDoor
open Go Go.Hw
def E : Nat → Bool := fun f => Nat.blt 2 f && Nat.blt f 76
theorem hE : EnterOk Tryd.prog E := by
  have all : ∀ f ∈ List.range' 3 73, (!E f || match Tryd.prog.funcs[f]? with | some fn => !fn.body.isNone && !(fn.name == "runtime.NumGoroutine") | none => false) = true := by
    rw [← List.all_eq_true]
    kernel_rfl
  intro f h
  have hm : f ∈ List.range' 3 73 := by
    simp only [E, Bool.and_eq_true, Bool.or_eq_true, Nat.blt_eq] at h
    simp only [List.mem_range'_1]; omega
  have := all f hm
  rw [h] at this
  simp only [Bool.not_true, Bool.false_or] at this
  split at this
  · rename_i fn hf
    simp only [Bool.and_eq_true, Bool.not_eq_true'] at this
    exact ⟨fn, hf, this.1, this.2⟩
  · cases this
theorem hm : Tryd.prog.follows .mixedOrders = true := by kernel_rfl
def C6 (x0 : Sl) (x1 : Sl) (x2_0 : Int) (x2_1 : Int) (x2_2 : Int) (x2_3 : Int) (x2_4 : ByteArray) (h : Hp) (K : Bool → Hp → Prop) : Prop :=
  HCalls Tryd.prog 6 ⟨[.slice x0.p x0.n x0.c, .slice x1.p x1.n x1.c, .agg ⟨[.int .i64 x2_0, .int .i64 x2_1, .int .i64 x2_2, .int .i64 x2_3, .string x2_4]⟩]⟩ h fun v h' => VT.on (.c (.bool)) (some v) fun r => K r h'
def C8  (h : Hp) (K : Bool → Hp → Prop) : Prop :=
  HCalls Tryd.prog 8 ⟨[]⟩ h fun v h' => VT.on (.c (.bool)) (some v) fun r => K r h'
def C9 (x0 : Sl) (h : Hp) (K : Sl → Hp → Prop) : Prop :=
  HCalls Tryd.prog 9 ⟨[.slice x0.p x0.n x0.c]⟩ h fun v h' => VT.on (.c (.slice)) (some v) fun r => K r h'
def C12 (x0 : Sl) (x1 : Sl) (h : Hp) (K : Bool → Hp → Prop) : Prop :=
  HCalls Tryd.prog 12 ⟨[.slice x0.p x0.n x0.c, .slice x1.p x1.n x1.c]⟩ h fun v h' => VT.on (.c (.bool)) (some v) fun r => K r h'
def C20 (x0 : Sl) (h : Hp) (K : Bool → Hp → Prop) : Prop :=
  HCalls Tryd.prog 20 ⟨[.slice x0.p x0.n x0.c]⟩ h fun v h' => VT.on (.c (.bool)) (some v) fun r => K r h'
def C21 (x0 : Sl) (x1 : ByteArray) (h : Hp) (K : Int → Bool → Hp → Prop) : Prop :=
  HCalls Tryd.prog 21 ⟨[.slice x0.p x0.n x0.c, .string x1]⟩ h fun v h' => tupOn [.c (.int .i64), .c (.bool)] v fun r => K r.1 r.2 h'
def C22 (x0 : Sl) (x1 : Int) (x2 : Int) (x3 : Int) (h : Hp) (K : Int → Int → Sl → Hp → Prop) : Prop :=
  HCalls Tryd.prog 22 ⟨[.slice x0.p x0.n x0.c, .int .i64 x1, .int .i64 x2, .int .i64 x3]⟩ h fun v h' => tupOn [.c (.int .i64), .c (.int .i64), .c (.slice)] v fun r => K r.1 r.2.1 r.2.2 h'
def C23 (x0 : Sl) (x1 : Sl) (x2 : Int) (h : Hp) (K : Int → Int → Int → Hp → Prop) : Prop :=
  HCalls Tryd.prog 23 ⟨[.slice x0.p x0.n x0.c, .slice x1.p x1.n x1.c, .int .i64 x2]⟩ h fun v h' => tupOn [.c (.int .i64), .c (.int .i64), .c (.int .i64)] v fun r => K r.1 r.2.1 r.2.2 h'
def C24 (x0 : Sl) (x1 : ByteArray) (h : Hp) (K : Int → Bool → Hp → Prop) : Prop :=
  HCalls Tryd.prog 24 ⟨[.slice x0.p x0.n x0.c, .string x1]⟩ h fun v h' => tupOn [.c (.int .i64), .c (.bool)] v fun r => K r.1 r.2 h'
def C25 (x0 : Sl) (x1 : Int) (x2 : Int) (x3 : Int) (h : Hp) (K : Int → Int → Sl → Hp → Prop) : Prop :=
  HCalls Tryd.prog 25 ⟨[.slice x0.p x0.n x0.c, .int .i64 x1, .int .i64 x2, .int .i64 x3]⟩ h fun v h' => tupOn [.c (.int .i64), .c (.int .i64), .c (.slice)] v fun r => K r.1 r.2.1 r.2.2 h'
def C26 (x0 : Sl) (x1 : Sl) (x2 : Int) (h : Hp) (K : Int → Int → Int → Hp → Prop) : Prop :=
  HCalls Tryd.prog 26 ⟨[.slice x0.p x0.n x0.c, .slice x1.p x1.n x1.c, .int .i64 x2]⟩ h fun v h' => tupOn [.c (.int .i64), .c (.int .i64), .c (.int .i64)] v fun r => K r.1 r.2.1 r.2.2 h'
def C27 (x0 : Sl) (x1 : Sl) (h : Hp) (K : Bool → Hp → Prop) : Prop :=
  HCalls Tryd.prog 27 ⟨[.slice x0.p x0.n x0.c, .slice x1.p x1.n x1.c]⟩ h fun v h' => VT.on (.c (.bool)) (some v) fun r => K r h'
def C43 (x0 : Sl) (x1 : Int) (h : Hp) (K : Bool → Hp → Prop) : Prop :=
  HCalls Tryd.prog 43 ⟨[.slice x0.p x0.n x0.c, .int .i64 x1]⟩ h fun v h' => VT.on (.c (.bool)) (some v) fun r => K r h'
def C44 (x0 : ByteArray) (h : Hp) (K : Bool → Hp → Prop) : Prop :=
  HCalls Tryd.prog 44 ⟨[.string x0]⟩ h fun v h' => VT.on (.c (.bool)) (some v) fun r => K r h'
def C45 (x0 : Sl) (x1 : Int) (h : Hp) (K : Bool → Hp → Prop) : Prop :=
  HCalls Tryd.prog 45 ⟨[.slice x0.p x0.n x0.c, .int .i64 x1]⟩ h fun v h' => VT.on (.c (.bool)) (some v) fun r => K r h'
def C46 (x0 : Int) (x1 : Int) (x2 : Int) (h : Hp) (K : Int → Hp → Prop) : Prop :=
  HCalls Tryd.prog 46 ⟨[.int .i64 x0, .int .i64 x1, .int .i64 x2]⟩ h fun v h' => VT.on (.c (.int .i64)) (some v) fun r => K r h'
def C47 (x0 : ByteArray) (h : Hp) (K : Bool → Hp → Prop) : Prop :=
  HCalls Tryd.prog 47 ⟨[.string x0]⟩ h fun v h' => VT.on (.c (.bool)) (some v) fun r => K r h'
end Go.Proofs.YtedklcmdjoojfaaDoor

set_option linter.unusedVariables false
set_option maxRecDepth 100000
namespace Go.Proofs.YtedklcmdjoojfaaDoor
open Go Go.Hw
end Go.Proofs.YtedklcmdjoojfaaDoor

set_option linter.unusedVariables false
set_option maxRecDepth 100000
namespace Go.Proofs.YtedklcmdjoojfaaDoor
open Go Go.Hw
end Go.Proofs.YtedklcmdjoojfaaDoor

set_option linter.unusedVariables false
set_option maxRecDepth 100000
namespace Go.Proofs.YtedklcmdjoojfaaDoor
open Go Go.Hw
end Go.Proofs.YtedklcmdjoojfaaDoor

/-
  What stands in separate blocks: a list of assertions, each with blocks of its own.
-/
set_option linter.unusedSimpArgs false
set_option linter.unusedVariables false
namespace Go.Hw
open Go
structure Asn where
  on : (Nat → Prop) → Hp → Prop
  loc : ∀ {F : Nat → Prop} {h h' : Hp}, (∀ x, F x → h' x = h x) → on F h → on F h'
  dom : ∀ {F : Nat → Prop} {h : Hp} {x : Nat}, on F h → F x → h x ≠ none
def Sat (L : List Asn) (h : Hp) : Prop :=
  ∃ F : Nat → Nat → Prop, (∀ (i : Nat) (A : Asn), L[i]? = some A → A.on (F i) h) ∧ ∀ i j x, i < L.length → j < L.length → F i x → F j x → i = j
theorem Sat.nil {h : Hp} : Sat [] h := ⟨fun _ _ => False, by simp, by simp⟩
theorem Sat.get {L : List Asn} {h : Hp} (hs : Sat L h) {i : Nat} {A : Asn} (hi : L[i]? = some A) : ∃ F, A.on F h := let ⟨F, h1, _⟩ := hs; ⟨F i, h1 i A hi⟩
theorem lt_of_get {α : Type} {l : List α} {i : Nat} {x : α} (h : l[i]? = some x) : i < l.length := (List.getElem?_eq_some_iff.1 h).1
theorem get_of_lt {α : Type} {l : List α} {i : Nat} (h : i < l.length) : ∃ x, l[i]? = some x := ⟨l[i], List.getElem?_eq_getElem h⟩
theorem Sat.step {L : List Asn} {h h' : Hp} {i : Nat} {A A' : Asn} (hs : Sat L h) (hi : L[i]? = some A)
    (hst : ∀ F, A.on F h → ∃ F', A'.on F' h' ∧ (∀ x, F' x → F x ∨ h x = none) ∧ ∀ x, ¬ F x → h x ≠ none → h' x = h x) : Sat (L.set i A') h' := by
  obtain ⟨F, h1, h2⟩ := hs
  obtain ⟨F', g1, g2, g3⟩ := hst _ (h1 i A hi)
  have hil := lt_of_get hi
  have dm : ∀ j x, j < L.length → F j x → h x ≠ none := fun j x hj hx => let ⟨B, hB⟩ := get_of_lt hj; B.dom (h1 j B hB) hx
  refine ⟨fun j => if j = i then F' else F j, ?_, ?_⟩
  · intro j B hj
    by_cases e : j = i
    · subst e
      rw [List.getElem?_set_self hil] at hj
      cases hj; simpa using g1
    · rw [List.getElem?_set_ne (fun q => e q.symm)] at hj
      simp only [if_neg e]
      refine B.loc ?_ (h1 j B hj)
      intro x hx
      refine g3 x (fun hq => e (h2 j i x (lt_of_get hj) hil hx hq)) (dm j x (lt_of_get hj) hx)
  · intro j k x hj hk hx hy
    rw [List.length_set] at hj hk
    by_cases e : j = i
    · subst e
      simp only [if_true] at hx
      by_cases e2 : k = j
      · exact e2.symm
      · simp only [if_neg e2] at hy
        rcases g2 x hx with q | q
        · exact h2 j k x hj hk q hy
        · exact (dm k x hk hy q).elim
    · simp only [if_neg e] at hx
      by_cases e2 : k = i
      · subst e2
        simp only [if_true] at hy
        rcases g2 x hy with q | q
        · exact h2 j k x hj hk hx q
        · exact (dm j x hj hx q).elim
      · simp only [if_neg e2] at hy
        exact h2 j k x hj hk hx hy
theorem Sat.ext {L : List Asn} {h h' : Hp} (hs : Sat L h) (he : Ext none' h h') : Sat L h' := by
  obtain ⟨F, h1, h2⟩ := hs
  refine ⟨F, fun i A hi => ?_, h2⟩
  refine A.loc (fun x hx => ?_) (h1 i A hi)
  cases hq : h x with
  | none => exact (A.dom (h1 i A hi) hx hq).elim
  | some o => exact he x o hq (fun e => e)
theorem Sat.more {L : List Asn} {h h' : Hp} {A : Asn} {F' : Nat → Prop} (hs : Sat L h) (he : Ext none' h h') (ha : A.on F' h') (hf : ∀ x, F' x → h x = none) : Sat (L ++ [A]) h' := by
  have hs' := hs.ext he
  obtain ⟨F, h1, h2⟩ := hs
  have dm : ∀ j x, j < L.length → F j x → h x ≠ none := fun j x hj hx => let ⟨B, hB⟩ := get_of_lt hj; B.dom (h1 j B hB) hx
  refine ⟨fun j => if j = L.length then F' else F j, ?_, ?_⟩
  · intro j B hj
    by_cases e : j = L.length
    · subst e
      simp at hj; subst hj; simpa using ha
    · have hlt : j < L.length := by have := lt_of_get hj; simp at this; omega
      rw [List.getElem?_append_left hlt] at hj
      simp only [if_neg e]
      refine B.loc (fun x hx => ?_) (h1 j B hj)
      cases hq : h x with
      | none => exact (dm j x hlt hx hq).elim
      | some o => exact he x o hq (fun e => e)
  · intro j k x hj hk hx hy
    simp at hj hk
    by_cases e : j = L.length
    · simp only [e, if_true] at hx
      by_cases e2 : k = L.length
      · omega
      · simp only [if_neg e2] at hy; exact (dm k x (by omega) hy (hf x hx)).elim
    · simp only [if_neg e] at hx
      by_cases e2 : k = L.length
      · simp only [e2, if_true] at hy; exact (dm j x (by omega) hx (hf x hy)).elim
      · simp only [if_neg e2] at hy; exact h2 j k x (by omega) (by omega) hx hy
theorem Sat.pick {L M : List Asn} {h : Hp} (hs : Sat L h) (f : Nat → Nat) (hf : ∀ (i : Nat) (A : Asn), M[i]? = some A → L[f i]? = some A) (hi : ∀ i j, i < M.length → j < M.length → f i = f j → i = j) : Sat M h := by
  obtain ⟨F, h1, h2⟩ := hs
  refine ⟨fun i => F (f i), fun i A hA => h1 _ A (hf i A hA), fun i j x hil hjl hx hy => ?_⟩
  obtain ⟨A, hA⟩ := get_of_lt hil
  obtain ⟨B, hB⟩ := get_of_lt hjl
  exact hi i j hil hjl (h2 _ _ x (lt_of_get (hf i A hA)) (lt_of_get (hf j B hB)) hx hy)
theorem Sat.left {L M : List Asn} {h : Hp} (hs : Sat (L ++ M) h) : Sat L h :=
  hs.pick (fun i => i) (fun i A hA => by rw [List.getElem?_append_left (lt_of_get hA)]; exact hA) (fun _ _ _ _ e => e)
def emp : Asn := ⟨fun F _ => ∀ x, ¬ F x, fun _ h => h, fun h hx => (h _ hx).elim⟩
def was (h0 : Hp) : Asn := ⟨fun F h => ∀ x, (F x ↔ h0 x ≠ none) ∧ (F x → h x = h0 x), fun hl h x => ⟨(h x).1, fun hx => (hl x hx).trans ((h x).2 hx)⟩, fun {F h x} hh hx => by rw [(hh x).2 hx]; exact ((hh x).1).1 hx⟩
def pt (b : Nat) (o : Obj) : Asn := ⟨fun F h => (∀ x, F x ↔ x = b) ∧ h b = some o, fun hl h => ⟨h.1, (hl b ((h.1 b).2 rfl)).trans h.2⟩, fun {F h x} hh hx => by rw [(hh.1 x).1 hx, hh.2]; simp⟩
def row (b : Nat) (T : TypeId) (cs : List Value) : Asn := pt b (.cells ⟨cs⟩ T (0, 0))
def own (T : TypeId) (sz : Nat) (s : Sl) (vs : List Value) : Asn :=
  ⟨fun F h => (∀ x, F x ↔ s.p = some (bk x)) ∧ Own h T sz s vs,
   fun {F h h'} hl hh => ⟨hh.1, by
    obtain ⟨h1, h2, h3⟩ := hh.2
    refine ⟨h1, h2, ?_⟩
    cases hp : s.p with
    | none => rw [hp] at h3; exact h3
    | some a =>
      rw [hp] at h3
      obtain ⟨e, cs, hb, hr⟩ := h3
      exact ⟨e, cs, (hl a.block ((hh.1 _).2 (by rw [hp, e]))).trans hb, hr⟩⟩,
   fun {F h x} hh hx => by
    have hp := (hh.1 x).1 hx
    have h3 := hh.2.2.2
    rw [hp] at h3
    obtain ⟨_, cs, hb, _⟩ := h3
    rw [show h x = _ from hb]; simp⟩
def pur (p : Prop) : Asn := ⟨fun F _ => (∀ x, ¬ F x) ∧ p, fun _ h => h, fun h hx => (h.1 _ hx).elim⟩
def star (M : List Asn) : Asn :=
  ⟨fun F h => ∃ G : Nat → Nat → Prop, (∀ (i : Nat) (A : Asn), M[i]? = some A → A.on (G i) h) ∧ (∀ i j x, i < M.length → j < M.length → G i x → G j x → i = j) ∧ ∀ x, F x ↔ ∃ i, i < M.length ∧ G i x,
   fun hl ⟨G, h1, h2, h3⟩ => ⟨G, fun i A hi => A.loc (fun x hx => hl x ((h3 x).2 ⟨i, lt_of_get hi, hx⟩)) (h1 i A hi), h2, h3⟩,
   fun {F h x} ⟨G, h1, h2, h3⟩ hx => by
    obtain ⟨i, hi, hg⟩ := (h3 x).1 hx
    obtain ⟨A, hA⟩ := get_of_lt hi
    exact A.dom (h1 i A hA) hg⟩
theorem Sat.open {L M : List Asn} {h : Hp} (hs : Sat (L ++ [star M]) h) : Sat (L ++ M) h := by
  obtain ⟨F, h1, h2⟩ := hs
  obtain ⟨G, g1, g2, g3⟩ := h1 L.length (star M) (by simp)
  refine ⟨fun i => if i < L.length then F i else G (i - L.length), ?_, ?_⟩
  · intro i A hi
    by_cases e : i < L.length
    · simp only [if_pos e]
      rw [List.getElem?_append_left e] at hi
      exact h1 i A (by rw [List.getElem?_append_left e]; exact hi)
    · simp only [if_neg e]
      rw [List.getElem?_append_right (by omega)] at hi
      exact g1 _ A hi
  · intro i j x hi hj hx hy
    simp only [List.length_append] at hi hj
    have key : ∀ i, i < L.length → ∀ j, ¬ j < L.length → j < L.length + M.length → F i x → G (j - L.length) x → False := by
      intro i hi j hj hj2 hx hy
      have := h2 i L.length x (by simp; omega) (by simp) hx ((g3 x).2 ⟨_, by omega, hy⟩)
      omega
    by_cases e : i < L.length
    · simp only [if_pos e] at hx
      by_cases e2 : j < L.length
      · simp only [if_pos e2] at hy
        exact h2 i j x (by simp; omega) (by simp; omega) hx hy
      · simp only [if_neg e2] at hy
        exact (key i e j e2 hj hx hy).elim
    · simp only [if_neg e] at hx
      by_cases e2 : j < L.length
      · simp only [if_pos e2] at hy
        exact (key j e2 i e hi hy hx).elim
      · simp only [if_neg e2] at hy
        have := g2 _ _ x (by omega) (by omega) hx hy
        omega
theorem Sat.close {L M : List Asn} {h : Hp} (hs : Sat (L ++ M) h) : Sat (L ++ [star M]) h := by
  obtain ⟨F, h1, h2⟩ := hs
  refine ⟨fun i => if i < L.length then F i else fun x => ∃ k, k < M.length ∧ F (L.length + k) x, ?_, ?_⟩
  · intro i A hi
    by_cases e : i < L.length
    · simp only [if_pos e]
      rw [List.getElem?_append_left e] at hi
      exact h1 i A (by rw [List.getElem?_append_left e]; exact hi)
    · simp only [if_neg e]
      have hlt := lt_of_get hi
      simp at hlt
      have : i = L.length := by omega
      subst this
      simp at hi; subst hi
      refine ⟨fun k => F (L.length + k), fun k A hk => h1 _ A (by rw [List.getElem?_append_right (by omega)]; simpa using hk), fun k l x hk hl hx hy => ?_, fun x => Iff.rfl⟩
      have := h2 _ _ x (by simp; omega) (by simp; omega) hx hy
      omega
  · intro i j x hi hj hx hy
    simp at hi hj
    by_cases e : i < L.length
    · simp only [if_pos e] at hx
      by_cases e2 : j < L.length
      · simp only [if_pos e2] at hy
        exact h2 i j x (by simp; omega) (by simp; omega) hx hy
      · simp only [if_neg e2] at hy
        obtain ⟨k, hk, hy⟩ := hy
        have := h2 _ _ x (by simp; omega) (by simp; omega) hx hy
        omega
    · simp only [if_neg e] at hx
      by_cases e2 : j < L.length
      · simp only [if_pos e2] at hy
        obtain ⟨k, hk, hx⟩ := hx
        have := h2 _ _ x (by simp; omega) (by simp; omega) hx hy
        omega
      · omega
theorem Sat.rot {L M : List Asn} {h : Hp} (hs : Sat (L ++ M) h) (j : Nat) {A : Asn} (hj : M[j]? = some A) : Sat ((L ++ M.eraseIdx j) ++ [A]) h := by
  have hjl := lt_of_get hj
  have hel : (M.eraseIdx j).length + 1 = M.length := by rw [List.length_eraseIdx_of_lt hjl]; omega
  refine hs.pick (fun i => if i < L.length + j then i else if i = L.length + (M.length - 1) then L.length + j else i + 1) ?_ ?_
  · intro i B hi
    have hlt := lt_of_get hi
    simp only [List.length_append, List.length_singleton] at hlt
    by_cases e : i < L.length + j
    · simp only [if_pos e]
      rw [List.getElem?_append_left (by simp; omega)] at hi
      by_cases e2 : i < L.length
      · rw [List.getElem?_append_left e2] at hi ⊢; exact hi
      · rw [List.getElem?_append_right (by omega)] at hi ⊢
        rw [List.getElem?_eraseIdx_of_lt (by omega)] at hi; exact hi
    · simp only [if_neg e]
      by_cases e2 : i = L.length + (M.length - 1)
      · simp only [if_pos e2]
        rw [List.getElem?_append_right (by simp; omega)] at hi
        have : i - (L ++ M.eraseIdx j).length = 0 := by simp; omega
        rw [this] at hi
        simp at hi
        rw [List.getElem?_append_right (by omega)]
        simp only [Nat.add_sub_cancel_left]
        rw [hj, hi]
      · simp only [if_neg e2]
        rw [List.getElem?_append_left (by simp; omega)] at hi
        rw [List.getElem?_append_right (by omega)] at hi ⊢
        rw [List.getElem?_eraseIdx_of_ge (by omega)] at hi
        rw [show i + 1 - L.length = i - L.length + 1 by omega]; exact hi
  · intro i k hi hk e
    simp only [List.length_append, List.length_singleton] at hi hk
    split at e <;> split at e <;> (try split at e) <;> (try split at e) <;> omega
theorem Sat.back {L M : List Asn} {h : Hp} {j : Nat} {A' : Asn} (hs : Sat ((L ++ M.eraseIdx j) ++ [A']) h) (hjl : j < M.length) : Sat (L ++ M.set j A') h := by
  have hel : (M.eraseIdx j).length + 1 = M.length := by rw [List.length_eraseIdx_of_lt hjl]; omega
  refine hs.pick (fun i => if i < L.length + j then i else if i = L.length + j then L.length + (M.length - 1) else i - 1) ?_ ?_
  · intro i B hi
    have hlt := lt_of_get hi
    simp only [List.length_append, List.length_set] at hlt
    by_cases e : i < L.length + j
    · simp only [if_pos e]
      rw [List.getElem?_append_left (by simp; omega)]
      by_cases e2 : i < L.length
      · rw [List.getElem?_append_left e2] at hi ⊢; exact hi
      · rw [List.getElem?_append_right (by omega)] at hi ⊢
        rw [List.getElem?_eraseIdx_of_lt (by omega)]
        rw [List.getElem?_set_ne (by omega)] at hi; exact hi
    · simp only [if_neg e]
      by_cases e2 : i = L.length + j
      · simp only [if_pos e2]
        rw [List.getElem?_append_right (by simp; omega)]
        have : L.length + (M.length - 1) - (L ++ M.eraseIdx j).length = 0 := by simp; omega
        rw [this]
        rw [List.getElem?_append_right (by omega)] at hi
        rw [show i - L.length = j by omega, List.getElem?_set_self hjl] at hi
        simpa using hi
      · simp only [if_neg e2]
        rw [List.getElem?_append_left (by simp; omega)]
        rw [List.getElem?_append_right (by omega)] at hi ⊢
        rw [List.getElem?_eraseIdx_of_ge (by omega)]
        rw [List.getElem?_set_ne (by omega)] at hi
        rw [show i - 1 - L.length + 1 = i - L.length by omega]; exact hi
  · intro i k hi hk e
    simp only [List.length_append, List.length_set] at hi hk
    split at e <;> split at e <;> (try split at e) <;> (try split at e) <;> omega
theorem Sat.imp {L M : List Asn} {h : Hp} (hs : Sat (L ++ M) h) (j : Nat) {A A' : Asn} (hj : M[j]? = some A) (hi : ∀ F, A.on F h → A'.on F h) : Sat (L ++ M.set j A') h := by
  have hjl := lt_of_get hj
  have := Sat.step (i := L.length + j) (A := A) (A' := A') (h' := h) hs (by rw [List.getElem?_append_right (by omega)]; simpa using hj) (fun F hF => ⟨F, hi F hF, fun x hx => .inl hx, fun _ _ _ => rfl⟩)
  rwa [List.set_append_right _ _ (by omega), Nat.add_sub_cancel_left] at this
theorem Sat.at {L M : List Asn} {h h' : Hp} (hs : Sat (L ++ M) h) (j : Nat) {A A' : Asn} (hj : M[j]? = some A)
    (hst : ∀ F, A.on F h → ∃ F', A'.on F' h' ∧ (∀ x, F' x → F x ∨ h x = none) ∧ ∀ x, ¬ F x → h x ≠ none → h' x = h x) : Sat (L ++ M.set j A') h' := by
  have hjl := lt_of_get hj
  have := Sat.step (i := L.length + j) (A := A) (A' := A') (h' := h') hs (by rw [List.getElem?_append_right (by omega)]; simpa using hj) hst
  rwa [List.set_append_right _ _ (by omega), Nat.add_sub_cancel_left] at this
theorem Sat.get' {L M : List Asn} {h : Hp} (hs : Sat (L ++ M) h) (j : Nat) {A : Asn} (hj : M[j]? = some A) : ∃ F, A.on F h :=
  hs.get (i := L.length + j) (by rw [List.getElem?_append_right (by omega)]; simpa using hj)
theorem Sat.add {L M : List Asn} {h h' : Hp} {A : Asn} {F' : Nat → Prop} (hs : Sat (L ++ M) h) (he : Ext none' h h') (ha : A.on F' h') (hf : ∀ x, F' x → h x = none) : Sat (L ++ (M ++ [A])) h' := by
  rw [← List.append_assoc]; exact hs.more he ha hf
theorem Sat.pt {L M : List Asn} {h : Hp} (hs : Sat (L ++ M) h) (j : Nat) {b : Nat} {o : Obj} (hj : M[j]? = some (Hw.pt b o)) : h b = some o := let ⟨_, hF⟩ := hs.get' j hj; hF.2
theorem Sat.blk {L M : List Asn} {h : Hp} (hs : Sat (L ++ M) h) (j : Nat) {b : Nat} {T : TypeId} {cs : List Value} (hj : M[j]? = some (row b T cs)) : Blk h b T cs := let ⟨_, hF⟩ := hs.get' j hj; hF.2
theorem Sat.own {L M : List Asn} {h : Hp} (hs : Sat (L ++ M) h) (j : Nat) {T : TypeId} {sz : Nat} {s : Sl} {vs : List Value} (hj : M[j]? = some (Hw.own T sz s vs)) : Own h T sz s vs := let ⟨_, hF⟩ := hs.get' j hj; hF.2
theorem Sat.was {L M : List Asn} {h h0 : Hp} (hs : Sat (L ++ M) h) (j : Nat) (hj : M[j]? = some (Hw.was h0)) : Ext none' h0 h := by
  obtain ⟨F, hF⟩ := hs.get' j hj
  intro b o hb _
  have := (hF b).2 ((hF b).1.2 (by rw [hb]; simp))
  rw [this]; exact hb
theorem Sat.pur {L M : List Asn} {h : Hp} (hs : Sat (L ++ M) h) (j : Nat) {p : Prop} (hj : M[j]? = some (Hw.pur p)) : p := let ⟨_, hF⟩ := hs.get' j hj; hF.2
theorem Sat.put {L M : List Asn} {h : Hp} (hs : Sat (L ++ M) h) (j : Nat) {b : Nat} {o o' : Obj} (hj : M[j]? = some (Hw.pt b o)) : Sat (L ++ M.set j (Hw.pt b o')) (upd h b o') :=
  hs.at j hj fun F hF => ⟨F, ⟨hF.1, upd_same⟩, fun x hx => .inl hx, fun x hx _ => upd_ne (fun e => hx ((hF.1 x).2 e))⟩
theorem Sat.new {L M : List Asn} {h : Hp} {b : Nat} (hs : Sat (L ++ M) h) (hb : h b = none) (o : Obj) : Sat (L ++ (M ++ [Hw.pt b o])) (upd h b o) :=
  hs.add (Ext.new hb) (F' := fun x => x = b) ⟨fun _ => Iff.rfl, upd_same⟩ (fun x hx => by rw [hx]; exact hb)
theorem Sat.st {L M : List Asn} {h : Hp} {b k : Nat} {T : TypeId} {cs : List Value} {v : Value} {F : Hp → Prop} (hs : Sat (L ++ M) h) (j : Nat) (hj : M[j]? = some (row b T cs)) (hk : k < cs.length) (hp : plain v = true)
    (hF : ∀ h', Sat (L ++ M.set j (row b T (cs.set k v))) h' → F h') : Hw.st h ⟨b, k, none⟩ v F :=
  (hs.blk j hj).st hk hp (hF _ (hs.put j hj))
theorem Sat.addOwn {L M : List Asn} {h h' : Hp} {T : TypeId} {sz : Nat} {s : Sl} {vs : List Value} (hs : Sat (L ++ M) h) (he : Ext none' h h') (ho : Own h' T sz s vs) (hf : ∀ b, s.p = some (bk b) → h b = none) : Sat (L ++ (M ++ [Hw.own T sz s vs])) h' :=
  hs.add he (F' := fun x => s.p = some (bk x)) ⟨fun _ => Iff.rfl, ho⟩ hf
theorem Sat.ap {P : Program} {L M : List Asn} {T : TypeId} {sz : Nat} {s : Sl} {vs ns : List Value} {y : Value} {h : Hp} {F : Sl → Hp → Prop} {n : Nat} (hs : Sat (L ++ M) h) (j : Nat) (hj : M[j]? = some (Hw.own T sz s vs))
    (hsz : P.cellsOf T = sz) (hz : (zc P T).length = sz) (hln : ∀ G : Nat → Prop, lnK y G = G n) (hsrc : ∀ G : List Value → Prop, G ns → srcK h sz n y G)
    (hns : ns.length = n * sz) (hpl : ∀ v ∈ ns, plain v = true) (hby : (s.n + n) * 2 * P.bytesOf T ≤ 2 ^ 48)
    (hF : ∀ s' h', Sat (L ++ M.set j (Hw.own T sz s' (vs ++ ns))) h' → s'.n = s.n + n → F s' h') : apK P T s y h F := by
  refine apK_own (hs.own j hj) hsz hz hln hsrc hns hpl hby ?_
  intro s' h' ho hn he hr
  refine hF s' h' (hs.at j hj fun G hG => ⟨fun x => s'.p = some (bk x), ⟨fun _ => Iff.rfl, ho⟩, fun x hx => ?_, fun x hx hne => ?_⟩) hn
  · rcases hr x hx with e | e
    · exact .inl ((hG.1 x).2 e)
    · exact .inr e
  · cases hq : h x with
    | none => exact (hne hq).elim
    | some o => exact he x o hq (fun e => hx ((hG.1 x).2 e))
theorem Sat.ap2 {P : Program} {L M : List Asn} {T : TypeId} {sz : Nat} {s : Sl} {vs ns : List Value} {y : Value} {h : Hp} {F : Sl → Hp → Prop} {n : Nat} (hs : Sat (L ++ M) h) (j : Nat) (hj : M[j]? = some (Hw.own T sz s vs))
    (hsz : P.cellsOf T = sz) (hz : (zc P T).length = sz) (hln : ∀ G : Nat → Prop, lnK y G = G n) (hsrc : ∀ G : List Value → Prop, G ns → srcK h sz n y G)
    (hns : ns.length = n * sz) (hpl : ∀ v ∈ ns, plain v = true) (hby : (s.n + n) * 2 * P.bytesOf T ≤ 2 ^ 48)
    (hin : s.n + n ≤ s.c → ∀ h', Sat (L ++ M.set j (Hw.own T sz ⟨s.p, s.n + n, s.c⟩ (vs ++ ns))) h' → F ⟨s.p, s.n + n, s.c⟩ h')
    (hnew : ∀ s' h', s'.n = s.n + n → Sat (L ++ (M ++ [Hw.own T sz s' (vs ++ ns)])) h' → F s' h') : apK P T s y h F := by
  have ho := hs.own j hj
  unfold apK
  rw [hln]
  obtain ⟨h1, h2, h3⟩ := ho
  refine ⟨fun hc => ?_, fun hc => ⟨?_, ?_⟩⟩
  · rw [hsz]
    refine hsrc _ ?_
    cases hp : s.p with
    | none =>
      rw [hp] at h3
      have h3' : s.c = 0 := h3
      have : n = 0 := by omega
      subst this
      rw [Nat.zero_mul] at hns
      have : ns = [] := List.length_eq_zero_iff.1 hns
      subst this
      simp only []
      have := hin hc h (hs.imp j hj fun F' hF' => ?_)
      · rw [hp] at this; exact this
      · rw [List.append_nil]; exact hF'
    | some a =>
      rw [hp] at h3
      obtain ⟨e, cs, hb, hl, ht⟩ := h3
      simp only []
      have hmul : (s.n + n) * sz ≤ s.c * sz := Nat.mul_le_mul_right _ hc
      rw [Nat.add_mul] at hmul
      have e2 : a.add (s.n * sz) = ⟨a.block, s.n * sz, none⟩ := by rw [e, add_bk]
      rw [e2]
      refine wrL_blk (o := s.n * sz) ns 0 h cs hb (by omega) hpl ?_
      intro h' hb' hf
      rw [Nat.add_zero, setL_eq (by omega)] at hb'
      have := hin hc h' (hs.at j hj fun G hG => ⟨G, ⟨hG.1, by simp [h1, hns, Nat.add_mul], hc, ?_⟩, fun x hx => .inl hx, fun x hx _ => hf x (fun q => hx ((hG.1 x).2 (by rw [hp, e, q])))⟩)
      · rw [hp] at this; exact this
      · show match s.p with | none => _ | some a => _
        rw [hp]
        refine ⟨e, _, hb', ?_, ?_⟩
        · simp; omega
        · rw [← h1, ht]
          rw [List.append_assoc, ← List.append_assoc vs, List.take_left']
          simp
  · have := nextcap_le (s.n + n) s.c hc
    calc _ ≤ 2 * (s.n + n) * P.bytesOf T := Nat.mul_le_mul_right _ this
      _ = (s.n + n) * 2 * P.bytesOf T := by rw [Nat.mul_comm 2]
      _ ≤ 2 ^ 48 := hby
  · rw [hsz]
    refine srcK_own ⟨h1, h2, h3⟩ (Nat.le_refl _) ?_
    refine hsrc _ ?_
    intro c b hcb hb
    rw [← h1, List.take_length]
    have harr : (⟨vs ++ ns⟩ : Array Value) ++ zeros P T (c - (s.n + n)) = ⟨(vs ++ ns) ++ (zeros P T (c - (s.n + n))).toList⟩ := by apply Array.ext'; simp
    rw [harr]
    refine hnew ⟨some (bk b), s.n + n, c⟩ _ rfl (hs.addOwn (Ext.new hb) ⟨by simp [h1, hns, Nat.add_mul], hcb, rfl, _, Blk.upd_same, ?_, ?_⟩ ?_)
    · show _ = c * sz
      rw [List.length_append, zeros_len, hz, List.length_append, h1, hns, ← Nat.add_mul, ← Nat.add_mul]; congr 1; omega
    · exact List.take_left
    · intro b' hb'
      simp only [Option.some.injEq] at hb'
      have : b = b' := congrArg Addr.block hb'
      subst this; exact hb
theorem Sat.into {L X : List Asn} {A : Asn} {h : Hp} (hs : Sat (L ++ [star X, A]) h) : Sat (L ++ [star (X ++ [A])]) h := by
  have h1 := hs.rot 0 rfl
  have h2 := h1.open
  rw [show (L ++ [star X, A].eraseIdx 0) ++ X = L ++ (A :: X) by simp] at h2
  have h3 := h2.rot 0 rfl
  rw [show (L ++ (A :: X).eraseIdx 0) ++ [A] = L ++ (X ++ [A]) by simp] at h3
  exact h3.close
theorem Sat.drop {L M : List Asn} {h : Hp} (hs : Sat (L ++ M) h) : Sat L h := hs.left
def orA (A B : Asn) : Asn := ⟨fun F h => A.on F h ∨ B.on F h, fun hl hh => hh.imp (A.loc hl) (B.loc hl), fun hh hx => hh.elim (fun h => A.dom h hx) (fun h => B.dom h hx)⟩
end Go.Hw

/-
  Bytes: slices that read as lists of bytes; rows that are pushed to; new slices.
-/
set_option linter.unusedSimpArgs false
set_option linter.unusedVariables false
namespace Go.Hw
open Go
theorem cellx {h h' : Hp} (he : Ext none' h h') {a : Addr} {v : Value} (hc : cell h a = some v) : cell h' a = some v := by
  unfold cell at hc ⊢
  cases hb : h a.block with
  | none => rw [hb] at hc; cases hc
  | some o => rw [hb] at hc; rw [he _ _ hb (fun e => e)]; exact hc
theorem addadd (a : Addr) (m n : Nat) : (a.add m).add n = a.add (m + n) := by
  unfold Addr.add
  by_cases h1 : m = 0
  · subst h1; simp
  · by_cases h2 : n = 0
    · subst h2; simp
    · simp [h1, h2, Nat.add_assoc]
@[simp] theorem addzero (a : Addr) : a.add 0 = a := by simp [Addr.add]
def Rdc (h : Hp) (p : Option Addr) (vs : List Value) : Prop := ∀ (i : Nat) (v : Value), vs[i]? = some v → ∃ a, p = some a ∧ cell h (a.add i) = some v
theorem Rdc.ext {h h' : Hp} {p : Option Addr} {vs : List Value} (H : Rdc h p vs) (he : Ext none' h h') : Rdc h' p vs := fun i v hi => let ⟨a, hp, hc⟩ := H i v hi; ⟨a, hp, cellx he hc⟩
theorem Rdc.drop {h : Hp} {a : Addr} {vs : List Value} (H : Rdc h (some a) vs) (k : Nat) : Rdc h (some (a.add k)) (vs.drop k) := by
  intro i v hi
  rw [List.getElem?_drop] at hi
  obtain ⟨b, hb, hc⟩ := H _ v hi
  cases hb
  exact ⟨_, rfl, by rw [addadd]; exact hc⟩
theorem Rdc.take {h : Hp} {p : Option Addr} {vs : List Value} (H : Rdc h p vs) (k : Nat) : Rdc h p (vs.take k) := by
  intro i v hi
  rw [List.getElem?_take] at hi
  split at hi
  · exact H i v hi
  · cases hi
theorem Rdc.rdN {h : Hp} {a : Addr} {vs : List Value} (H : Rdc h (some a) vs) : ∀ (n i : Nat), i + n ≤ vs.length → Hw.rdN h a i n = some ((vs.drop i).take n) := by
  intro n
  induction n with
  | zero => intro i _; simp [Hw.rdN]
  | succ n ih =>
    intro i hi
    have hlt : i < vs.length := by omega
    obtain ⟨b, hb, hc⟩ := H i vs[i] (List.getElem?_eq_getElem hlt)
    cases hb
    simp only [Hw.rdN, hc, ih (i + 1) (by omega)]
    rw [List.drop_eq_getElem_cons hlt, List.take_succ_cons]
theorem Blk.rdc {h : Hp} {b : Nat} {T : TypeId} {cs : List Value} (hb : Blk h b T cs) : Rdc h (some (bk b)) cs := fun i v hi => ⟨_, rfl, by rw [add_bk, hb.cell]; exact hi⟩
theorem Own.rdc {h : Hp} {T : TypeId} {sz : Nat} {s : Sl} {vs : List Value} (ho : Own h T sz s vs) : Rdc h s.p vs := by
  intro i v hi
  obtain ⟨b, hp, hc⟩ := ho.get hi
  exact ⟨bk b, hp, by rw [add_bk]; exact hc⟩
def bc (l : List UInt8) : List Value := l.map fun b => .int .u8 b.toNat
@[simp] theorem bc_len (l : List UInt8) : (bc l).length = l.length := by simp [bc]
@[simp] theorem bc_nil : bc [] = [] := rfl
@[simp] theorem bc_cons (b : UInt8) (l : List UInt8) : bc (b :: l) = .int .u8 b.toNat :: bc l := rfl
theorem bc_app (l m : List UInt8) : bc (l ++ m) = bc l ++ bc m := by simp [bc]
theorem bc_get (l : List UInt8) (i : Nat) : (bc l)[i]? = l[i]?.map fun b => .int .u8 b.toNat := by simp [bc]
theorem bc_take (l : List UInt8) (n : Nat) : bc (l.take n) = (bc l).take n := by simp [bc, List.map_take]
theorem bc_drop (l : List UInt8) (n : Nat) : bc (l.drop n) = (bc l).drop n := by simp [bc, List.map_drop]
theorem bc_set (l : List UInt8) (n : Nat) (b : UInt8) : bc (l.set n b) = (bc l).set n (.int .u8 b.toNat) := by simp [bc, List.map_set]
theorem bcells_bc (s : ByteArray) : bcells s = bc s.data.toList := rfl
theorem bc_plain {l : List UInt8} : ∀ v ∈ bc l, plain v = true := by
  intro v hv
  obtain ⟨b, _, rfl⟩ := List.mem_map.1 hv
  rfl
theorem cbytes_bc : ∀ (l : List UInt8), cbytes (bc l) = some l := by
  intro l
  induction l with
  | nil => rfl
  | cons b l ih => simp only [bc_cons, cbytes, ih]; simp
structure RdB (h : Hp) (s : Sl) (l : List UInt8) : Prop where
  n : s.n = l.length
  c : s.n ≤ s.c
  r : Rdc h s.p (bc l)
theorem RdB.ext {h h' : Hp} {s : Sl} {l : List UInt8} (H : RdB h s l) (he : Ext none' h h') : RdB h' s l := ⟨H.n, H.c, H.r.ext he⟩
theorem Own.rdb {h : Hp} {T : TypeId} {s : Sl} {l : List UInt8} (ho : Own h T 1 s (bc l)) : RdB h s l := ⟨by have := ho.1; simpa using this.symm, ho.2.1, ho.rdc⟩
theorem RdB.nil {h : Hp} {p : Option Addr} {c : Nat} : RdB h ⟨p, 0, c⟩ [] := ⟨rfl, Nat.zero_le _, by intro i v hi; simp at hi⟩
theorem RdB.get {h : Hp} {s : Sl} {l : List UInt8} (H : RdB h s l) {i : Nat} (hi : i < l.length) : ∃ a, s.p = some a ∧ cell h (a.add i) = some (.int .u8 (l[i]'hi).toNat) :=
  H.r i _ (by rw [bc_get, List.getElem?_eq_getElem hi]; rfl)
theorem RdB.at {h : Hp} {s : Sl} {l : List UInt8} (H : RdB h s l) {x : Int} {i : Nat} (hx : x = i) (hi : i < l.length) {F : Int → Prop} (hF : F ((l[i]'hi).toNat : Int)) :
    idx x s.n (nn s.p fun a => xI .u8 (cell h (a.add (x.toNat * 1))) F) := by
  obtain ⟨a, hp, hc⟩ := H.get hi
  refine idx_of (by omega) (by have := H.n; omega) ?_
  rw [hp]
  subst hx
  simp only [nn_some', Nat.mul_one, Int.toNat_natCast, hc, xI_some]
  exact hF
theorem RdB.b2s {h : Hp} {s : Sl} {l : List UInt8} (H : RdB h s l) {F : ByteArray → Prop} (hF : F ⟨⟨l⟩⟩) : Hw.b2s h s.p s.n F := by
  unfold Hw.b2s
  cases hp : s.p with
  | none =>
    have : l = [] := by
      cases l with
      | nil => rfl
      | cons b l => obtain ⟨a, ha, _⟩ := H.get (i := 0) (by simp); rw [hp] at ha; cases ha
    subst this; exact hF
  | some a =>
    have hr := H.r
    rw [hp] at hr
    simp only []
    rw [hr.rdN _ _ (by rw [H.n]; simp), H.n]
    simp only [List.drop_zero]
    rw [← bc_len, List.take_length, cbytes_bc]
    exact hF
theorem RdB.srcK {h : Hp} {s : Sl} {l : List UInt8} (H : RdB h s l) {n : Nat} (hn : n ≤ l.length) {F : List Value → Prop} (hF : F (bc (l.take n))) : Hw.srcK h 1 n s.v F := by
  unfold Hw.srcK Sl.v
  simp only []
  cases hp : s.p with
  | none =>
    have : l = [] := by
      cases l with
      | nil => rfl
      | cons b l => obtain ⟨a, ha, _⟩ := H.get (i := 0) (by simp); rw [hp] at ha; cases ha
    subst this; simpa using hF
  | some a =>
    have hr := H.r
    rw [hp] at hr
    simp only []
    rw [hr.rdN _ _ (by simp; omega)]
    simp only [List.drop_zero, Nat.mul_one]
    rw [← bc_take]; exact hF
theorem RdB.sub {h : Hp} {s : Sl} {l : List UInt8} (H : RdB h s l) {lo hi : Nat} (h1 : lo ≤ hi) (h2 : hi ≤ l.length) : RdB h ⟨sadr s.p s.c lo 1, hi - lo, s.c - lo⟩ ((l.drop lo).take (hi - lo)) := by
  have hn := H.n
  have hc := H.c
  refine ⟨by simp; omega, by simp; omega, ?_⟩
  show Rdc h (sadr s.p s.c lo 1) _
  unfold sadr
  split
  · have : hi - lo = 0 := by omega
    rw [this]
    intro i v hi; simp at hi
  · cases hp : s.p with
    | none =>
      intro i v hi
      obtain ⟨a, ha, _⟩ := H.get (i := 0) (by
        rw [bc_get] at hi
        simp only [Option.map_eq_some_iff] at hi
        obtain ⟨b, hb, _⟩ := hi
        have := lt_of_get hb
        simp at this; omega)
      rw [hp] at ha; cases ha
    | some a =>
      have hr := H.r
      rw [hp] at hr
      have := (hr.drop (lo * 1)).take (hi - lo)
      rw [Nat.mul_one] at this ⊢
      rw [bc_take, bc_drop]
      exact this
theorem Sat.start {h : Hp} : Sat ([] ++ [Hw.was h]) h :=
  ⟨fun _ x => h x ≠ none, fun i A hi => by
    have : i = 0 := by have := lt_of_get hi; simp at this; omega
    subst this
    simp at hi; subst hi
    exact fun x => ⟨Iff.rfl, fun _ => rfl⟩, fun i j x hi hj _ _ => by simp at hi hj; omega⟩
def NewO (h h' : Hp) (T : TypeId) (sz : Nat) (s : Sl) (vs : List Value) : Prop := Ext none' h h' ∧ Own h' T sz s vs ∧ ∀ b, s.p = some (bk b) → h b = none
theorem Sat.newO {L M : List Asn} {h h0 : Hp} (hs : Sat (L ++ M) h) (i j : Nat) {T : TypeId} {sz : Nat} {s : Sl} {vs : List Value} (hi : M[i]? = some (Hw.was h0)) (hj : M[j]? = some (Hw.own T sz s vs)) (hij : i ≠ j) : NewO h0 h T sz s vs := by
  refine ⟨hs.was i hi, hs.own j hj, ?_⟩
  obtain ⟨F, h1, h2⟩ := hs
  intro b hb
  cases hq : h0 b with
  | none => rfl
  | some o =>
    have w := h1 (L.length + i) (Hw.was h0) (by rw [List.getElem?_append_right (by omega)]; simpa using hi)
    have u := h1 (L.length + j) (Hw.own T sz s vs) (by rw [List.getElem?_append_right (by omega)]; simpa using hj)
    have li := lt_of_get hi
    have lj := lt_of_get hj
    have := h2 (L.length + i) (L.length + j) b (by simp; omega) (by simp; omega) ((w b).1.2 (by rw [hq]; simp)) ((u.1 b).2 hb)
    omega
theorem NewO.nil {h : Hp} {T : TypeId} {sz : Nat} : NewO h h T sz ⟨none, 0, 0⟩ [] := ⟨Ext.refl, Own.nil, by intro b hb; cases hb⟩
theorem Sat.addNew {L M : List Asn} {h h' : Hp} {T : TypeId} {sz : Nat} {s : Sl} {vs : List Value} (hs : Sat (L ++ M) h) (hn : NewO h h' T sz s vs) : Sat (L ++ (M ++ [Hw.own T sz s vs])) h' := hs.addOwn hn.1 hn.2.1 hn.2.2
theorem Sat.addNil {L M : List Asn} {h : Hp} (T : TypeId) (sz : Nat) (hs : Sat (L ++ M) h) : Sat (L ++ (M ++ [Hw.own T sz ⟨none, 0, 0⟩ []])) h := hs.addNew NewO.nil
theorem NewO.trans {h h1 h' : Hp} {T : TypeId} {sz : Nat} {s : Sl} {vs : List Value} (he : Ext none' h h1) (hn : NewO h1 h' T sz s vs) : NewO h h' T sz s vs := by
  refine ⟨he.trans hn.1, hn.2.1, fun b hb => ?_⟩
  cases hq : h b with
  | none => rfl
  | some o => have := he b o hq (fun e => e); rw [hn.2.2 b hb] at this; cases this
theorem NewO.ext {h h1 h' : Hp} {T : TypeId} {sz : Nat} {s : Sl} {vs : List Value} (hn : NewO h h1 T sz s vs) (he : Ext none' h1 h') : NewO h h' T sz s vs :=
  ⟨hn.1.trans he, hn.2.1.ext he (fun _ _ e => e), hn.2.2⟩
theorem Sat.push {P : Program} {L M : List Asn} {T : TypeId} {sz k : Nat} {s : Sl} {vs ns : List Value} {h : Hp} {F : Sl → Hp → Prop} (hs : Sat (L ++ M) h) (j : Nat) (hj : M[j]? = some (Hw.own T sz s vs))
    (hsz : P.cellsOf T = sz) (hz : (zc P T).length = sz) (hns : ns.length = k * sz) (hpl : ∀ v ∈ ns, plain v = true) (hby : (s.n + k) * 2 * P.bytesOf T ≤ 2 ^ 48)
    (hF : ∀ s' h', Sat (L ++ M.set j (Hw.own T sz s' (vs ++ ns))) h' → s'.n = s.n + k → F s' h') :
    nw h (.cells ⟨ns⟩ T) fun b0 h0 => apK P T s (.slice (some (bk b0)) k k) h0 F := by
  intro b0 e0
  have hs1 := hs.ext (Ext.new (o := .cells ⟨ns⟩ T (0, 0)) e0)
  refine hs1.ap j hj hsz hz (n := k) (fun _ => rfl) ?_ hns hpl hby hF
  intro G hG
  unfold srcK
  simp only []
  rw [rdN_blk (T := T) (cs := ns) Blk.upd_same _ _ (by omega)]
  simp only [List.drop_zero]
  rw [← hns, List.take_length]; exact hG
theorem Sat.push2 {P : Program} {L M : List Asn} {T : TypeId} {sz k : Nat} {s : Sl} {vs ns : List Value} {h : Hp} {F : Sl → Hp → Prop} (hs : Sat (L ++ M) h) (j : Nat) (hj : M[j]? = some (Hw.own T sz s vs))
    (hsz : P.cellsOf T = sz) (hz : (zc P T).length = sz) (hns : ns.length = k * sz) (hpl : ∀ v ∈ ns, plain v = true) (hby : (s.n + k) * 2 * P.bytesOf T ≤ 2 ^ 48)
    (hin : s.n + k ≤ s.c → ∀ h', Sat (L ++ M.set j (Hw.own T sz ⟨s.p, s.n + k, s.c⟩ (vs ++ ns))) h' → F ⟨s.p, s.n + k, s.c⟩ h')
    (hnew : ∀ s' h', s'.n = s.n + k → Sat (L ++ (M ++ [Hw.own T sz s' (vs ++ ns)])) h' → F s' h') :
    nw h (.cells ⟨ns⟩ T) fun b0 h0 => apK P T s (.slice (some (bk b0)) k k) h0 F := by
  intro b0 e0
  have hs1 := hs.ext (Ext.new (o := .cells ⟨ns⟩ T (0, 0)) e0)
  refine hs1.ap2 j hj hsz hz (n := k) (fun _ => rfl) ?_ hns hpl hby hin hnew
  intro G hG
  unfold srcK
  simp only []
  rw [rdN_blk (T := T) (cs := ns) Blk.upd_same _ _ (by omega)]
  simp only [List.drop_zero]
  rw [← hns, List.take_length]; exact hG
theorem Sat.mk {P : Program} {L M : List Asn} {T : TypeId} {sz : Nat} {l c : Int} {h : Hp} {F : Sl → Hp → Prop} (hs : Sat (L ++ M) h) (hz : (zc P T).length = sz) (h0 : 0 ≤ l) (h1 : l ≤ c) (h2 : P.bytesOf T * c ≤ 2 ^ 48) (h3 : c ≤ 9223372036854775807)
    (hF : ∀ s' h' , s'.n = l.toNat → s'.c = c.toNat → Sat (L ++ (M ++ [Hw.own T sz s' (zeros P T l.toNat).toList])) h' → F s' h') : mkK P T l c h F := by
  unfold mkK
  simp only [h0, h1, h2, h3, decide_true, Bool.and_self, cond_true]
  intro b hb
  have split : (zeros P T c.toNat).toList.take (l.toNat * (zc P T).length) = (zeros P T l.toNat).toList := by
    unfold zeros Builtin.zeroCells
    have : min (l.toNat * (zc P T).length) (c.toNat * (zc P T).length) = l.toNat * (zc P T).length := Nat.min_eq_left (Nat.mul_le_mul_right _ (by omega))
    simp [← List.map_take, List.take_range, this]
  refine hF ⟨some (bk b), l.toNat, c.toNat⟩ _ rfl rfl (hs.addOwn (Ext.new hb) ⟨?_, ?_, rfl, (zeros P T c.toNat).toList, ?_, ?_, ?_⟩ ?_)
  · rw [zeros_len, hz]
  · show l.toNat ≤ c.toNat; omega
  · show upd h b _ b = some (.cells ⟨(zeros P T c.toNat).toList⟩ T (0, 0))
    rw [upd_same]
  · rw [zeros_len, hz]
  · rw [zeros_len]; exact split
  · intro b' hb'
    simp only [Option.some.injEq] at hb'
    have : b = b' := congrArg Addr.block hb'
    subst this; exact hb
theorem Sat.sto {L M : List Asn} {h : Hp} {T : TypeId} {sz k : Nat} {s : Sl} {vs : List Value} {v : Value} {F : Hp → Prop} (hs : Sat (L ++ M) h) (j : Nat) (hj : M[j]? = some (Hw.own T sz s vs)) (hk : k < vs.length) (hp : plain v = true)
    (hF : ∀ b h', s.p = some (bk b) → Sat (L ++ M.set j (Hw.own T sz s (vs.set k v))) h' → F h') : ∃ b, s.p = some (bk b) ∧ Hw.st h ⟨b, k, none⟩ v F := by
  have ho := hs.own j hj
  obtain ⟨b, cs, hsp, hb, hl, ht⟩ := ho.row (by intro e; rw [e] at hk; simp at hk)
  refine ⟨b, hsp, ?_⟩
  have hlen : vs.length ≤ cs.length := by rw [← ht]; simp; omega
  refine hb.st (by omega) hp ?_
  refine hF b _ hsp (hs.at j hj fun G hG => ⟨G, ⟨hG.1, ?_⟩, fun x hx => .inl hx, fun x hx _ => upd_ne (fun e => hx ((hG.1 x).2 (by rw [hsp, e])))⟩)
  refine ⟨by simpa using ho.1, ho.2.1, ?_⟩
  show match s.p with | none => _ | some a => _
  rw [hsp]
  refine ⟨rfl, cs.set k v, upd_same, by simpa using hl, ?_⟩
  rw [List.length_set, List.take_set, ht]
end Go.Hw

/-
  Rows of bytes that may bear a mark behind their end (a string's bytes, taken as a slice): reading, writing, append.
-/
set_option linter.unusedSimpArgs false
set_option linter.unusedVariables false
namespace Go.Hw
open Go
def Blm (h : Hp) (b : Nat) (T : TypeId) (l : List Value) : Prop := ∃ z : Nat × Nat, (z.1 = z.2 ∨ l.length ≤ z.1) ∧ h b = some (.cells ⟨l⟩ T z)
theorem Blk.m {h : Hp} {b : Nat} {T : TypeId} {l : List Value} (hb : Blk h b T l) : Blm h b T l := ⟨(0, 0), .inl rfl, hb⟩
theorem Blm.cell {h : Hp} {b k : Nat} {T : TypeId} {l : List Value} (hb : Blm h b T l) : Hw.cell h ⟨b, k, none⟩ = l[k]? := by
  obtain ⟨z, _, hb⟩ := hb; exact cell_at hb
theorem Blm.st {h : Hp} {b k : Nat} {T : TypeId} {l : List Value} {v : Value} {F : Hp → Prop} (hb : Blm h b T l) (hk : k < l.length) (hp : plain v = true)
    (hF : ∀ h', Blm h' b T (l.set k v) → (∀ c, c ≠ b → h' c = h c) → F h') : Hw.st h ⟨b, k, none⟩ v F := by
  obtain ⟨⟨z1, z2⟩, hz, hb⟩ := hb
  unfold Hw.st; rw [hp]
  refine ⟨⟨by rw [cell_at hb]; simp [hk], ?_⟩, ?_⟩
  · unfold frz
    simp only [hb]
    rcases hz with hz | hz
    · have hz : z1 = z2 := hz
      subst hz
      by_cases hq : z1 ≤ k
      · have : ¬ k < z1 := by omega
        simp [this]
      · simp [hq]
    · have : ¬ z1 ≤ k := by have : l.length ≤ z1 := hz; omega
      simp [this]
  · have e : setc h ⟨b, k, none⟩ v = upd h b (.cells ⟨l.set k v⟩ T (z1, z2)) := by simp [Hw.setc, hb]
    rw [e]
    exact hF _ ⟨(z1, z2), by simpa using hz, upd_same⟩ fun c hc => upd_ne hc
theorem wrL_blm {b : Nat} {T : TypeId} {F : Hp → Prop} {o : Nat} : ∀ (l : List Value) (i : Nat) (h : Hp) (cs : List Value), Blm h b T cs → o + i + l.length ≤ cs.length → (∀ v ∈ l, plain v = true) →
    (∀ h', Blm h' b T (setL cs (o + i) l) → (∀ c, c ≠ b → h' c = h c) → F h') → wrL ⟨b, o, none⟩ i l h F := by
  intro l
  induction l with
  | nil => intro i h cs hb _ _ hF; exact hF h hb fun _ _ => rfl
  | cons v l ih =>
    intro i h cs hb hi hp hF
    simp only [List.length_cons] at hi
    simp only [wrL, add_mk]
    refine hb.st (by omega) (hp v (List.mem_cons_self ..)) ?_
    intro h1 hb1 hf1
    refine ih (i + 1) _ (cs.set (o + i) v) hb1 (by simp; omega) (fun w hw => hp w (List.mem_cons_of_mem _ hw)) ?_
    intro h' hb' hf
    refine hF h' hb' ?_
    intro c hc; rw [hf c hc, hf1 c hc]
def OwnB (h : Hp) (T : TypeId) (s : Sl) (l : List UInt8) : Prop :=
  l.length = s.n ∧ s.n ≤ s.c ∧
  match s.p with
  | none => s.c = 0
  | some a => a = bk a.block ∧ ∃ cs, Blm h a.block T cs ∧ cs.length = s.c ∧ cs.take l.length = bc l
theorem OwnB.rdb {h : Hp} {T : TypeId} {s : Sl} {l : List UInt8} (ho : OwnB h T s l) : RdB h s l := by
  obtain ⟨h1, h2, h3⟩ := ho
  refine ⟨h1.symm, h2, ?_⟩
  intro i v hi
  have hil := (List.getElem?_eq_some_iff.1 hi).1
  rw [bc_len] at hil
  cases hp : s.p with
  | none => rw [hp] at h3; have : s.c = 0 := h3; omega
  | some a =>
    rw [hp] at h3
    obtain ⟨e, cs, hb, hl, ht⟩ := h3
    refine ⟨a, rfl, ?_⟩
    rw [e, add_bk, hb.cell]
    rw [← ht, List.getElem?_take, if_pos hil] at hi
    exact hi
theorem OwnB.st {h : Hp} {T : TypeId} {s : Sl} {l : List UInt8} (ho : OwnB h T s l) {k : Nat} (hk : k < l.length) {v : UInt8} {F : Hp → Prop}
    (hF : ∀ b h', s.p = some (bk b) → OwnB h' T s (l.set k v) → (∀ c, c ≠ b → h' c = h c) → F h') : ∃ b, s.p = some (bk b) ∧ Hw.st h ⟨b, k, none⟩ (.int .u8 v.toNat) F := by
  obtain ⟨h1, h2, h3⟩ := ho
  cases hp : s.p with
  | none => rw [hp] at h3; have : s.c = 0 := h3; omega
  | some a =>
    rw [hp] at h3
    obtain ⟨e, cs, hb, hl, ht⟩ := h3
    refine ⟨a.block, by rw [← e], ?_⟩
    refine hb.st (by omega) rfl ?_
    intro h' hb' hf
    refine hF a.block h' (by rw [hp, ← e]) ⟨by simpa using h1, h2, ?_⟩ hf
    show match s.p with | none => _ | some a => _
    rw [hp]
    refine ⟨e, _, hb', by simpa using hl, ?_⟩
    rw [List.length_set, List.take_set, ht, bc_set]
theorem OwnB.ap {P : Program} {T : TypeId} {s : Sl} {l m : List UInt8} {y : Value} {h : Hp} {F : Sl → Hp → Prop} (ho : OwnB h T s l)
    (hsz : P.cellsOf T = 1) (hz : (zc P T).length = 1) (hln : ∀ G : Nat → Prop, lnK y G = G m.length) (hsrc : ∀ G : List Value → Prop, G (bc m) → srcK h 1 m.length y G) (hby : (s.n + m.length) * 2 * P.bytesOf T ≤ 2 ^ 48)
    (hF : ∀ s' h', OwnB h' T s' (l ++ m) → Ext (fun b => s.p = some (bk b)) h h' → (∀ b, s'.p = some (bk b) → s.p = some (bk b) ∨ h b = none) → F s' h') : apK P T s y h F := by
  have hr := ho.rdb
  unfold apK
  rw [hln]
  obtain ⟨h1, h2, h3⟩ := ho
  refine ⟨fun hc => ?_, fun hc => ⟨?_, ?_⟩⟩
  · rw [hsz]
    refine hsrc _ ?_
    cases hp : s.p with
    | none =>
      rw [hp] at h3
      have h3' : s.c = 0 := h3
      have hm : m = [] := List.length_eq_zero_iff.1 (by omega)
      subst hm
      simp only []
      refine hF ⟨none, s.n + 0, s.c⟩ h ⟨by simp; omega, by simp; omega, h3'⟩ Ext.refl (by intro b hb; cases hb)
    | some a =>
      rw [hp] at h3
      obtain ⟨e, cs, hb, hl, ht⟩ := h3
      simp only []
      rw [e, add_bk, Nat.mul_one]
      refine wrL_blm (bc m) 0 h cs hb (by rw [bc_len]; omega) bc_plain ?_
      intro h' hb' hf
      rw [Nat.add_zero, setL_eq (by rw [bc_len]; omega)] at hb'
      refine hF ⟨some (bk a.block), s.n + m.length, s.c⟩ h' ⟨by simp; omega, hc, rfl, _, hb', ?_, ?_⟩ ?_ ?_
      · simp; omega
      · rw [← h1, ht, bc_app, List.append_assoc, ← List.append_assoc (bc l)]
        exact List.take_left' (by simp)
      · intro c o hco hn
        have : c ≠ a.block := by rintro rfl; exact hn (by show s.p = some (bk a.block); rw [hp, ← e])
        rw [hf c this]; exact hco
      · intro b hb; left; rw [← hb]; rw [hp, ← e]
  · have := nextcap_le (s.n + m.length) s.c hc
    calc _ ≤ 2 * (s.n + m.length) * P.bytesOf T := Nat.mul_le_mul_right _ this
      _ = (s.n + m.length) * 2 * P.bytesOf T := by rw [Nat.mul_comm 2]
      _ ≤ 2 ^ 48 := hby
  · rw [hsz]
    refine hr.srcK (n := s.n) (by omega) ?_
    refine hsrc _ ?_
    intro c b hcb hb
    rw [← h1, List.take_length]
    have harr : (⟨bc l ++ bc m⟩ : Array Value) ++ zeros P T (c - (l.length + m.length)) = ⟨(bc l ++ bc m) ++ (zeros P T (c - (l.length + m.length))).toList⟩ := by apply Array.ext'; simp
    rw [harr]
    refine hF ⟨some (bk b), l.length + m.length, c⟩ _ ⟨by simp, by show l.length + m.length ≤ c; omega, rfl, _, ⟨(0, 0), .inl rfl, upd_same⟩, ?_, ?_⟩ (Ext.new hb) ?_
    · show _ = c
      rw [List.length_append, zeros_len, hz, List.length_append, bc_len, bc_len]; omega
    · rw [bc_app]; exact List.take_left' (by simp)
    · intro b' hb'; right
      simp only [Option.some.injEq] at hb'
      have : b = b' := congrArg Addr.block hb'
      subst this; exact hb
def byt (T : TypeId) (s : Sl) (l : List UInt8) : Asn :=
  ⟨fun F h => (∀ x, F x ↔ s.p = some (bk x)) ∧ OwnB h T s l,
   fun {F h h'} hl hh => ⟨hh.1, by
    obtain ⟨h1, h2, h3⟩ := hh.2
    refine ⟨h1, h2, ?_⟩
    cases hp : s.p with
    | none => rw [hp] at h3; exact h3
    | some a =>
      rw [hp] at h3
      obtain ⟨e, cs, ⟨z, hz, hb⟩, hr⟩ := h3
      exact ⟨e, cs, ⟨z, hz, (hl a.block ((hh.1 _).2 (by rw [hp, e]))).trans hb⟩, hr⟩⟩,
   fun {F h x} hh hx => by
    have hp := (hh.1 x).1 hx
    have h3 := hh.2.2.2
    rw [hp] at h3
    obtain ⟨_, cs, ⟨z, _, hb⟩, _⟩ := h3
    rw [show h x = _ from hb]; simp⟩
theorem Sat.byt {L M : List Asn} {h : Hp} (hs : Sat (L ++ M) h) (j : Nat) {T : TypeId} {s : Sl} {l : List UInt8} (hj : M[j]? = some (Hw.byt T s l)) : OwnB h T s l := let ⟨_, hF⟩ := hs.get' j hj; hF.2
theorem Sat.addB {L M : List Asn} {h h' : Hp} {T : TypeId} {s : Sl} {l : List UInt8} (hs : Sat (L ++ M) h) (he : Ext none' h h') (ho : OwnB h' T s l) (hf : ∀ b, s.p = some (bk b) → h b = none) : Sat (L ++ (M ++ [Hw.byt T s l])) h' :=
  hs.add he (F' := fun x => s.p = some (bk x)) ⟨fun _ => Iff.rfl, ho⟩ hf
theorem Sat.s2b {L M : List Asn} {h : Hp} {T : TypeId} {l : List UInt8} {F : Sl → Hp → Prop} (hs : Sat (L ++ M) h) (hF : ∀ s h', Sat (L ++ (M ++ [Hw.byt T s l])) h' → F s h') : Hw.s2b T ⟨⟨l⟩⟩ h F := by
  intro c b hc hb
  have hsz : (⟨⟨l⟩⟩ : ByteArray).size = l.length := rfl
  rw [hsz] at hc ⊢
  refine hF _ _ (hs.addB (s := ⟨some ⟨b, 0, none⟩, l.length, c⟩) (Ext.new hb) ⟨rfl, hc, rfl, _, ⟨(c, c + 1), .inr ?_, upd_same⟩, ?_, ?_⟩ ?_)
  · rw [bcells_bc]; simp; omega
  · rw [bcells_bc]; simp; omega
  · rw [bcells_bc]; exact List.take_left' (by simp)
  · intro b' hb'
    simp only [Option.some.injEq] at hb'
    have : b = b' := congrArg Addr.block hb'
    subst this; exact hb
end Go.Hw

/-
  Copy, for elements of any number of cells.
-/
set_option linter.unusedSimpArgs false
set_option linter.unusedVariables false
namespace Go.Hw
open Go
theorem Sat.cpN {P : Program} {L M : List Asn} {T : TypeId} {sz : Nat} {s : Sl} {vs ns : List Value} {y : Value} {h : Hp} {F : Nat → Hp → Prop} {n : Nat} (hs : Sat (L ++ M) h) (j : Nat) (hj : M[j]? = some (Hw.own T sz s vs))
    (hsz : P.cellsOf T = sz) (hln : ∀ G : Nat → Prop, lnK y G = G n) (hsrc : ∀ G : List Value → Prop, G ns → srcK h sz (Nat.min n s.n) y G) (hns : ns.length = Nat.min n s.n * sz) (hpl : ∀ v ∈ ns, plain v = true)
    (hF : ∀ h', Sat (L ++ M.set j (Hw.own T sz s (ns ++ vs.drop ns.length))) h' → F (Nat.min n s.n) h') : cpK P T s y h F := by
  unfold cpK
  rw [hln, hsz]
  refine hsrc _ ?_
  have hmin : ns.length ≤ s.n * sz := by rw [hns]; exact Nat.mul_le_mul_right _ (Nat.min_le_right _ _)
  obtain ⟨ho1, ho2, ho3⟩ := hs.own j hj
  have hnc : s.n * sz ≤ s.c * sz := Nat.mul_le_mul_right _ ho2
  cases hp : s.p with
  | none =>
    rw [hp] at ho3
    have hc : s.c = 0 := ho3
    rw [hc, Nat.zero_mul] at hnc
    have : ns = [] := by apply List.length_eq_zero_iff.1; omega
    subst this
    have hv : vs = [] := by apply List.length_eq_zero_iff.1; omega
    subst hv
    simp only []
    refine hF h ?_
    have := hs.imp j hj (A' := Hw.own T sz s []) (fun F h => h)
    simpa using this
  | some a =>
    rw [hp] at ho3
    obtain ⟨ea, cs, hcs, hcl, hct⟩ := ho3
    simp only []
    rw [ea]
    refine wrL_blk (b := a.block) (o := 0) ns 0 _ cs hcs (by omega) hpl ?_
    intro h2 hb2 hf2
    refine hF h2 (hs.at j hj fun G hG => ⟨G, ⟨hG.1, by simp; omega, ho2, ?_⟩, fun x hx => .inl hx, fun x hx _ => hf2 x (fun e => hx ((hG.1 x).2 (by rw [hp, ea, e])))⟩)
    rw [hp]
    refine ⟨ea, _, hb2, by rw [setL_length]; omega, ?_⟩
    rw [setL_eq (by omega)]
    simp only [Nat.zero_add, List.take_zero, List.nil_append]
    rw [← hct]
    have : (cs.take vs.length).drop ns.length = (cs.drop ns.length).take (vs.length - ns.length) := by rw [List.drop_take]
    rw [this, List.length_append, List.take_append]
    simp only [Nat.add_sub_cancel_left, List.length_take, List.length_drop]
    rw [List.take_of_length_le (l := ns) (by omega)]
    congr 1
    rw [show min (vs.length - ns.length) (cs.length - ns.length) = vs.length - ns.length by omega]
end Go.Hw

/-
  More on separate blocks: another order, loads out of rows, one of a star.
-/
set_option linter.unusedSimpArgs false
set_option linter.unusedVariables false
namespace Go.Hw
open Go
theorem Sat.sel {L M : List Asn} {h : Hp} (hs : Sat (L ++ M) h) (is : List Nat) (hn : is.Nodup) {M' : List Asn} (hM : is.map (fun i => M[i]?) = M'.map some) : Sat (L ++ M') h := by
  have hlen : is.length = M'.length := by have := congrArg List.length hM; simpa using this
  have key : ∀ (i : Nat) (A : Asn), M'[i]? = some A → ∃ k : Nat, is[i]? = some k ∧ M[k]? = some A := by
    intro i A hA
    have h1 := congrArg (fun l => l[i]?) hM
    simp only [List.getElem?_map, hA, Option.map_some] at h1
    cases hk : is[i]? with
    | none => rw [hk] at h1; cases h1
    | some k => rw [hk] at h1; exact ⟨k, rfl, by simpa using h1⟩
  refine hs.pick (fun i => if i < L.length then i else L.length + is.getD (i - L.length) 0) ?_ ?_
  · intro i A hi
    by_cases e : i < L.length
    · rw [if_pos e]; rw [List.getElem?_append_left e] at hi ⊢; exact hi
    · rw [if_neg e]
      rw [List.getElem?_append_right (by omega)] at hi
      obtain ⟨k, hk, hA⟩ := key _ _ hi
      rw [List.getElem?_append_right (by omega), Nat.add_sub_cancel_left]
      simp only [List.getD, hk, Option.getD_some]; exact hA
  · intro i j hi hj e
    simp only [List.length_append] at hi hj
    by_cases e1 : i < L.length
    · by_cases e2 : j < L.length
      · simp only [if_pos e1, if_pos e2] at e; exact e
      · simp only [if_pos e1, if_neg e2] at e; omega
    · by_cases e2 : j < L.length
      · simp only [if_neg e1, if_pos e2] at e; omega
      · simp only [if_neg e1, if_neg e2] at e
        have hi' : i - L.length < is.length := by omega
        have hj' : j - L.length < is.length := by omega
        simp only [List.getD, List.getElem?_eq_getElem hi', List.getElem?_eq_getElem hj', Option.getD_some] at e
        have e3 : is[i - L.length] = is[j - L.length] := by omega
        have : i - L.length = j - L.length := (List.getElem_inj hn).1 e3
        omega
theorem Sat.asc {L A B : List Asn} {h : Hp} (hs : Sat ((L ++ A) ++ B) h) : Sat (L ++ (A ++ B)) h := by rw [← List.append_assoc]; exact hs
theorem Sat.csa {L A B : List Asn} {h : Hp} (hs : Sat (L ++ (A ++ B)) h) : Sat ((L ++ A) ++ B) h := by rw [List.append_assoc]; exact hs
theorem Sat.mv {L A B C D : List Asn} {h : Hp} (hs : Sat ((L ++ A) ++ B) h) (e : A ++ B = C ++ D := by rfl) : Sat ((L ++ C) ++ D) h := by rw [List.append_assoc, ← e, ← List.append_assoc]; exact hs
section
variable {L M : List Asn} {h : Hp} {b k : Nat} {T : TypeId} {cs : List Value}
theorem Sat.lI (hs : Sat (L ++ M) h) (j : Nat) {κ : IntKind} {n : Int} {F : Int → Prop} (hj : M[j]? = some (row b T cs)) (hc : cs[k]? = some (.int κ n)) (hF : F n) : xI κ (cell h ⟨b, k, none⟩) F :=
  xI_of (by rw [(hs.blk j hj).cell]; exact hc) hF
theorem Sat.lS (hs : Sat (L ++ M) h) (j : Nat) {n : ByteArray} {F : ByteArray → Prop} (hj : M[j]? = some (row b T cs)) (hc : cs[k]? = some (.string n)) (hF : F n) : xS (cell h ⟨b, k, none⟩) F :=
  xS_of (by rw [(hs.blk j hj).cell]; exact hc) hF
end
section
variable {L M : List Asn} {h : Hp} {T : TypeId} {sz : Nat} {s : Sl} {vs : List Value}
theorem Sat.cel (hs : Sat (L ++ M) h) (j : Nat) {k : Nat} {v : Value} (hj : M[j]? = some (Hw.own T sz s vs)) (hk : vs[k]? = some v) : ∃ b, s.p = some (bk b) ∧ cell h ⟨b, k, none⟩ = some v := (hs.own j hj).get hk
theorem Sat.oL (hs : Sat (L ++ M) h) (j : Nat) {t : Sl} {k : Nat} {F : Sl → Prop} (hj : M[j]? = some (Hw.own T sz s vs)) (hk : vs[k]? = some t.v) (hF : F t) : nn s.p fun a => xL (cell h (a.add k)) F := by
  obtain ⟨b, hp, hc⟩ := hs.cel j hj hk
  rw [hp, nn_some', add_bk]; exact xL_of hc hF
theorem Sat.stO (hs : Sat (L ++ M) h) (j : Nat) {k : Nat} {v : Value} {F : Hp → Prop} {a : Addr} (hj : M[j]? = some (Hw.own T sz s vs)) (hk : k < vs.length) (hp : plain v = true) (ha : s.p = some a)
    (hF : ∀ h', Sat (L ++ M.set j (Hw.own T sz s (vs.set k v))) h' → F h') : Hw.st h (a.add k) v F := by
  obtain ⟨r, hr, ⟨cs, hb⟩, hst⟩ := (hs.own j hj).st hk
  rw [ha] at hr; cases hr
  rw [add_bk]
  refine hst v F hp fun h' ho he => ?_
  refine hF h' (hs.at j hj fun G hG => ⟨G, ⟨hG.1, ho⟩, fun x hx => .inl hx, fun x hx hne => ?_⟩)
  cases hq : h x with
  | none => exact (hne hq).elim
  | some o => exact he x o hq fun e => hx ((hG.1 x).2 (by rw [ha, e]))
end
theorem Sat.out {L X : List Asn} {A : Asn} {h : Hp} (hs : Sat (L ++ [star X]) h) (j : Nat) (hj : X[j]? = some A) : Sat (L ++ [star (X.eraseIdx j), A]) h := by
  have h1 := hs.open.rot j hj
  have h2 : Sat ((L ++ [A]) ++ X.eraseIdx j) h := by
    have hlen := lt_of_get hj
    refine h1.pick (fun i => if i < L.length then i else if i = L.length then (L ++ X.eraseIdx j).length else i - 1) ?_ ?_
    · intro i B hi
      have hil := lt_of_get hi
      simp only [List.length_append, List.length_singleton] at hil
      by_cases e : i < L.length
      · simp only [if_pos e]
        rw [List.getElem?_append_left (by simp; omega), List.getElem?_append_left e] at hi
        rw [List.getElem?_append_left (by simp; omega), List.getElem?_append_left e]; exact hi
      · simp only [if_neg e]
        by_cases e2 : i = L.length
        · simp only [if_pos e2]
          rw [e2, List.getElem?_append_left (by simp), List.getElem?_append_right (Nat.le_refl _), Nat.sub_self] at hi
          rw [List.getElem?_append_right (Nat.le_refl _), Nat.sub_self]; exact hi
        · simp only [if_neg e2]
          rw [List.getElem?_append_right (by simp; omega)] at hi
          rw [List.getElem?_append_left (by simp; omega), List.getElem?_append_right (by omega)]
          rw [show i - 1 - L.length = i - (L ++ [A]).length by simp; omega]; exact hi
    · intro i k hi hk e
      simp only [List.length_append, List.length_singleton] at hi hk e
      split at e <;> split at e <;> (try split at e) <;> (try split at e) <;> omega
  have h3 := h2.close
  have h4 : Sat (L ++ [A, star (X.eraseIdx j)]) h := by simpa using h3
  exact h4.sel [1, 0] (by decide) rfl
theorem Sat.inn {L X : List Asn} {A' : Asn} {h : Hp} (j : Nat) (hs : Sat (L ++ [star (X.eraseIdx j), A']) h) (hj : j < X.length) : Sat (L ++ [star (X.set j A')]) h := by
  have h1 : Sat (L ++ [A', star (X.eraseIdx j)]) h := hs.sel [1, 0] (by decide) rfl
  have h2 : Sat ((L ++ [A']) ++ [star (X.eraseIdx j)]) h := by simpa using h1
  have h3 := h2.open
  have hel : (X.eraseIdx j).length + 1 = X.length := by rw [List.length_eraseIdx_of_lt hj]; omega
  have h4 : Sat ((L ++ X.eraseIdx j) ++ [A']) h := by
    refine h3.pick (fun i => if i < L.length then i else if i = (L ++ X.eraseIdx j).length then L.length else i + 1) ?_ ?_
    · intro i B hi
      have hil := lt_of_get hi
      simp only [List.length_append, List.length_singleton] at hil
      by_cases e : i < L.length
      · simp only [if_pos e]
        rw [List.getElem?_append_left (by simp; omega), List.getElem?_append_left e] at hi
        rw [List.getElem?_append_left (by simp; omega), List.getElem?_append_left e]; exact hi
      · simp only [if_neg e]
        by_cases e2 : i = (L ++ X.eraseIdx j).length
        · simp only [if_pos e2]
          rw [e2, List.getElem?_append_right (Nat.le_refl _), Nat.sub_self] at hi
          rw [List.getElem?_append_left (by simp), List.getElem?_append_right (Nat.le_refl _), Nat.sub_self]; exact hi
        · simp only [if_neg e2]
          simp only [List.length_append] at e2
          rw [List.getElem?_append_left (by simp; omega), List.getElem?_append_right (by omega)] at hi
          rw [List.getElem?_append_right (by simp; omega)]
          rw [show i + 1 - (L ++ [A']).length = i - L.length by simp]; exact hi
    · intro i k hi hk e
      simp only [List.length_append, List.length_singleton] at hi hk e
      split at e <;> split at e <;> (try split at e) <;> (try split at e) <;> omega
  exact (h4.back hj).close
theorem Sat.call2 {L : List Asn} {A : Asn} {h : Hp} (hs : Sat (L ++ [A]) h) :
    ∃ F, A.on F h ∧ ∀ (h' : Hp) (A' B : Asn) (F' G : Nat → Prop), A'.on F' h' → B.on G h' → (∀ x, F' x → ¬ G x) → Ext F h h' → (∀ x, F' x → F x ∨ h x = none) → (∀ x, G x → F x ∨ h x = none) → Sat (L ++ [A', B]) h' := by
  obtain ⟨F, h1, h2⟩ := hs
  have hA := h1 L.length A (by simp)
  refine ⟨F L.length, hA, fun h' A' B F' G ha hb hd he hf hg => ?_⟩
  have dm : ∀ (i : Nat) x, i < (L ++ [A]).length → F i x → h x ≠ none := fun i x hi hx => let ⟨C, hC⟩ := get_of_lt hi; C.dom (h1 i C hC) hx
  refine ⟨fun i => if i < L.length then F i else if i = L.length then F' else G, ?_, ?_⟩
  · intro i C hi
    have hil := lt_of_get hi
    simp only [List.length_append, List.length_cons, List.length_nil] at hil
    by_cases e : i < L.length
    · simp only [if_pos e]
      rw [List.getElem?_append_left e] at hi
      have hi' : (L ++ [A])[i]? = some C := by rw [List.getElem?_append_left e]; exact hi
      refine C.loc (fun x hx => ?_) (h1 i C hi')
      cases hq : h x with
      | none => exact (dm i x (lt_of_get hi') hx hq).elim
      | some o => exact he x o hq fun hfx => by have := h2 i _ x (lt_of_get hi') (by simp) hx hfx; omega
    · simp only [if_neg e]
      rw [List.getElem?_append_right (by omega)] at hi
      by_cases e2 : i = L.length
      · simp only [if_pos e2]
        rw [show i - L.length = 0 by omega] at hi
        simp at hi; subst hi; exact ha
      · simp only [if_neg e2]
        rw [show i - L.length = 1 by omega] at hi
        simp at hi; subst hi; exact hb
  · have key : ∀ i x, i < L.length → F i x → ¬ (F L.length x ∨ h x = none) := by
      intro i x hi hx hq
      rcases hq with q | q
      · have := h2 i _ x (by simp; omega) (by simp) hx q; omega
      · exact dm i x (by simp; omega) hx q
    intro i k x hi hk hx hy
    simp only [List.length_append, List.length_cons, List.length_nil] at hi hk
    by_cases e : i < L.length
    · simp only [if_pos e] at hx
      by_cases e2 : k < L.length
      · simp only [if_pos e2] at hy
        exact h2 i k x (by simp; omega) (by simp; omega) hx hy
      · simp only [if_neg e2] at hy
        by_cases e3 : k = L.length
        · simp only [if_pos e3] at hy; exact (key i x e hx (hf x hy)).elim
        · simp only [if_neg e3] at hy; exact (key i x e hx (hg x hy)).elim
    · simp only [if_neg e] at hx
      by_cases e2 : k < L.length
      · simp only [if_pos e2] at hy
        by_cases e3 : i = L.length
        · simp only [if_pos e3] at hx; exact (key k x e2 hy (hf x hx)).elim
        · simp only [if_neg e3] at hx; exact (key k x e2 hy (hg x hx)).elim
      · simp only [if_neg e2] at hy
        by_cases e3 : i = L.length
        · simp only [if_pos e3] at hx
          by_cases e4 : k = L.length
          · omega
          · simp only [if_neg e4] at hy; exact (hd x hx hy).elim
        · simp only [if_neg e3] at hx
          by_cases e4 : k = L.length
          · simp only [if_pos e4] at hy; exact (hd x hy hx).elim
          · omega
theorem Sat.call {L : List Asn} {A : Asn} {h : Hp} (hs : Sat (L ++ [A]) h) :
    ∃ F, A.on F h ∧ ∀ (h' : Hp) (A' : Asn) (F' : Nat → Prop), A'.on F' h' → Ext F h h' → (∀ x, F' x → F x ∨ h x = none) → Sat (L ++ [A']) h' := by
  obtain ⟨F, h1, h2⟩ := hs.call2
  refine ⟨F, h1, fun h' A' F' ha he hf => ?_⟩
  have := h2 h' A' emp F' (fun _ => False) ha (fun _ e => e) (fun _ _ e => e) he hf (fun _ e => e.elim)
  exact this.sel [0] (by decide) rfl
end Go.Hw

/-
  Numbers of Go: what wraps, what bits do, in Lean's numbers.
-/
set_option linter.unusedSimpArgs false
set_option linter.unusedVariables false
namespace Go.Hw
open Go
theorem wi64i {x : Int} (h0 : -9223372036854775808 ≤ x) (h1 : x < 9223372036854775808) : IntKind.wrap .i64 x = x := wrap_id h0 (by omega)
theorem nat_succ64 {i : Nat} (h : i < 9223372036854775807) : IntKind.wrap .i64 ((i : Int) + 1) = ((i + 1 : Nat) : Int) := by rw [wi64i (by omega) (by omega)]; omega
end Go.Hw

/-
  Texts that are read: cut at a zero, small letters.
-/
set_option linter.unusedSimpArgs false
set_option linter.unusedVariables false
namespace Go.Proofs.YtedklcmdjoojfaaDoor
open Go Go.Hw
end Go.Proofs.YtedklcmdjoojfaaDoor

set_option linter.unusedVariables false
set_option maxRecDepth 100000
namespace Go.Proofs.YtedklcmdjoojfaaDoor
open Go Go.Hw
end Go.Proofs.YtedklcmdjoojfaaDoor

/-
  The small functions of layer 1 over numbers: folded words, changed words, hosts, groups.
-/
-- (no octet.folded)
-- (no ref01.Folded)
-- (no octet.Turn)
-- (no ref01.Turn)
-- (no octet.IsHost)
-- (no ref01.IsHost)
-- (no octet.Group)
-- (no ref01.Group)
-- (no octet.Everyone)
set_option linter.unusedSimpArgs false
set_option linter.unusedVariables false
namespace Go.Proofs.YtedklcmdjoojfaaDoor
open Go Go.Hw
def markN (list place : Nat) : Nat := (list * 7 + place * 13 + list / 256 + 1) % 256
end Go.Proofs.YtedklcmdjoojfaaDoor

set_option linter.unusedVariables false
set_option maxRecDepth 100000
namespace Go.Proofs.YtedklcmdjoojfaaDoor
open Go Go.Hw
end Go.Proofs.YtedklcmdjoojfaaDoor

set_option linter.unusedVariables false
set_option maxRecDepth 100000
namespace Go.Proofs.YtedklcmdjoojfaaDoor
open Go Go.Hw
end Go.Proofs.YtedklcmdjoojfaaDoor

set_option linter.unusedVariables false
set_option maxRecDepth 100000
namespace Go.Proofs.YtedklcmdjoojfaaDoor
open Go Go.Hw
end Go.Proofs.YtedklcmdjoojfaaDoor

/-
  Numbers as bytes: Put and Get, the program's and the document's.
-/
-- (no ref01.Get)
set_option linter.unusedSimpArgs false
set_option linter.unusedVariables false
namespace Go.Proofs.YtedklcmdjoojfaaDoor
open Go Go.Hw
end Go.Proofs.YtedklcmdjoojfaaDoor
