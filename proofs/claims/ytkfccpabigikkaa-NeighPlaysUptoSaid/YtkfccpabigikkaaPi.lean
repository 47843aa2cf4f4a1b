/-
 Arguments opened whatever their type: numbers, strings, slices of elements of several cells, structs and arrays flat; sizes by a measure.
-/
import Derived.Test.YtkfccpabigikkaaPg
import Derived.Test.YtkfccpabigikkaaPf
import Derived.Test.YtkfccpabigikkaaPh
set_option linter.unusedSimpArgs false
set_option linter.unusedVariables false
namespace Go.Hw
open Go
open Go.ChangeShapes Go.WideShapes Go.ChangeAt Go.RowKit
inductive Sh where
 | int (k : IntKind)
 | bool
 | str
 | row (f : List Sh)
def All2 (R : Sh → Value → Prop) : List Sh → List Value → Prop
 | [], [] => True
 | t :: ts, v :: vs => R t v ∧ All2 R ts vs
 | _, _ => False
def CellOk (h : Hp) (B : Nat) : Nat → Sh → Value → Prop
 | 0, _, _ => False
 | _ + 1, .int k, v => ∃ n, v = .int k n ∧ (Lit.int k n).wf = true
 | _ + 1, .bool, v => ∃ b, v = .bool b
 | _ + 1, .str, v => ∃ s : ByteArray, v = .string s ∧ s.data.toList.length ≤ B
 | n + 1, .row f, v => ∃ (s : Sl) (es : List (List Value)), v = s.v ∧ s.n ≤ s.c ∧ s.n = es.length ∧ es.length ≤ B ∧
   ∀ (i : Nat) (cs : List Value), es[i]? = some cs → (∃ a, s.p = some a ∧ ∀ (j : Nat) (v : Value), cs[j]? = some v → cell h (a.add (i * f.length + j)) = some v) ∧ All2 (CellOk h B n) f cs
theorem All2.len {R : Sh → Value → Prop} : ∀ {ts : List Sh} {vs : List Value}, All2 R ts vs → ts.length = vs.length
 | [], [], _ => rfl
 | _ :: ts, _ :: vs, h => by simp [All2.len (ts := ts) (vs := vs) h.2]
 | [], _ :: _, h => h.elim
 | _ :: _, [], h => h.elim
theorem All2.mono {R R' : Sh → Value → Prop} (hR : ∀ t v, R t v → R' t v) : ∀ {ts : List Sh} {vs : List Value}, All2 R ts vs → All2 R' ts vs
 | [], [], _ => trivial
 | _ :: ts, _ :: vs, h => ⟨hR _ _ h.1, All2.mono hR (ts := ts) (vs := vs) h.2⟩
 | [], _ :: _, h => h.elim
 | _ :: _, [], h => h.elim
theorem All2.app {R : Sh → Value → Prop} : ∀ {ts ts' : List Sh} {vs vs' : List Value}, All2 R ts vs → All2 R ts' vs' → All2 R (ts ++ ts') (vs ++ vs')
 | [], _, [], _, _, h' => h'
 | _ :: ts, _, _ :: vs, _, h, h' => ⟨h.1, All2.app (ts := ts) (vs := vs) h.2 h'⟩
 | [], _, _ :: _, _, h, _ => h.elim
 | _ :: _, _, [], _, h, _ => h.elim
theorem CellOk.up {h : Hp} {B : Nat} : ∀ {n : Nat} {t : Sh} {v : Value}, CellOk h B n t v → CellOk h B (n + 1) t v := by
 intro n
 induction n with
 | zero => intro t v h; exact h.elim
 | succ n ih =>
  intro t v hc
  cases t with
  | int k => exact hc
  | bool => exact hc
  | str => exact hc
  | row f =>
   obtain ⟨s, es, h1, h2, h3, h4, h5⟩ := hc
   exact ⟨s, es, h1, h2, h3, h4, fun i cs hi => ⟨(h5 i cs hi).1, (h5 i cs hi).2.mono fun t v => ih⟩⟩
def shFields (P : Program) (sh : TypeId → Option (List Sh)) : List Field → Nat → Option (List Sh)
 | [], _ => some []
 | f :: fs, off => if f.offset = off then match sh f.type, shFields P sh fs (off + P.cellsOf f.type) with
  | some a, some b => if a.length = P.cellsOf f.type then some (a ++ b) else none
  | _, _ => none
  else none
def shOf (P : Program) : Nat → TypeId → Option (List Sh)
 | 0, _ => none
 | n + 1, t => match P.underlying t with
  | some (.int k) => some [.int k]
  | some .bool => some [.bool]
  | some .string => some [.str]
  | some (.slice e) => match shOf P n e with
   | some f => if f.length = P.cellsOf e then some [.row f] else none
   | none => none
  | some (.struct fs) => match shFields P (shOf P n) fs.toList 0 with
   | some a => if a.length = P.cellsOf t then some a else none
   | none => none
  | some (.array m e) => match shOf P n e with
   | some f => if f.length = P.cellsOf e ∧ P.cellsOf t = m * P.cellsOf e then some ((List.replicate m f).flatten) else none
   | none => none
  | _ => none
section
variable {H : Type} {enc : TypeId × Value → H} {P : Program}
structure Meas (bulk : DataW H → Nat) : Prop where
 sl : ∀ (es rest : List (DataW H)), es.length ≤ bulk (.slice es rest) ∧ ∀ e ∈ es, bulk e ≤ bulk (.slice es rest)
 ag : ∀ (es : List (DataW H)), ∀ e ∈ es, bulk e ≤ bulk (.agg es)
 st : ∀ (l : List UInt8), l.length ≤ bulk (.lit (.string l))
theorem fields_ok {R : Sh → Value → Prop} {sh : TypeId → Option (List Sh)} : ∀ (fs : List Field) (off : Nat) (ts : List Sh) (cs : List Value), shFields P sh fs off = some ts → cs.length = off + ts.length →
  (∀ f ∈ fs, ∀ a, sh f.type = some a → All2 R a ((cs.drop f.offset).take (P.cellsOf f.type))) → All2 R ts (cs.drop off) := by
 intro fs
 induction fs with
 | nil =>
  intro off ts cs h hl _
  simp only [shFields, Option.some.injEq] at h
  subst h
  rw [List.drop_of_length_le (by simp at hl; omega)]; trivial
 | cons f fs ih =>
  intro off ts cs h hl hf
  simp only [shFields] at h
  split at h
  ·rename_i ho
   subst ho
   split at h
   ·rename_i a b ha hb
    split at h
    ·rename_i hal
     cases h
     rw [List.length_append] at hl
     have h1 := hf f List.mem_cons_self a ha
     have h2 := ih (f.offset + P.cellsOf f.type) b cs hb (by omega) fun g hg => hf g (List.mem_cons_of_mem _ hg)
     have e : cs.drop f.offset = (cs.drop f.offset).take (P.cellsOf f.type) ++ cs.drop (f.offset + P.cellsOf f.type) := by
      conv => lhs; rw [← List.take_append_drop (P.cellsOf f.type) (cs.drop f.offset), List.drop_drop]
     rw [e]
     exact h1.app h2
    ·cases h
   ·cases h
  ·cases h
theorem array_ok {R : Sh → Value → Prop} {f : List Sh} (hn : 0 ≤ f.length) : ∀ (m : Nat) (cs : List Value), cs.length = m * f.length → (∀ i, i < m → All2 R f ((cs.drop (i * f.length)).take f.length)) → All2 R (List.replicate m f).flatten cs := by
 intro m
 induction m with
 | zero => intro cs hl _; rw [Nat.zero_mul] at hl; rw [List.length_eq_zero_iff.1 hl]; exact trivial
 | succ m ih =>
  intro cs hl h
  rw [Nat.add_mul, Nat.one_mul] at hl
  have h0 := h 0 (by omega)
  rw [Nat.zero_mul, List.drop_zero] at h0
  have h1 := ih (cs.drop f.length) (by rw [List.length_drop]; omega) fun i hi => by
   have := h (i + 1) (by omega)
   rw [Nat.add_mul, Nat.one_mul, Nat.add_comm, ← List.drop_drop] at this
   exact this
  rw [List.replicate_succ, List.flatten_cons, ← List.take_append_drop f.length cs]
  exact h0.app h1
theorem trod_sh {bulk : DataW H → Nat} (hb : Meas bulk) {W : World} {sp : Nat → Bool} {held : Bool} {B : Nat} : ∀ (n fuel : Nat) (t : TypeId) (cs : List Value) (x : DataW H × List MemPlace) (ts : List Sh), shOf P n t = some ts →
  DataW.trod enc P W 0 sp held fuel t cs = some x → bulk x.1 ≤ B → All2 (CellOk (hpOf W) B n) ts cs := by
 intro n
 induction n with
 | zero => intro fuel t cs x ts h; simp [shOf] at h
 | succ n ih =>
  intro fuel t cs x ts h hf hB
  unfold shOf at h
  split at h
  ·rename_i k hu
   cases h
   obtain ⟨m, rfl, rfl, hw⟩ := DataW.trod_int hu hf
   exact ⟨⟨m, rfl, hw⟩, trivial⟩
  ·rename_i hu
   cases h
   obtain ⟨b, rfl, _⟩ := DataW.trod_bool hu hf
   exact ⟨⟨b, rfl⟩, trivial⟩
  ·rename_i hu
   cases h
   obtain ⟨s, rfl, rfl, _⟩ := DataW.trod_string hu hf
   exact ⟨⟨s, rfl, Nat.le_trans (hb.st _) hB⟩, trivial⟩
  ·rename_i e hu
   split at h
   ·rename_i f hsf
    split at h
    ·rename_i hfl
     cases h
     rcases DataW.trod_slice hu hf with ⟨rfl, rfl⟩ | ⟨a, len, cap, elems, rest, m, _, rfl, hx, _, hlc, _, hlen, hel, _, _⟩
     ·exact ⟨⟨⟨none, 0, 0⟩, [], rfl, Nat.le_refl _, rfl, Nat.zero_le _, by intro i cs hi; simp at hi⟩, trivial⟩
     ·have hxd : x.1 = .slice (elems.map (·.1)) (rest.map (·.1)) := congrArg Prod.fst hx
      rw [hxd] at hB
      obtain ⟨m1, m2⟩ := hb.sl (elems.map (·.1)) (rest.map (·.1))
      rw [List.length_map] at m1
      have each : ∀ i ∈ List.range len, ∃ cs' : List Value, (∀ (j : Nat) (v : Value), cs'[j]? = some v → cell (hpOf W) (a.add (i * f.length + j)) = some v) ∧ All2 (CellOk (hpOf W) B n) f cs' := by
       intro i hi
       have hi := List.mem_range.1 hi
       have h2 := hel i hi
       have hil : i < elems.length := by omega
       rw [List.getElem?_eq_getElem hil] at h2
       obtain ⟨cs', h3, h4⟩ := Option.bind_eq_some_iff.1 h2
       refine ⟨cs', ?_, ih m e cs' elems[i] f hsf h4 (Nat.le_trans (m2 _ (List.mem_map.2 ⟨_, List.getElem_mem hil, rfl⟩)) hB)⟩
       intro j v hj
       obtain ⟨_, h5, h6⟩ := World.cells?_some h3
       have hjl := (List.getElem?_eq_some_iff.1 hj).1
       have := h6 j (by omega)
       rw [add_add, ← hfl] at this
       rw [cell_hp, this, hj]
      obtain ⟨css, hcl, hcs⟩ := pick_all (fun (i : Nat) (cs' : List Value) => (∀ (j : Nat) (v : Value), cs'[j]? = some v → cell (hpOf W) (a.add (i * f.length + j)) = some v) ∧ All2 (CellOk (hpOf W) B n) f cs') each
      simp only [List.length_range] at hcl
      refine ⟨⟨⟨some a, len, cap⟩, css, rfl, hlc, hcl.symm, by omega, fun i cs' hi => ?_⟩, trivial⟩
      have hil : i < len := by rw [← hcl]; exact (List.getElem?_eq_some_iff.1 hi).1
      obtain ⟨cs'', q1, q2⟩ := hcs i i (by simp [hil])
      rw [hi] at q1
      cases q1
      exact ⟨⟨a, rfl, q2.1⟩, q2.2⟩
    ·cases h
   ·cases h
  ·rename_i fs hu
   split at h
   ·rename_i a ha
    split at h
    ·rename_i hal
     cases h
     obtain ⟨xs, m, _, hxe, hl, hxl, hx⟩ := DataW.trod_struct hu hf
     have := fields_ok (R := CellOk (hpOf W) B (n + 1)) fs.toList 0 ts cs ha (by omega) (by
      intro f hfm a' ha'
      obtain ⟨i, hi, hfi⟩ := List.getElem_of_mem hfm
      have hfi' : fs[i]? = some f := by
       rw [← Array.getElem?_toList, List.getElem?_eq_getElem hi, hfi]
      have h3 := hx i f hfi'
      have hxi : i < xs.length := by rw [hxl]; simpa using hi
      rw [List.getElem?_eq_getElem hxi] at h3
      refine (ih m f.type _ xs[i] a' ha' h3 (Nat.le_trans ?_ hB)).mono fun t v => CellOk.up
      rw [hxe]
      exact hb.ag _ _ (List.mem_map.2 ⟨_, List.getElem_mem hxi, rfl⟩))
     rw [List.drop_zero] at this
     exact this
    ·cases h
   ·cases h
  ·rename_i m e hu
   split at h
   ·rename_i f hsf
    split at h
    ·rename_i hc
     obtain ⟨hfl, hct⟩ := hc
     cases h
     obtain ⟨xs, q, _, hxe, hl, hxl, hel⟩ := DataW.trod_array hu hf
     rw [hct, ← hfl] at hl
     refine array_ok (Nat.zero_le _) m cs hl fun i hi => ?_
     have h3 := hel i hi
     have hxi : i < xs.length := by omega
     rw [List.getElem?_eq_getElem hxi, ← hfl] at h3
     refine (ih q e _ xs[i] f hsf h3 (Nat.le_trans ?_ hB)).mono fun t v => CellOk.up
     rw [hxe]
     exact hb.ag _ _ (List.mem_map.2 ⟨_, List.getElem_mem hxi, rfl⟩)
    ·cases h
   ·cases h
  ·cases h
end
theorem all2_cons {R : Sh → Value → Prop} {t : Sh} {ts : List Sh} {vs : List Value} (h : All2 R (t :: ts) vs) : ∃ v r, vs = v :: r ∧ R t v ∧ All2 R ts r := by
 cases vs with
 | nil => exact h.elim
 | cons v r => exact ⟨v, r, rfl, h.1, h.2⟩
theorem all2_nil {R : Sh → Value → Prop} {vs : List Value} (h : All2 R [] vs) : vs = [] := by
 cases vs with
 | nil => rfl
 | cons v r => exact h.elim
theorem ok_int {h : Hp} {B n : Nat} {k : IntKind} {v : Value} (hc : CellOk h B (n + 1) (.int k) v) : ∃ a, v = .int k a ∧ (Lit.int k a).wf = true := hc
theorem RdE.ofRow {α : Type} {h : Hp} {B n : Nat} {f : List Sh} {v : Value} {g : α → List Value} {p : α → Prop} (hc : CellOk h B (n + 1) (.row f) v) (hg : ∀ cs, All2 (CellOk h B n) f cs → ∃ x, cs = g x ∧ p x) :
  ∃ (s : Sl) (Q : List α), v = s.v ∧ RdE h s g Q ∧ s.n ≤ s.c ∧ Q.length ≤ B ∧ ∀ x ∈ Q, p x := by
 obtain ⟨s, es, h1, h2, h3, h4, h5⟩ := hc
 have each : ∀ cs ∈ es, ∃ x, cs = g x ∧ p x := by
  intro cs hm
  obtain ⟨i, hi, rfl⟩ := List.getElem_of_mem hm
  exact hg _ (h5 i _ (List.getElem?_eq_getElem hi)).2
 obtain ⟨Q, hQl, hQ⟩ := pick_all (fun (cs : List Value) (x : α) => cs = g x ∧ p x) each
 have hes : es = Q.map g := by
  apply List.ext_getElem?
  intro i
  cases he : es[i]? with
  | none =>
   have := List.getElem?_eq_none_iff.1 he
   rw [List.getElem?_map, List.getElem?_eq_none_iff.2 (by omega)]; rfl
  | some cs =>
   obtain ⟨x, q1, q2⟩ := hQ i cs he
   rw [List.getElem?_map, q1, q2.1]; rfl
 refine ⟨s, Q, h1, ⟨by omega, ?_⟩, h2, by omega, ?_⟩
 ·intro k v hk
  -- in which element the cell lies
  have key : ∀ (Q : List α) (off : Nat), (∀ (i : Nat) (x : α), Q[i]? = some x → (g x).length = f.length ∧ (∃ a, s.p = some a ∧ ∀ (j : Nat) (v : Value), (g x)[j]? = some v → cell h (a.add ((off + i) * f.length + j)) = some v)) →
    ∀ (k : Nat) (v : Value), (Q.flatMap g)[k]? = some v → ∃ a, s.p = some a ∧ cell h (a.add (off * f.length + k)) = some v := by
   intro Q
   induction Q with
   | nil => intro off _ k v hk; simp at hk
   | cons x Q ih =>
    intro off hq k v hk
    obtain ⟨hl, a, ha, hc⟩ := hq 0 x rfl
    rw [List.flatMap_cons] at hk
    by_cases hkl : k < (g x).length
    ·rw [List.getElem?_append_left hkl] at hk
     exact ⟨a, ha, by have := hc k v hk; rwa [Nat.add_zero] at this⟩
    ·rw [List.getElem?_append_right (by omega)] at hk
     obtain ⟨a', ha', hc'⟩ := ih (off + 1) (fun i y hy => by
      obtain ⟨q1, a2, q2, q3⟩ := hq (i + 1) y (by simpa using hy)
      exact ⟨q1, a2, q2, fun j v hj => by rw [show off + 1 + i = off + (i + 1) by omega]; exact q3 j v hj⟩) _ v hk
     refine ⟨a', ha', ?_⟩
     rw [show off * f.length + k = (off + 1) * f.length + (k - (g x).length) by rw [Nat.add_mul]; omega]
     exact hc'
  have := key Q 0 (fun i x hx => by
   have he : es[i]? = some (g x) := by rw [hes, List.getElem?_map, hx]; rfl
   obtain ⟨⟨a, q1, q2⟩, q3⟩ := h5 i (g x) he
   exact ⟨q3.len.symm, a, q1, fun j v hj => by rw [Nat.zero_add]; exact q2 j v hj⟩) k v hk
  rw [Nat.zero_mul, Nat.zero_add] at this
  exact this
 ·intro x hx
  obtain ⟨i, hi, rfl⟩ := List.getElem_of_mem hx
  have hil : i < es.length := by omega
  obtain ⟨y, q1, q2⟩ := hQ i es[i] (List.getElem?_eq_getElem hil)
  rw [List.getElem?_eq_getElem hi] at q1
  cases q1
  exact q2.2
theorem u8_of {n : Int} (hw : (Lit.int .u8 n).wf = true) : ∃ b : UInt8, Value.int .u8 n = .int .u8 b.toNat := by
 simp [Lit.wf, IntKind.min, IntKind.max, IntKind.signed, IntKind.bits] at hw
 exact ⟨UInt8.ofNat n.toNat, by rw [putd_u8 (by omega) (by omega)]⟩
theorem RdB.ofRow {h : Hp} {B n : Nat} {v : Value} (hc : CellOk h B (n + 2) (.row [.int .u8]) v) : ∃ (s : Sl) (l : List UInt8), v = s.v ∧ RdB h s l ∧ l.length ≤ B := by
 obtain ⟨s, Q, h1, h2, h3, h4, _⟩ := RdE.ofRow (α := UInt8) (g := fun b => [.int .u8 (b.toNat : Int)]) (p := fun _ => True) hc (by
  intro cs hcs
  match cs, hcs with
  | [v], ⟨⟨m, hv, hw⟩, _⟩ =>
   obtain ⟨b, hb⟩ := u8_of hw
   exact ⟨b, by rw [hv, hb], trivial⟩)
 refine ⟨s, Q, h1, ⟨h2.n, h3, ?_⟩, h4⟩
 have e : ∀ Q : List UInt8, Q.flatMap (fun b => [Value.int .u8 (b.toNat : Int)]) = bc Q := by
  intro Q
  induction Q with
  | nil => rfl
  | cons b Q ih => rw [List.flatMap_cons, ih]; rfl
 have := h2.r
 rw [e] at this
 exact this
theorem wf_rng {k : IntKind} {n : Int} (h : (Lit.int k n).wf = true) : k.min ≤ n ∧ n ≤ k.max := by
 simpa only [Lit.wf, Bool.and_eq_true, decide_eq_true_eq] using h
end Go.Hw

/-
 Arguments of the laws of chapter 11, opened.
-/
set_option linter.unusedSimpArgs false
set_option linter.unusedVariables false
set_option maxRecDepth 100000
namespace Go.Proofs.Ytkfccpabigikkaa
open Go Go.Hw
open Go.ChangeShapes Go.WideShapes Go.ChangeAt Go.RowKit
theorem meas {H : Type} : Meas (H := H) Rows.uptoBulk where
 sl es rest := ⟨bulk_slice es rest, fun e he => by have := bulk_in he; simp only [Rows.uptoBulk]; omega⟩
 ag es e he := by have := bulk_in he; simp only [Rows.uptoBulk]; omega
 st l := bulk_str l
theorem u8x {b : Int} (h : (Lit.int .u8 b).wf = true) : 0 ≤ b ∧ b < 256 := by
 have := wf_rng h
 have h1 : (IntKind.u8.min : Int) = 0 := by rfl
 have h2 : (IntKind.u8.max : Int) = 255 := by rfl
 omega
theorem u32x {b : Int} (h : (Lit.int .u32 b).wf = true) : 0 ≤ b ∧ b < 4294967296 := by
 have := wf_rng h
 have h1 : (IntKind.u32.min : Int) = 0 := by rfl
 have h2 : (IntKind.u32.max : Int) = 4294967295 := by rfl
 omega
def opSh : List Sh := [.int .i64, .int .i64, .int .u32, .int .u32, .row [.int .u8], .int .i64, .int .u8, .int .u8, .int .u8, .int .u8, .int .u8, .int .u8, .int .u32, .int .u8, .int .u8, .int .u8, .int .u8, .int .u8, .int .u8, .int .u32, .int .u32]
set_option maxRecDepth 100000 in
theorem op_sh : shOf Try.prog 5 25 = some [.row opSh] := by kernel_rfl
theorem op_one {h : Hp} {B : Nat} {cs : List Value} (hc : All2 (CellOk h B 4) opSh cs) : ∃ o : OpN, cs = opC o ∧ o.ok h B := by
 unfold opSh at hc
 obtain ⟨v0, r0, e0, c0, hc0⟩ := all2_cons hc
 obtain ⟨a0, f0, w0⟩ := ok_int (n := 3) c0
 obtain ⟨v1, r1, e1, c1, hc1⟩ := all2_cons hc0
 obtain ⟨a1, f1, w1⟩ := ok_int (n := 3) c1
 obtain ⟨v2, r2, e2, c2, hc2⟩ := all2_cons hc1
 obtain ⟨a2, f2, w2⟩ := ok_int (n := 3) c2
 obtain ⟨v3, r3, e3, c3, hc3⟩ := all2_cons hc2
 obtain ⟨a3, f3, w3⟩ := ok_int (n := 3) c3
 obtain ⟨v4, r4, e4, c4, hc4⟩ := all2_cons hc3
 obtain ⟨s, l, f4, hr, hl⟩ := RdB.ofRow (n := 2) c4
 obtain ⟨v5, r5, e5, c5, hc5⟩ := all2_cons hc4
 obtain ⟨a5, f5, w5⟩ := ok_int (n := 3) c5
 obtain ⟨v6, r6, e6, c6, hc6⟩ := all2_cons hc5
 obtain ⟨a6, f6, w6⟩ := ok_int (n := 3) c6
 obtain ⟨v7, r7, e7, c7, hc7⟩ := all2_cons hc6
 obtain ⟨a7, f7, w7⟩ := ok_int (n := 3) c7
 obtain ⟨v8, r8, e8, c8, hc8⟩ := all2_cons hc7
 obtain ⟨a8, f8, w8⟩ := ok_int (n := 3) c8
 obtain ⟨v9, r9, e9, c9, hc9⟩ := all2_cons hc8
 obtain ⟨a9, f9, w9⟩ := ok_int (n := 3) c9
 obtain ⟨v10, r10, e10, c10, hc10⟩ := all2_cons hc9
 obtain ⟨a10, f10, w10⟩ := ok_int (n := 3) c10
 obtain ⟨v11, r11, e11, c11, hc11⟩ := all2_cons hc10
 obtain ⟨a11, f11, w11⟩ := ok_int (n := 3) c11
 obtain ⟨v12, r12, e12, c12, hc12⟩ := all2_cons hc11
 obtain ⟨a12, f12, w12⟩ := ok_int (n := 3) c12
 obtain ⟨v13, r13, e13, c13, hc13⟩ := all2_cons hc12
 obtain ⟨a13, f13, w13⟩ := ok_int (n := 3) c13
 obtain ⟨v14, r14, e14, c14, hc14⟩ := all2_cons hc13
 obtain ⟨a14, f14, w14⟩ := ok_int (n := 3) c14
 obtain ⟨v15, r15, e15, c15, hc15⟩ := all2_cons hc14
 obtain ⟨a15, f15, w15⟩ := ok_int (n := 3) c15
 obtain ⟨v16, r16, e16, c16, hc16⟩ := all2_cons hc15
 obtain ⟨a16, f16, w16⟩ := ok_int (n := 3) c16
 obtain ⟨v17, r17, e17, c17, hc17⟩ := all2_cons hc16
 obtain ⟨a17, f17, w17⟩ := ok_int (n := 3) c17
 obtain ⟨v18, r18, e18, c18, hc18⟩ := all2_cons hc17
 obtain ⟨a18, f18, w18⟩ := ok_int (n := 3) c18
 obtain ⟨v19, r19, e19, c19, hc19⟩ := all2_cons hc18
 obtain ⟨a19, f19, w19⟩ := ok_int (n := 3) c19
 obtain ⟨v20, r20, e20, c20, hc20⟩ := all2_cons hc19
 obtain ⟨a20, f20, w20⟩ := ok_int (n := 3) c20
 have e21 := all2_nil hc20
 subst f0 f1 f2 f3 f4 f5 f6 f7 f8 f9 f10 f11 f12 f13 f14 f15 f16 f17 f18 f19 f20
 subst e21
 subst e20
 subst e19
 subst e18
 subst e17
 subst e16
 subst e15
 subst e14
 subst e13
 subst e12
 subst e11
 subst e10
 subst e9
 subst e8
 subst e7
 subst e6
 subst e5
 subst e4
 subst e3
 subst e2
 subst e1
 subst e0
 exact ⟨⟨a0, a1, a2, a3, l, s, a5, ⟨a6, a7, a8, a9, a10, a11⟩, a12, ⟨a13, a14, a15, a16, a17, a18⟩, a19, a20⟩, rfl, u32x w2, u32x w3, hr, hl, ⟨u8x w6, u8x w7, u8x w8, u8x w9, u8x w10, u8x w11⟩, u32x w12, u32x w19⟩
section
variable {H : Type} {enc : TypeId × Value → H}
theorem ops_open {r : Reach} {W : World} {b0 : Nat} {v : Value} {d : DataW H} {ps : List MemPlace} (hk : Rows.uptoBulk d ≤ 1048576) (hval : Value.okWide Try.prog W r b0 25 v) (hd : DataW.Trod enc Try.prog W 0 (fun _ => true) true 25 v d ps) :
  ∃ (s : Sl) (ops : List OpN), v = s.v ∧ RdE (hpOf W) s opC ops ∧ ops.length ≤ 1048576 ∧ ∀ o ∈ ops, o.ok (hpOf W) 1048576 := by
 have ht : Try.prog.underlying 25 = some (.slice 44) := by kernel_rfl
 obtain ⟨p, n, c, rfl⟩ := Hw.okWide_slice ht hval
 obtain ⟨fuel, hf⟩ := hd
 have hcs : (Value.slice p n c).cells.toList = [.slice p n c] := rfl
 rw [hcs] at hf
 have h1 := (trod_sh meas 5 fuel _ _ _ _ op_sh hf hk).1
 obtain ⟨s, Q, q1, q2, q3, q4, q5⟩ := RdE.ofRow (g := opC) (p := fun o => OpN.ok (hpOf W) 1048576 o) h1 fun cs hcs => op_one hcs
 exact ⟨s, Q, q1, q2, q4, q5⟩
theorem mac_open {r : Reach} {W : World} {b0 : Nat} {v : Value} {d : DataW H} {ps : List MemPlace} (hval : Value.okWide Try.prog W r b0 24 v) (hd : DataW.Trod enc Try.prog W 0 (fun _ => true) true 24 v d ps) :
  ∃ m : M6, m.ok ∧ v = .agg ⟨[.int .u8 m.a, .int .u8 m.b, .int .u8 m.c, .int .u8 m.d, .int .u8 m.e, .int .u8 m.f]⟩ := by
 obtain ⟨l, hl, rfl⟩ := arr_open (n := 6) (e := 5) (by kernel_rfl) (by kernel_rfl) (by kernel_rfl) (by kernel_rfl) hval hd
 match l, hl with
 | [a, b, c, d, e, f], _ => exact ⟨⟨a.toNat, b.toNat, c.toNat, d.toNat, e.toNat, f.toNat⟩, ⟨u8r a, u8r b, u8r c, u8r d, u8r e, u8r f⟩, rfl⟩
end
end Go.Proofs.Ytkfccpabigikkaa
