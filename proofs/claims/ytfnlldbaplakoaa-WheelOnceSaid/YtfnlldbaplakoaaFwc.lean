/-
  The arguments of a law: slices that are read, and that read behind the call as they read before.
-/
import Derived.Test.YtfnlldbaplakoaaFwb
import Derived.WalkKit
import Derived.ProofKit
import Derived.OpenShut
set_option linter.unusedSimpArgs false
set_option linter.unusedVariables false
namespace Go.Hw
open Go
open Go.ChangeShapes Go.WideShapes Go.ChangeAt Go.RowKit

theorem kept_of {w w' : World} (hp : Kp w w') (he : Ext none' (hpOf w) (hpOf w')) : w.keptBut w' (fun _ => False) := by
  refine ⟨hp.1, hp.2, fun i hi => ?_⟩
  have h1 : w.heap[i]? = some w.heap[i] := Array.getElem?_eq_getElem hi
  have h2 : w'.heap[i]? = some w.heap[i] := he i _ h1 (fun e => e)
  rw [h1, h2]
  cases w.heap[i] with
  | cells c t fr => exact ⟨rfl, rfl, rfl, fun _ _ => rfl⟩
  | map es c => exact .inr ⟨rfl, rfl⟩
  | _ => rfl

/-- what stands in the cells of a slice's elements -/
def RowsOf (h : Hp) (s : Sl) (sz : Nat) (css : List (List Value)) : Prop :=
  s.n = css.length ∧ ∀ i cs, css[i]? = some cs → ∃ a, s.p = some a ∧ ∀ j, j < sz → cell h (a.add (i * sz + j)) = cs[j]?

theorem cell_ext {h h' : Hp} (he : Ext none' h h') {a : Addr} {v : Value} (hc : cell h a = some v) : cell h' a = some v := by
  unfold cell at hc ⊢
  cases hb : h a.block with
  | none => rw [hb] at hc; cases hc
  | some o => rw [hb] at hc; rw [he _ _ hb (fun e => e)]; exact hc
theorem add_add (a : Addr) (m n : Nat) : (a.add m).add n = a.add (m + n) := by
  unfold Addr.add
  by_cases h1 : m = 0
  · subst h1; simp
  · by_cases h2 : n = 0
    · subst h2; simp
    · simp [h1, h2, Nat.add_assoc]

section
variable {H : Type} {enc : TypeId × Value → H} {P : Program}

/-- arguments read as they did -/
theorem trodAll_stays (hl : laidOutB P = true) {W W' : World} {sp' : Nat → Bool} (he : Ext none' (hpOf W) (hpOf W')) : ∀ {ts : List TypeId} {vs : List Value} {ds : List (DataW H)} {ps : List MemPlace},
    (∀ t ∈ ts, P.readableRec t = true ∧ t < P.types.size) → DataW.TrodAll enc P W 0 (fun _ => true) true ts vs ds ps → (∀ p ∈ ps, p.block < W.heap.size) → (∀ p ∈ ps, sp' p.block = true) → DataW.TrodAll enc P W' 0 sp' true ts vs ds ps := by
  intro ts
  induction ts with
  | nil => intro vs ds ps _ h _ _; obtain ⟨rfl, rfl, rfl⟩ := trodAll_nil h; rfl
  | cons t ts ih =>
    intro vs ds ps hr h hlt hs
    obtain ⟨v, vs', d, ds', p, q, rfl, rfl, rfl, h1, h2⟩ := trodAll_cons h
    refine ⟨p, q, WideElems.Trod_stays hl (hr t (by simp)).1 (hr t (by simp)).2 h1 ?_ (fun x hx => hs x (by simp [hx])), ih (fun u hu => hr u (by simp [hu])) h2 (fun x hx => hlt x (by simp [hx])) (fun x hx => hs x (by simp [hx])), rfl⟩
    intro x hx
    have hb := hlt x (by simp [hx])
    have e : W'.heap[x.block]? = W.heap[x.block]? := by
      have h1 : W.heap[x.block]? = some W.heap[x.block] := Array.getElem?_eq_getElem hb
      rw [h1]; exact he _ _ h1 (fun e => e)
    cases x with
    | cell b off => exact World.cell?_of_block (a := ⟨b, off, none⟩) e
    | map b => exact e

/-- a law's end: true; only new blocks -/
theorem law_post {f : Func} {s : ChangeSpec} {apart fresh handsOn : Bool} {W W' : World} {args : Array Value} {ds gs : List (DataW H)} {before : List MemPlace} {tb : TypeId}
    (hl : laidOutB P = true) (hr : ∀ t ∈ f.params.toList, P.readableRec t = true ∧ t < P.types.size) (hrt : f.resultTypes = #[tb]) (hb : P.underlying tb = some .bool)
    (hW : DataW.Whole enc P f.params.toList [] apart W args.toList ds gs before) (hvs : s.vars = [])
    (hres : (s.fn H ds).results = [.lit (.bool true)]) (hargs : (s.fn H ds).args = ds) (hvars : (s.fn H ds).vars = [])
    (hp : Kp W W') (he : Ext none' (hpOf W) (hpOf W')) : s.post enc P f apart fresh handsOn false W args (.bool true) W' := by
  have hlt := hW.lt
  obtain ⟨p, q, hA, hV, rfl, hz, hn⟩ := hW
  have hV0 := hV
  obtain ⟨rfl, rfl⟩ := trodVars_none hV
  simp only [List.append_nil] at hlt
  refine ⟨ds, [], p ++ [], [], p, [], ⟨p, [], hA, by rw [hvs]; exact hV0, rfl, hz, hn⟩, ?_, ?_, ?_, World.keptBut_mono (fun p hp => hp.elim) (kept_of hp he), fun h => ?_⟩
  · rw [List.append_nil, hres, hrt]
    exact trodAll_cons_mk (shut_bool hb true) trodAll_mk0
  · rw [List.append_nil, hargs]
    exact trodAll_stays hl he hr hA hlt (fun x hx => by simpa using hlt x hx)
  · rw [List.append_nil, hvars, hvs]; rfl
  · cases h

theorem okWide_slice {r : Reach} {W : World} {b0 : Nat} {t e : TypeId} {v : Value} (ht : P.underlying t = some (.slice e)) (hval : Value.okWide P W r b0 t v) : ∃ p n c, v = .slice p n c := by
  unfold Value.okWide at hval
  rw [ht] at hval
  simp only at hval
  unfold Cell.okWide at hval
  rw [ht] at hval
  cases v <;> simp only [Cell.ok, ht] at hval <;> first | exact ⟨_, _, _, rfl⟩ | exact hval.elim

theorem rows_open {r : Reach} {W : World} {b0 : Nat} {sp : Nat → Bool} {held : Bool} {t e : TypeId} {v : Value} {d : DataW H} {ps : List MemPlace} (ht : P.underlying t = some (.slice e)) (hval : Value.okWide P W r b0 t v)
    (hd : DataW.Trod enc P W 0 sp held t v d ps) :
    ∃ (s : Sl) (css : List (List Value)), v = s.v ∧ s.n ≤ s.c ∧ (s.n = 0 ∨ ∃ elems spare, d = .slice elems spare ∧ elems.length = s.n) ∧ RowsOf (hpOf W) s (P.cellsOf e) css ∧
      ∀ cs ∈ css, ∃ n y, DataW.trod enc P W 0 sp held n e cs = some y := by
  obtain ⟨p, n, c, rfl⟩ := okWide_slice ht hval
  obtain ⟨fuel, hf⟩ := hd
  have hcs : (Value.slice p n c).cells.toList = [.slice p n c] := rfl
  rw [hcs] at hf
  rcases DataW.trod_slice ht hf with ⟨h0, hx⟩ | ⟨a, len, cap, elems, rest, m, _, h1, hx, _, hl, _, hlen, hel, _, _⟩
  · simp only [List.cons.injEq, Value.slice.injEq, and_true] at h0
    obtain ⟨rfl, rfl, rfl⟩ := h0
    exact ⟨⟨none, 0, 0⟩, [], rfl, Nat.le_refl _, .inl rfl, ⟨rfl, by simp⟩, by simp⟩
  · simp only [List.cons.injEq, Value.slice.injEq, and_true] at h1
    obtain ⟨rfl, rfl, rfl⟩ := h1
    have each : ∀ i, i < n → ∃ cs y, W.cells? 0 (a.add (i * P.cellsOf e)) (P.cellsOf e) = some cs ∧ DataW.trod enc P W 0 sp held m e cs = some y := by
      intro i hi
      have h2 := hel i hi
      rw [List.getElem?_eq_getElem (by omega)] at h2
      obtain ⟨cs, h3, h4⟩ := Option.bind_eq_some_iff.1 h2
      exact ⟨cs, _, h3, h4⟩
    refine ⟨⟨some a, n, c⟩, (List.range n).map fun i => (W.cells? 0 (a.add (i * P.cellsOf e)) (P.cellsOf e)).getD [], rfl, hl, .inr ⟨_, _, (Prod.mk.inj hx).1, by simpa using hlen⟩, ⟨by simp, ?_⟩, ?_⟩
    · intro i cs hi
      have hin : i < n := by have := (List.getElem?_eq_some_iff.1 hi).1; simpa using this
      obtain ⟨cs', y, h3, h4⟩ := each i hin
      have : cs = cs' := by simp [hin, h3] at hi; exact hi.symm
      subst this
      refine ⟨a, rfl, ?_⟩
      intro j hj
      have := (World.cells?_some h3).2.2 j hj
      rw [add_add] at this
      rw [cell_hp]; exact this
    · intro cs hm
      obtain ⟨i, hi, rfl⟩ := List.mem_map.1 hm
      obtain ⟨cs', y, h3, h4⟩ := each i (by simpa using hi)
      rw [h3]; exact ⟨m, y, h4⟩

/-- an element of one int -/
theorem one_int {W : World} {sp : Nat → Bool} {held : Bool} {n : Nat} {e : TypeId} {k : IntKind} {cs : List Value} {y : DataW H × List MemPlace} (he : P.underlying e = some (.int k)) (h : DataW.trod enc P W 0 sp held n e cs = some y) :
    ∃ m, cs = [.int k m] := by
  obtain ⟨m, h1, _, _⟩ := DataW.trod_int he h
  exact ⟨m, h1⟩
/-- an element of three ints -/
theorem three_ints {W : World} {sp : Nat → Bool} {held : Bool} {n : Nat} {e : TypeId} {k : IntKind} {f0 f1 f2 : Field} {cs : List Value} {y : DataW H × List MemPlace} (he : P.underlying e = some (.struct #[f0, f1, f2]))
    (hc : P.cellsOf e = 3) (h0 : P.underlying f0.type = some (.int k) ∧ f0.offset = 0 ∧ P.cellsOf f0.type = 1) (h1 : P.underlying f1.type = some (.int k) ∧ f1.offset = 1 ∧ P.cellsOf f1.type = 1)
    (h2 : P.underlying f2.type = some (.int k) ∧ f2.offset = 2 ∧ P.cellsOf f2.type = 1) (h : DataW.trod enc P W 0 sp held n e cs = some y) :
    ∃ a b c, cs = [.int k a, .int k b, .int k c] := by
  obtain ⟨xs, m, _, _, hl, hxl, hx⟩ := DataW.trod_struct he h
  rw [hc] at hl
  have hxl : xs.length = 3 := hxl
  obtain ⟨u0, u1, u2, rfl⟩ : ∃ a b c, cs = [a, b, c] := by
    match cs, hl with
    | [a, b, c], _ => exact ⟨a, b, c, rfl⟩
  have g0 := hx 0 f0 rfl
  have g1 := hx 1 f1 rfl
  have g2 := hx 2 f2 rfl
  rw [h0.2.1, h0.2.2, List.getElem?_eq_getElem (by omega)] at g0
  rw [h1.2.1, h1.2.2, List.getElem?_eq_getElem (by omega)] at g1
  rw [h2.2.1, h2.2.2, List.getElem?_eq_getElem (by omega)] at g2
  obtain ⟨a, e0, _, _⟩ := DataW.trod_int h0.1 g0
  obtain ⟨b, e1, _, _⟩ := DataW.trod_int h1.1 g1
  obtain ⟨c, e2, _, _⟩ := DataW.trod_int h2.1 g2
  simp at e0 e1 e2
  exact ⟨a, b, c, by rw [e0, e1, e2]⟩
end

/-! ### slices of ints, and of three ints -/
def Ints (h : Hp) (s : Sl) (l : List Int) : Prop := s.n = l.length ∧ ∀ i n, l[i]? = some n → ∃ a, s.p = some a ∧ cell h (a.add (i * 1)) = some (.int .i64 n)
def Trips (h : Hp) (s : Sl) (l : List (Int × Int × Int)) : Prop := s.n = l.length ∧ ∀ i o, l[i]? = some o → ∃ a, s.p = some a ∧
  cell h (a.add (i * 3)) = some (.int .i64 o.1) ∧ cell h ((a.add (i * 3)).add 1) = some (.int .i64 o.2.1) ∧ cell h ((a.add (i * 3)).add 2) = some (.int .i64 o.2.2)
theorem Ints.ext {h h' : Hp} {s : Sl} {l : List Int} (H : Ints h s l) (he : Ext none' h h') : Ints h' s l :=
  ⟨H.1, fun i n hi => let ⟨a, hp, hc⟩ := H.2 i n hi; ⟨a, hp, cell_ext he hc⟩⟩
theorem Trips.ext {h h' : Hp} {s : Sl} {l : List (Int × Int × Int)} (H : Trips h s l) (he : Ext none' h h') : Trips h' s l :=
  ⟨H.1, fun i n hi => let ⟨a, hp, h0, h1, h2⟩ := H.2 i n hi; ⟨a, hp, cell_ext he h0, cell_ext he h1, cell_ext he h2⟩⟩
theorem pick_all {α β : Type} (R : α → β → Prop) : ∀ {l : List α}, (∀ x ∈ l, ∃ y, R x y) → ∃ m : List β, m.length = l.length ∧ ∀ (i : Nat) (x : α), l[i]? = some x → ∃ y, m[i]? = some y ∧ R x y := by
  intro l
  induction l with
  | nil => intro _; exact ⟨[], rfl, by simp⟩
  | cons a l ih =>
    intro h
    obtain ⟨y, hy⟩ := h a (by simp)
    obtain ⟨m, hm, hr⟩ := ih fun x hx => h x (by simp [hx])
    refine ⟨y :: m, by simp [hm], ?_⟩
    intro i x hi
    cases i with
    | zero => simp at hi; subst hi; exact ⟨y, rfl, hy⟩
    | succ i => simpa using hr i x (by simpa using hi)
theorem ints_of {h : Hp} {s : Sl} {css : List (List Value)} (H : RowsOf h s 1 css) (hc : ∀ cs ∈ css, ∃ m, cs = [.int .i64 m]) : ∃ l, Ints h s l := by
  obtain ⟨l, hl, hr⟩ := pick_all (fun (cs : List Value) (m : Int) => cs = [Value.int .i64 m]) hc
  refine ⟨l, H.1.trans hl.symm, ?_⟩
  intro i n hi
  have hlt : i < css.length := by have := (List.getElem?_eq_some_iff.1 hi).1; omega
  have hx : css[i]? = some css[i] := List.getElem?_eq_getElem hlt
  obtain ⟨y, h1, h2⟩ := hr i _ hx
  rw [hi] at h1
  obtain ⟨a, hp, hcell⟩ := H.2 i _ hx
  refine ⟨a, hp, ?_⟩
  have := hcell 0 (by omega)
  rw [h2] at this
  cases h1
  simpa using this
theorem trips_of {h : Hp} {s : Sl} {css : List (List Value)} (H : RowsOf h s 3 css) (hc : ∀ cs ∈ css, ∃ a b c, cs = [.int .i64 a, .int .i64 b, .int .i64 c]) : ∃ l, Trips h s l := by
  obtain ⟨l, hl, hr⟩ := pick_all (fun (cs : List Value) (m : Int × Int × Int) => cs = [Value.int .i64 m.1, Value.int .i64 m.2.1, Value.int .i64 m.2.2]) (l := css) (fun cs hcs => let ⟨a, b, c, e⟩ := hc cs hcs; ⟨(a, b, c), e⟩)
  refine ⟨l, H.1.trans hl.symm, ?_⟩
  intro i n hi
  have hlt : i < css.length := by have := (List.getElem?_eq_some_iff.1 hi).1; omega
  have hx : css[i]? = some css[i] := List.getElem?_eq_getElem hlt
  obtain ⟨y, h1, h2⟩ := hr i _ hx
  rw [hi] at h1
  obtain ⟨a, hp, hcell⟩ := H.2 i _ hx
  cases h1
  refine ⟨a, hp, ?_, ?_, ?_⟩
  · have := hcell 0 (by omega); rw [h2] at this; simpa using this
  · have := hcell 1 (by omega); rw [h2] at this; rw [add_add]; simpa using this
  · have := hcell 2 (by omega); rw [h2] at this; rw [add_add]; simpa using this

end Go.Hw
