/-
  Arguments opened: numbers, byte slices, arrays of bytes, strings; what they read as on the abstract heap.
-/
import Derived.Test.YtabihmedfopdcaaPc
import Derived.OpenShut
import Derived.SizedLaws
import Derived.Test.YtabihmedfopdcaaPe
import Derived.Deep.DeepHandedRow
import Derived.JoinedCond
import Derived.Test.YtabihmedfopdcaaRows
import Derived.WalkKit
import Derived.ProofKit
import Derived.Stop.LaidErr
import Derived.Lib.LaidTab
import Derived.Test.YtabihmedfopdcaaPd
set_option linter.unusedSimpArgs false
set_option linter.unusedVariables false
namespace Go.Hw
open Go
open Go.ChangeShapes Go.WideShapes Go.ChangeAt Go.RowKit

section
variable {H : Type} {enc : TypeId × Value → H} {P : Program}

/-- an element of one byte -/
theorem one_byte {W : World} {sp : Nat → Bool} {held : Bool} {n : Nat} {e : TypeId} {cs : List Value} {y : DataW H × List MemPlace} (he : P.underlying e = some (.int .u8)) (h : DataW.trod enc P W 0 sp held n e cs = some y) :
    ∃ b : UInt8, cs = [.int .u8 b.toNat] := by
  obtain ⟨m, h1, _, hw⟩ := DataW.trod_int he h
  simp [Lit.wf, IntKind.min, IntKind.max, IntKind.signed, IntKind.bits] at hw
  refine ⟨UInt8.ofNat m.toNat, ?_⟩
  rw [h1, putd_u8 (by omega) (by omega)]

theorem bytes_of : ∀ {css : List (List Value)}, (∀ cs ∈ css, ∃ b : UInt8, cs = [.int .u8 b.toNat]) → ∃ l : List UInt8, l.length = css.length ∧ css = l.map fun b => [.int .u8 b.toNat]
  | [], _ => ⟨[], rfl, rfl⟩
  | cs :: css, h => by
    obtain ⟨b, hb⟩ := h cs (by simp)
    obtain ⟨l, hl, he⟩ := bytes_of (css := css) fun cs hc => h cs (by simp [hc])
    exact ⟨b :: l, by simp [hl], by rw [hb, he]; rfl⟩

/-- a byte slice -/
theorem bytes_open {r : Reach} {W : World} {b0 : Nat} {held : Bool} {t e : TypeId} {v : Value} {d : DataW H} {ps : List MemPlace} (ht : P.underlying t = some (.slice e)) (he : P.underlying e = some (.int .u8)) (hc : P.cellsOf e = 1)
    (hval : Value.okWide P W r b0 t v) (hd : DataW.Trod enc P W 0 (fun _ => true) held t v d ps) :
    ∃ (s : Sl) (l : List UInt8), v = s.v ∧ RdB (hpOf W) s l ∧ (s.c = 0 ∨ ∃ elems spare, d = .slice elems spare ∧ elems.length + spare.length = s.c) := by
  obtain ⟨s, css, hv, hnc, _, ⟨hr1, hr2⟩, hel⟩ := rows_open ht hval hd
  obtain ⟨l, hl, rfl⟩ := bytes_of fun cs hm => by
    obtain ⟨n, y, hy⟩ := hel cs hm
    exact one_byte he hy
  have hcm : s.c = 0 ∨ ∃ elems spare, d = .slice elems spare ∧ elems.length + spare.length = s.c := by
    obtain ⟨fuel, hf⟩ := hd
    subst hv
    have hcs : s.v.cells.toList = [s.v] := rfl
    rw [hcs] at hf
    rcases DataW.trod_slice ht hf with ⟨h0, _⟩ | ⟨a, len, cap, elems, rest, m, _, h1, hx, _, hlc, hm, hle, _, hsp, _⟩
    · simp only [Sl.v, List.cons.injEq, Value.slice.injEq, and_true] at h0
      exact .inl h0.2.2
    · simp only [Sl.v, List.cons.injEq, Value.slice.injEq, and_true] at h1
      refine .inr ⟨_, _, (Prod.mk.inj hx).1, ?_⟩
      have := (hsp rfl).1
      simp only [List.length_map]
      omega
  refine ⟨s, l, hv, ⟨?_, hnc, ?_⟩, hcm⟩
  · simp at hr1 ⊢; omega
  · intro i v hi
    rw [bc_get] at hi
    obtain ⟨b, hb, rfl⟩ := Option.map_eq_some_iff.1 hi
    obtain ⟨a, ha, hcell⟩ := hr2 i [.int .u8 b.toNat] (by simp [hb])
    refine ⟨a, ha, ?_⟩
    have := hcell 0 (by rw [hc]; omega)
    rw [hc] at this
    simpa [add_add] using this

/-- an array of bytes -/
theorem arr_open {r : Reach} {W : World} {b0 : Nat} {sp : Nat → Bool} {held : Bool} {t e : TypeId} {n : Nat} {v : Value} {d : DataW H} {ps : List MemPlace} (ht : P.underlying t = some (.array n e)) (he : P.underlying e = some (.int .u8)) (hc : P.cellsOf e = 1) (hn : P.cellsOf t = n)
    (hval : Value.okWide P W r b0 t v) (hd : DataW.Trod enc P W 0 sp held t v d ps) :
    ∃ l : List UInt8, l.length = n ∧ v = .agg ⟨bc l⟩ := by
  unfold Value.okWide at hval
  rw [ht] at hval
  obtain ⟨cs, rfl, hs, _⟩ := hval
  obtain ⟨fuel, hf⟩ := hd
  have hcs : (Value.agg cs).cells.toList = cs.toList := rfl
  rw [hcs] at hf
  obtain ⟨xs, m, _, _, hl, hx, hel⟩ := DataW.trod_array ht hf
  rw [hn] at hl
  rw [hc] at hel
  have each : ∀ x ∈ cs.toList.map (fun v => [v]), ∃ b : UInt8, x = [.int .u8 b.toNat] := by
    intro x hx'
    obtain ⟨v, hv, rfl⟩ := List.mem_map.1 hx'
    obtain ⟨i, hi, rfl⟩ := List.getElem_of_mem hv
    have h2 := hel i (by omega)
    rw [List.getElem?_eq_getElem (by omega)] at h2
    have e1 : (cs.toList.drop (i * 1)).take 1 = [cs.toList[i]] := by
      rw [Nat.mul_one]
      rw [List.drop_eq_getElem_cons hi]; rfl
    rw [e1] at h2
    exact one_byte he h2
  obtain ⟨l, h3, h4⟩ := bytes_of each
  refine ⟨l, by simpa [hl] using h3, ?_⟩
  have : cs.toList = bc l := by
    have := congrArg List.flatten h4
    have e1 : ∀ l : List Value, (l.map fun v => [v]).flatten = l := fun l => by induction l <;> simp_all
    have e2 : (l.map fun b : UInt8 => [Value.int .u8 b.toNat]).flatten = bc l := by
      have := e1 (bc l)
      simpa [bc, Function.comp_def] using this
    rw [e1, e2] at this
    exact this
  rw [← this]

/-- a number -/
theorem int_open {r : Reach} {W : World} {b0 : Nat} {sp : Nat → Bool} {held : Bool} {t : TypeId} {k : IntKind} {v : Value} {d : DataW H} {ps : List MemPlace} (ht : P.underlying t = some (.int k)) (hval : Value.okWide P W r b0 t v) (hd : DataW.Trod enc P W 0 sp held t v d ps) :
    ∃ n, v = .int k n ∧ (Lit.int k n).wf = true := by
  obtain ⟨n, h1, _, _, h2⟩ := open_int ht hval hd
  exact ⟨n, h1, h2⟩

/-- a string -/
theorem str_open {r : Reach} {W : World} {b0 : Nat} {sp : Nat → Bool} {held : Bool} {t : TypeId} {v : Value} {d : DataW H} {ps : List MemPlace} (ht : P.underlying t = some .string) (hval : Value.okWide P W r b0 t v) (hd : DataW.Trod enc P W 0 sp held t v d ps) :
    ∃ s : ByteArray, v = .string s ∧ d = .lit (.string s.data.toList) := by
  obtain ⟨fuel, hf⟩ := hd
  obtain ⟨s, h, hx, hs⟩ := DataW.trod_string ht hf
  unfold Value.okWide at hval
  rw [ht] at hval
  simp only at hval
  unfold Cell.okWide at hval
  rw [ht] at hval
  cases v <;> simp only [Cell.ok, ht] at hval <;> first | exact hval.elim | skip
  simp [Value.cells] at h
  subst h
  exact ⟨_, rfl, by simp_all⟩
theorem wfb {k : IntKind} {n : Int} (h : (Lit.int k n).wf = true) : k.min ≤ n ∧ n ≤ k.max := by
  simpa [Lit.wf] using h

/-- a byte slice that lies in cells -/
theorem bytes_core {W : World} {held : Bool} {n : Nat} {t e : TypeId} {cs : List Value} {y : DataW H × List MemPlace} (ht : P.underlying t = some (.slice e)) (he : P.underlying e = some (.int .u8)) (hc : P.cellsOf e = 1)
    (hf : DataW.trod enc P W 0 (fun _ => true) held n t cs = some y) :
    ∃ (s : Sl) (l : List UInt8), cs = [s.v] ∧ RdB (hpOf W) s l ∧ (s.c = 0 ∨ ∃ elems spare, y.1 = .slice elems spare ∧ elems.length + spare.length = s.c) := by
  rcases DataW.trod_slice ht hf with ⟨h0, hx⟩ | ⟨a, len, cap, elems, rest, m, _, h1, hx, _, hl, _, hlen, hel, hsp, _⟩
  · exact ⟨⟨none, 0, 0⟩, [], h0, RdB.nil, .inl rfl⟩
  · have each : ∀ x ∈ List.range len, ∃ b : UInt8, cell (hpOf W) (a.add x) = some (.int .u8 b.toNat) := by
      intro x hx
      have hx := List.mem_range.1 hx
      have h2 := hel x hx
      rw [List.getElem?_eq_getElem (by omega)] at h2
      obtain ⟨cs, h3, h4⟩ := Option.bind_eq_some_iff.1 h2
      obtain ⟨b, rfl⟩ := one_byte he h4
      refine ⟨b, ?_⟩
      have := (World.cells?_some h3).2.2 0 (by rw [hc]; omega)
      rw [hc] at this
      rw [cell_hp]
      simpa [add_add] using this
    obtain ⟨l, hll, hl2⟩ := pick_all (fun (x : Nat) (b : UInt8) => cell (hpOf W) (a.add x) = some (.int .u8 b.toNat)) each
    simp only [List.length_range] at hll
    refine ⟨⟨some a, len, cap⟩, l, h1, ⟨hll.symm, hl, ?_⟩, .inr ⟨_, _, by rw [hx], ?_⟩⟩
    · intro i v hi
      rw [bc_get] at hi
      obtain ⟨b, hb, rfl⟩ := Option.map_eq_some_iff.1 hi
      have hil : i < len := by rw [← hll]; exact (List.getElem?_eq_some_iff.1 hb).1
      obtain ⟨b', hb', hcell⟩ := hl2 i i (by simp [hil])
      have : b = b' := Option.some.inj (hb.symm.trans hb')
      subst this
      exact ⟨a, rfl, hcell⟩
    · have := (hsp rfl).1
      simp only [List.length_map]
      omega
theorem weights_mem_all {e : TypeId} {n : Nat} {d : DataW H} (hn : n ∈ d.weights P e) : ∀ {ds : List (DataW H)}, d ∈ ds → n ∈ DataW.weightsAll P e ds
  | d' :: ds, hd => by
    unfold DataW.weightsAll
    rcases List.mem_cons.1 hd with rfl | hd
    · exact List.mem_append.2 (.inl hn)
    · exact List.mem_append.2 (.inr (weights_mem_all hn hd))
/-- a row of byte slices -/
theorem parts_open {r : Reach} {W : World} {b0 : Nat} {held : Bool} {t e u : TypeId} {v : Value} {d : DataW H} {ps : List MemPlace} (ht : P.underlying t = some (.slice e)) (he : P.underlying e = some (.slice u)) (hu : P.underlying u = some (.int .u8)) (hce : P.cellsOf e = 1) (hcu : P.cellsOf u = 1) (hbu : P.bytesOf u = 1)
    (hwt : ∀ n ∈ d.weights P t, n ≤ reachBytes)
    (hval : Value.okWide P W r b0 t v) (hd : DataW.Trod enc P W 0 (fun _ => true) held t v d ps) :
    ∃ (s : Sl) (ts : List Sl) (ps : List (List UInt8)), v = s.v ∧ s.n = ts.length ∧ s.n ≤ s.c ∧ ts.length = ps.length ∧ Rdc (hpOf W) s.p (ts.map Sl.v) ∧
      (∀ (i : Nat) t l, ts[i]? = some t → ps[i]? = some l → RdB (hpOf W) t l) ∧ (∀ l ∈ ps, l.length ≤ 140737488351232) ∧ s.c * P.bytesOf e ≤ 140737488351232 := by
  obtain ⟨p, n, c, rfl⟩ := okWide_slice ht hval
  obtain ⟨fuel, hf⟩ := hd
  have hcs : (Value.slice p n c).cells.toList = [.slice p n c] := rfl
  rw [hcs] at hf
  rcases DataW.trod_slice ht hf with ⟨h0, hx⟩ | ⟨a, len, cap, elems, rest, m, _, h1, hx, _, hl, _, hlen, hel, hsp, _⟩
  · simp only [List.cons.injEq, Value.slice.injEq, and_true] at h0
    obtain ⟨rfl, rfl, rfl⟩ := h0
    exact ⟨⟨none, 0, 0⟩, [], [], rfl, rfl, Nat.le_refl _, rfl, by intro i v hi; simp at hi, by simp, by simp, by simp⟩
  · simp only [List.cons.injEq, Value.slice.injEq, and_true] at h1
    obtain ⟨rfl, rfl, rfl⟩ := h1
    have hxd := (Prod.mk.inj hx).1
    subst hxd
    have each : ∀ i ∈ List.range n, ∃ y : Sl × List UInt8, cell (hpOf W) (a.add i) = some y.1.v ∧ RdB (hpOf W) y.1 y.2 ∧ y.2.length ≤ 140737488351232 := by
      intro i hi
      have hi := List.mem_range.1 hi
      have h2 := hel i hi
      have hil : i < elems.length := by omega
      rw [List.getElem?_eq_getElem hil] at h2
      obtain ⟨cs, h3, h4⟩ := Option.bind_eq_some_iff.1 h2
      obtain ⟨s, l, rfl, hr, hcap⟩ := bytes_core he hu hcu h4
      refine ⟨(s, l), ?_, hr, ?_⟩
      · have := (World.cells?_some h3).2.2 0 (by rw [hce]; omega)
        rw [hce] at this
        rw [cell_hp]
        simpa [add_add] using this
      · have hrn := hr.n
        have hrc := hr.c
        rcases hcap with h0 | ⟨el, sp, hy, hls⟩
        · show l.length ≤ _; omega
        · have hm : (el.length + sp.length) * P.bytesOf u ∈ (elems[i].1).weights P e := by rw [hy]; simp [DataW.weights, he]
          have hm2 : (el.length + sp.length) * P.bytesOf u ∈ DataW.weights P t (DataW.slice (elems.map (·.1)) (rest.map (·.1))) := by
            simp only [DataW.weights, ht]
            refine List.mem_cons.2 (.inr (List.mem_append.2 (.inl (weights_mem_all hm ?_))))
            exact List.mem_map.2 ⟨_, List.getElem_mem hil, rfl⟩
          have := hwt _ hm2
          rw [hbu] at this
          unfold reachBytes at this
          show l.length ≤ _
          omega
    obtain ⟨es, hes, hes2⟩ := pick_all (fun (i : Nat) (y : Sl × List UInt8) => cell (hpOf W) (a.add i) = some y.1.v ∧ RdB (hpOf W) y.1 y.2 ∧ y.2.length ≤ 140737488351232) each
    simp only [List.length_range] at hes
    have get : ∀ i y, es[i]? = some y → cell (hpOf W) (a.add i) = some y.1.v ∧ RdB (hpOf W) y.1 y.2 ∧ y.2.length ≤ 140737488351232 := by
      intro i y hi
      have hil : i < n := by rw [← hes]; exact (List.getElem?_eq_some_iff.1 hi).1
      obtain ⟨y', h1, h2⟩ := hes2 i i (by simp [hil])
      have : y = y' := Option.some.inj (hi.symm.trans h1)
      subst this; exact h2
    refine ⟨⟨some a, n, c⟩, es.map (·.1), es.map (·.2), rfl, by simp [hes], hl, by simp, ?_, ?_, ?_, ?_⟩
    · intro i v hi
      simp only [List.map_map, List.getElem?_map, Option.map_eq_some_iff] at hi
      obtain ⟨y, hy, rfl⟩ := hi
      exact ⟨a, rfl, (get i y hy).1⟩
    · intro i t l h1 h2
      simp only [List.getElem?_map, Option.map_eq_some_iff] at h1 h2
      obtain ⟨y, hy, rfl⟩ := h1
      obtain ⟨y', hy', rfl⟩ := h2
      have : y = y' := Option.some.inj (hy.symm.trans hy')
      subst this
      exact (get i y hy).2.1
    · intro l hl
      obtain ⟨y, hy, rfl⟩ := List.mem_map.1 hl
      obtain ⟨i, hi, rfl⟩ := List.getElem_of_mem hy
      exact (get i _ (List.getElem?_eq_getElem hi)).2.2
    · have hm2 : (elems.length + rest.length) * P.bytesOf e ∈ DataW.weights P t (DataW.slice (elems.map (·.1)) (rest.map (·.1))) := by simp [DataW.weights, ht]
      have := hwt _ hm2
      have hr := (hsp rfl).1
      unfold reachBytes at this
      have e1 : elems.length + rest.length = c := by omega
      rw [e1] at this; exact this
/-- what one argument weighs -/
theorem weighs {ts : List TypeId} {ds : List (DataW H)} (h : (DataW.weightsEach P ts ds).all (· ≤ reachBytes) = true) {j : Nat} {t : TypeId} {d : DataW H} (ht : ts[j]? = some t) (hd : ds[j]? = some d) : ∀ n ∈ d.weights P t, n ≤ reachBytes := by
  intro n hn
  have := List.all_eq_true.1 h _ (DataW.weights_mem_each ht hd n hn)
  simpa using this

/-- what a slice of bytes and a string weigh -/
theorem cap_le {ts : List TypeId} {ds : List (DataW H)} (h : (DataW.weightsEach P ts ds).all (· ≤ reachBytes) = true) {j : Nat} {t e : TypeId} {s : Sl} {d : DataW H} (ht : ts[j]? = some t) (hd : ds[j]? = some d) (hu : P.underlying t = some (.slice e)) (hb : P.bytesOf e = 1)
    (hs : s.c = 0 ∨ ∃ elems spare, d = .slice elems spare ∧ elems.length + spare.length = s.c) : s.c ≤ 140737488351232 := by
  rcases hs with h0 | ⟨el, sp, rfl, hl⟩
  · omega
  · have := sized_slice h ht hd hu
    rw [hb] at this
    unfold reachBytes at this
    omega
theorem size_le {ts : List TypeId} {ds : List (DataW H)} (h : (DataW.weightsEach P ts ds).all (· ≤ reachBytes) = true) {j : Nat} {t : TypeId} {s : ByteArray} (ht : ts[j]? = some t) (hd : ds[j]? = some (.lit (.string s.data.toList))) : s.size ≤ 140737488351232 := by
  have := sized_string h ht hd
  unfold reachBytes at this
  show s.data.size ≤ _
  rw [← Array.length_toList]
  exact this
end
end Go.Hw

/-
  A law's row with a condition (the second form), out of a walk: it returns true, only new blocks.
-/
set_option linter.unusedSimpArgs false
set_option linter.unusedVariables false
namespace Go.Hw
open Go
open Go.ChangeShapes Go.WideShapes Go.ChangeAt Go.RowKit

section
variable {H : Type} {enc : TypeId × Value → H}
theorem law_lift_row {C : Checked} {os : Os} {f : FuncId} {fn : Func} {s : ChangeSpec} {s' : OpenSpec} {F : Stop.Interp} {laid : List (String × DataW Unit)} {tb : TypeId}
    (own : ownKnob C.prog.godebug = none) (started : os.Started) (noInit : C.prog.inits.idxOf? f = none) (hfn : C.prog.funcs[f]? = some fn)
    (witness : ∃ (w : World) (tape : Tape) (i : Input), w.os = os ∧ (w.forCall tape i).Shaped C.prog ∧ i.vars = [] ∧ Input.okWide C.prog (w.forCall tape i) .any w.heap.size f i ∧
      s'.preRow enc C.prog fn [] false laid (w.forCall tape i).memory i.args ∧ ({} : Assume).holds C.prog (lone (Frame.enter C.prog f i.args .normal) [] (w.forCall tape i)))
    (hl : laidOutB C.prog = true) (hr : ∀ t ∈ fn.params.toList, C.prog.readableRec t = true ∧ t < C.prog.types.size) (hrt : fn.resultTypes = #[tb]) (hb : C.prog.underlying tb = some .bool)
    (hvs : s.vars = []) (hvs' : s'.vars = []) (hat : s'.at F = s) (hbare : s'.bare.plain.varTypes C.prog = [])
    (hspec : ∀ ds : List (DataW H), ds.length = fn.params.size → (s.fn H ds).results = [.lit (.bool true)] ∧ (s.fn H ds).args = ds ∧ (s.fn H ds).vars = [])
    (walk : ∀ (W : World) (base : Nat) (args : Array Value) (ds : List (DataW H)) (p : List MemPlace),
      (∀ (j : Nat) t v, fn.params[j]? = some t → args[j]? = some v → Value.okWide C.prog W .any base t v) →
      DataW.TrodAll enc C.prog W 0 (fun _ => true) true fn.params.toList args.toList ds p →
      (DataW.weightsEach C.prog fn.params.toList ds).all (· ≤ reachBytes) = true →
      (∀ k, s'.cond = some k → k H ds = true) →
      laidMetH C.prog laid W → W.ShapedOpen C.prog →
      HCalls C.prog f args (hpOf W) fun v h' => v = .bool true ∧ Ext none' (hpOf W) h') :
    ReturnsInHanded {} C os f .any (s'.preRow enc C.prog fn [] false laid) ((s'.at F).post enc C.prog fn false true false false) := by
  refine returnsInHanded_of_row own started noInit hfn witness ?_
  intro W base args ds gs before hval hW _ hk hwt hL hsh _
  have hW' := hW
  obtain ⟨p, q, hA0, hV, hpq, hfz, hnd⟩ := hW
  have hA : DataW.TrodAll enc C.prog W 0 (fun _ => true) true fn.params.toList args.toList ds p := hA0
  rw [hvs'] at hV
  obtain ⟨rfl, rfl⟩ := trodVars_none hV
  rw [hbare] at hwt
  simp only [List.append_nil] at hwt hk
  have hlen : ds.length = fn.params.size := by
    have : ∀ {ts : List TypeId} {vs : List Value} {ds : List (DataW H)} {p : List MemPlace}, DataW.TrodAll enc C.prog W 0 (fun _ => true) true ts vs ds p → ds.length = ts.length := by
      intro ts
      induction ts with
      | nil => intro vs ds p h; obtain ⟨_, rfl, _⟩ := trodAll_nil h; rfl
      | cons t ts ih => intro vs ds p h; obtain ⟨_, _, _, _, _, _, _, rfl, _, _, h2⟩ := trodAll_cons h; simp [ih h2]
    have := this hA
    rw [this]; simp
  have hc2 := walk W base args ds p hval hA hwt hk hL hsh
  refine (hc2 _ rfl).mono ?_
  rintro e W' ⟨v, rfl, ⟨rfl, he⟩, hp⟩
  obtain ⟨s1, s2, s3⟩ := hspec ds hlen
  rw [hvs'] at hW'
  exact ⟨_, rfl, by rw [hat]; exact law_post hl hr hrt hb hW' hvs s1 s2 s3 hp he⟩
end
end Go.Hw

/-
  A plain law's row (nothing laid) out of a walk.
-/
set_option linter.unusedSimpArgs false
set_option linter.unusedVariables false
namespace Go.Hw
open Go
open Go.ChangeShapes Go.WideShapes Go.ChangeAt Go.RowKit

section
variable {H : Type} {enc : TypeId × Value → H}
theorem pre6_true {C : Checked} {f : Func} {s : ChangeSpec} : (fun (w : World) args => (s.pre enc C.prog f [] false w args ∧ True) ∧ sizedMet enc C.prog f (OpenSpec.ofChange s) false w args) = s.pre6 enc C.prog f [] false := by
  funext w args
  unfold ChangeSpec.pre6
  rw [and_true]
theorem law_lift_plain {C : Checked} {os : Os} {f : FuncId} {fn : Func} {s : ChangeSpec} {tb : TypeId}
    (own : ownKnob C.prog.godebug = none) (started : os.Started) (noInit : C.prog.inits.idxOf? f = none) (hfn : C.prog.funcs[f]? = some fn)
    (witness : ∃ (w : World) (tape : Tape) (i : Input), w.os = os ∧ (w.forCall tape i).Shaped C.prog ∧ i.vars = [] ∧ Input.okWide C.prog (w.forCall tape i) .any w.heap.size f i ∧
      s.pre6 enc C.prog fn [] false (w.forCall tape i).memory i.args ∧ ({} : Assume).holds C.prog (lone (Frame.enter C.prog f i.args .normal) [] (w.forCall tape i)))
    (hl : laidOutB C.prog = true) (hr : ∀ t ∈ fn.params.toList, C.prog.readableRec t = true ∧ t < C.prog.types.size) (hrt : fn.resultTypes = #[tb]) (hb : C.prog.underlying tb = some .bool)
    (hvs : s.vars = [])
    (hspec : ∀ ds : List (DataW H), ds.length = fn.params.size → (s.fn H ds).results = [.lit (.bool true)] ∧ (s.fn H ds).args = ds ∧ (s.fn H ds).vars = [])
    (walk : ∀ (W : World) (base : Nat) (args : Array Value) (ds : List (DataW H)) (p : List MemPlace),
      (∀ (j : Nat) t v, fn.params[j]? = some t → args[j]? = some v → Value.okWide C.prog W .any base t v) →
      DataW.TrodAll enc C.prog W 0 (fun _ => true) true fn.params.toList args.toList ds p →
      (DataW.weightsEach C.prog fn.params.toList ds).all (· ≤ reachBytes) = true →
      True → W.ShapedOpen C.prog →
      HCalls C.prog f args (hpOf W) fun v h' => v = .bool true ∧ Ext none' (hpOf W) h') :
    ReturnsInHanded {} C os f .any (s.pre6 enc C.prog fn [] false) (s.post enc C.prog fn false true false false) := by
  have e := pre6_true (enc := enc) (C := C) (f := fn) (s := s)
  rw [← e]
  refine law_lift (X := fun _ => True) (fun _ _ _ h => h) own started noInit hfn ?_ hl hr hrt hb hvs hspec walk
  obtain ⟨w, tape, i, h1, h2, h3, h4, h5, h6⟩ := witness
  have h5' : s.pre enc C.prog fn [] false (w.forCall tape i).memory i.args ∧ sizedMet enc C.prog fn (OpenSpec.ofChange s) false (w.forCall tape i).memory i.args := h5
  exact ⟨w, tape, i, h1, h2, h3, h4, ⟨⟨h5'.1, trivial⟩, h5'.2⟩, h6⟩
end
end Go.Hw

/-
  The frame of the laws of a seat in which nothing is laid.
-/
set_option linter.unusedVariables false
namespace Go.Proofs.Ytabihmedfopdcaa
open Go Go.Hw
open Go.ChangeShapes Go.WideShapes Go.ChangeAt Go.RowKit

theorem own_knob : ownKnob Try.prog.godebug = none := by kernel_rfl
theorem laid_out : laidOutB Try.prog = true := by kernel_rfl
theorem follows_mixed : Try.prog.follows .mixedOrders = true := by kernel_rfl
noncomputable def laidWorld (os : Os) : World := World.holding Try.prog os ⟨#[], #[], []⟩
abbrev laidL : List (String × DataW Unit) := []
theorem laid_met (os : Os) (args : Array Value) : laidMetH Try.prog laidL ((laidWorld os).forCall (fun _ _ => 0) ⟨#[], args, []⟩).memory := by
  have h : laidMet Try.prog laidL ((laidWorld os).forCall (fun _ _ => 0) ⟨#[], args, []⟩).memory := laidMet_of_run' 8 (by kernel_rfl) (by kernel_rfl)
  exact h
end Go.Proofs.Ytabihmedfopdcaa

/-
  Ports: calls that a law is handed, opened.
-/
set_option linter.unusedSimpArgs false
set_option linter.unusedVariables false
namespace Go.Proofs.Ytabihmedfopdcaa
open Go Go.Hw
open Go.ChangeShapes Go.WideShapes Go.ChangeAt Go.RowKit

structure Opd where
  kind : Int
  n : Int
  d : Dg
  s : Sl
def opc (o : Opd) : List Value := [.int .i64 o.kind, .int .i64 o.n, .int .u32 o.d.a, .int .u32 o.d.b, .int .i64 o.d.c, .int .i64 o.d.d, o.s.v]
/-- a list of calls, as it reads -/
def OpsR (h : Hp) (s : Sl) (ops : List Opd) : Prop := s.n = ops.length ∧ ∀ i o, ops[i]? = some o → (∃ a, s.p = some a ∧ ∀ j, j < 7 → cell h (a.add (i * 7 + j)) = (opc o)[j]?) ∧ RdB h o.s o.d.data
theorem OpsR.ext {h h' : Hp} {s : Sl} {ops : List Opd} (H : OpsR h s ops) (he : Ext none' h h') : OpsR h' s ops :=
  ⟨H.1, fun i o hi => by
    obtain ⟨⟨a, hp, hc⟩, hr⟩ := H.2 i o hi
    refine ⟨⟨a, hp, fun j hj => ?_⟩, hr.ext he⟩
    have hl : (opc o).length = 7 := rfl
    have := hc j hj
    rw [List.getElem?_eq_getElem (by omega)] at this ⊢
    exact cellx he this⟩
theorem OpsR.at {h : Hp} {s : Sl} {ops : List Opd} (H : OpsR h s ops) {i : Nat} {o : Opd} (hi : ops[i]? = some o) : ∃ a, s.p = some a ∧ cell h (a.add (i * 7)) = some (.int .i64 o.kind) ∧ cell h ((a.add (i * 7)).add 1) = some (.int .i64 o.n) ∧ cell h ((a.add (i * 7)).add 2) = some (.int .u32 o.d.a) ∧
    cell h ((a.add (i * 7)).add 3) = some (.int .u32 o.d.b) ∧ cell h ((a.add (i * 7)).add 4) = some (.int .i64 o.d.c) ∧ cell h ((a.add (i * 7)).add 5) = some (.int .i64 o.d.d) ∧ cell h ((a.add (i * 7)).add 6) = some o.s.v := by
  obtain ⟨⟨a, hp, hc⟩, _⟩ := H.2 i o hi
  refine ⟨a, hp, by simpa [opc] using hc 0 (by omega), ?_, ?_, ?_, ?_, ?_, ?_⟩ <;> rw [addadd]
  · exact hc 1 (by omega)
  · exact hc 2 (by omega)
  · exact hc 3 (by omega)
  · exact hc 4 (by omega)
  · exact hc 5 (by omega)
  · exact hc 6 (by omega)

section
variable {H : Type} {enc : TypeId × Value → H}
set_option maxRecDepth 100000 in
theorem dg_one {W : World} {n : Nat} {cs : List Value} {y : DataW H × List MemPlace} (hf : DataW.trod enc Try.prog W 0 (fun _ => true) true n 39 cs = some y) :
    ∃ (d : Dg) (s : Sl), cs = [.int .u32 d.a, .int .u32 d.b, .int .i64 d.c, .int .i64 d.d, s.v] ∧ RdB (hpOf W) s d.data ∧ d.data.length ≤ Rows.uptoBulk y.1 ∧
      ((∀ m ∈ y.1.weights Try.prog 39, m ≤ reachBytes) → d.data.length ≤ 140737488351232) ∧ (-9223372036854775808 ≤ d.d ∧ d.d ≤ 9223372036854775807) := by
  have hu : Try.prog.underlying 39 = some (.struct #[.mk "SrcIp" 36 0 false "" "" 0, .mk "DstIp" 36 1 false "" "" 4, .mk "SrcPort" 3 2 false "" "" 8, .mk "DstPort" 3 3 false "" "" 16, .mk "Data" 37 4 false "" "" 24]) := by kernel_rfl
  obtain ⟨xs, m, _, hxe, hl, hxl, hx⟩ := DataW.trod_struct hu hf
  rw [show Try.prog.cellsOf 39 = 5 from by kernel_rfl] at hl
  have hxl : xs.length = 5 := hxl
  match cs, hl with
  | [u0, u1, u2, u3, u4], _ =>
    match xs, hxl with
    | [y0, y1, y2, y3, y4], _ =>
      have g0 := hx 0 _ rfl
      have g1 := hx 1 _ rfl
      have g2 := hx 2 _ rfl
      have g3 := hx 3 _ rfl
      have g4 := hx 4 _ rfl
      simp only [show Try.prog.cellsOf 36 = 1 from by kernel_rfl, show Try.prog.cellsOf 3 = 1 from by kernel_rfl, show Try.prog.cellsOf 37 = 1 from by kernel_rfl,
        List.drop_zero, List.drop_succ_cons, List.take_succ_cons, List.take_zero, List.getElem?_cons_zero, List.getElem?_cons_succ] at g0 g1 g2 g3 g4
      obtain ⟨a, e0, _, w0⟩ := DataW.trod_int (k := .u32) (by kernel_rfl) g0
      obtain ⟨b, e1, _, w1⟩ := DataW.trod_int (k := .u32) (by kernel_rfl) g1
      obtain ⟨c, e2, _, w2⟩ := DataW.trod_int (k := .i64) (by kernel_rfl) g2
      obtain ⟨d, e3, _, w3⟩ := DataW.trod_int (k := .i64) (by kernel_rfl) g3
      obtain ⟨s, data, e4, hr, hcap⟩ := bytes_core (e := 5) (by kernel_rfl) (by kernel_rfl) (by kernel_rfl) g4
      cases e0; cases e1; cases e2; cases e3; cases e4
      have hn := hr.n
      have hc := hr.c
      have wd : -9223372036854775808 ≤ d ∧ d ≤ 9223372036854775807 := by
        have h1 : (IntKind.i64.min : Int) = -9223372036854775808 := by rfl
        have h2 : (IntKind.i64.max : Int) = 9223372036854775807 := by rfl
        simp only [Lit.wf, Bool.and_eq_true, decide_eq_true_eq, h1, h2] at w3; exact w3
      refine ⟨⟨a, b, c, d, data⟩, s, rfl, hr, ?_, ?_, wd⟩
      · show data.length ≤ _
        rw [hxe]
        simp only [List.map_cons, List.map_nil, Rows.uptoBulk, Rows.uptoBulkAll]
        rcases hcap with h | ⟨el, sp, hd, hls⟩
        · omega
        · rw [hd]
          have b1 : ∀ l : List (DataW H), l.length ≤ Rows.uptoBulkAll l := by
            intro l
            induction l with
            | nil => simp [Rows.uptoBulkAll]
            | cons x r ih =>
              have hx1 : 1 ≤ Rows.uptoBulk x := by cases x with
                | lit l => cases l <;> simp [Rows.uptoBulk]
                | _ => simp [Rows.uptoBulk]
              simp only [Rows.uptoBulkAll, List.length_cons]; omega
          have c1 := b1 el
          have c2 := b1 sp
          simp only [Rows.uptoBulk]
          omega
      · intro hwt
        show data.length ≤ _
        rcases hcap with h | ⟨el, sp, hd, hls⟩
        · omega
        · rw [hxe] at hwt
          simp only [DataW.weights, hu, List.map_cons, List.map_nil, DataW.weightsEach, List.mem_append] at hwt
          have := hwt ((el.length + sp.length) * Try.prog.bytesOf 5) (by
            rw [hd]; simp only [DataW.weights, show Try.prog.underlying 37 = some (.slice 5) from by kernel_rfl]; simp)
          rw [show Try.prog.bytesOf 5 = 1 from by kernel_rfl] at this
          unfold reachBytes at this
          omega
set_option maxRecDepth 100000 in
theorem op_one {W : World} {n : Nat} {cs : List Value} {y : DataW H × List MemPlace} (hf : DataW.trod enc Try.prog W 0 (fun _ => true) true n 41 cs = some y) :
    ∃ o : Opd, cs = opc o ∧ RdB (hpOf W) o.s o.d.data ∧ o.d.data.length ≤ Rows.uptoBulk y.1 ∧ ((∀ m ∈ y.1.weights Try.prog 41, m ≤ reachBytes) → o.d.data.length ≤ 140737488351232) ∧
      (-9223372036854775808 ≤ o.n ∧ o.n ≤ 9223372036854775807) ∧ (-9223372036854775808 ≤ o.d.d ∧ o.d.d ≤ 9223372036854775807) := by
  have hu : Try.prog.underlying 41 = some (.struct #[.mk "Kind" 3 0 false "" "" 0, .mk "N" 3 1 false "" "" 8, .mk "D" 39 2 false "" "" 16]) := by kernel_rfl
  obtain ⟨xs, m, _, hxe, hl, hxl, hx⟩ := DataW.trod_struct hu hf
  rw [show Try.prog.cellsOf 41 = 7 from by kernel_rfl] at hl
  have hxl : xs.length = 3 := hxl
  match cs, hl with
  | [u0, u1, u2, u3, u4, u5, u6], _ =>
    match xs, hxl with
    | [y0, y1, y2], _ =>
      have g0 := hx 0 _ rfl
      have g1 := hx 1 _ rfl
      have g2 := hx 2 _ rfl
      simp only [show Try.prog.cellsOf 3 = 1 from by kernel_rfl, show Try.prog.cellsOf 39 = 5 from by kernel_rfl,
        List.drop_zero, List.drop_succ_cons, List.take_succ_cons, List.take_zero, List.getElem?_cons_zero, List.getElem?_cons_succ] at g0 g1 g2
      obtain ⟨a, e0, _, w0⟩ := DataW.trod_int (k := .i64) (by kernel_rfl) g0
      obtain ⟨b, e1, _, w1⟩ := DataW.trod_int (k := .i64) (by kernel_rfl) g1
      obtain ⟨d, s, e2, hr, hb, hw, hdd⟩ := dg_one g2
      cases e0; cases e1; cases e2
      have wd : -9223372036854775808 ≤ b ∧ b ≤ 9223372036854775807 := by
        have h1 : (IntKind.i64.min : Int) = -9223372036854775808 := by rfl
        have h2 : (IntKind.i64.max : Int) = 9223372036854775807 := by rfl
        simp only [Lit.wf, Bool.and_eq_true, decide_eq_true_eq, h1, h2] at w1; exact w1
      refine ⟨⟨a, b, d, s⟩, rfl, hr, ?_, ?_, wd, hdd⟩
      · rw [hxe]
        simp only [List.map_cons, List.map_nil, Rows.uptoBulk, Rows.uptoBulkAll]
        omega
      · intro hwt
        rw [hxe] at hwt
        simp only [DataW.weights, hu, List.map_cons, List.map_nil, DataW.weightsEach, List.mem_append] at hwt
        exact hw fun m hm => hwt m (.inr (.inr (.inl hm)))
set_option maxRecDepth 100000 in
/-- calls, opened -/
theorem ops_open {r : Reach} {W : World} {b0 : Nat} {v : Value} {d : DataW H} {ps : List MemPlace} (hwt : ∀ n ∈ d.weights Try.prog 29, n ≤ reachBytes) (hval : Value.okWide Try.prog W r b0 29 v) (hd : DataW.Trod enc Try.prog W 0 (fun _ => true) true 29 v d ps) :
    ∃ (s : Sl) (ops : List Opd), v = s.v ∧ OpsR (hpOf W) s ops ∧ ops.length ≤ Rows.uptoBulk d ∧ (∀ o ∈ ops, o.d.data.length ≤ Rows.uptoBulk d) ∧ ops.length ≤ 2513169434843 ∧ (∀ o ∈ ops, o.d.data.length ≤ 140737488351232) ∧
      (∀ o ∈ ops, (-9223372036854775808 ≤ o.n ∧ o.n ≤ 9223372036854775807) ∧ (-9223372036854775808 ≤ o.d.d ∧ o.d.d ≤ 9223372036854775807)) := by
  have ht : Try.prog.underlying 29 = some (.slice 41) := by kernel_rfl
  have hb7 : Try.prog.bytesOf 41 = 64 := by kernel_rfl
  obtain ⟨p, n, c, rfl⟩ := Hw.okWide_slice ht hval
  obtain ⟨fuel, hf⟩ := hd
  have hcs : (Value.slice p n c).cells.toList = [.slice p n c] := rfl
  rw [hcs] at hf
  rcases DataW.trod_slice ht hf with ⟨h0, hx⟩ | ⟨a, len, cap, elems, rest, m, _, h1, hx, _, hl, _, hlen, hel, hsp, _⟩
  · simp only [List.cons.injEq, Value.slice.injEq, and_true] at h0
    obtain ⟨rfl, rfl, rfl⟩ := h0
    exact ⟨⟨none, 0, 0⟩, [], rfl, ⟨rfl, by simp⟩, by simp, by simp, by simp, by simp, by simp⟩
  · simp only [List.cons.injEq, Value.slice.injEq, and_true] at h1
    obtain ⟨rfl, rfl, rfl⟩ := h1
    have hxd := (Prod.mk.inj hx).1
    subst hxd
    have b1 : ∀ l : List (DataW H), l.length ≤ Rows.uptoBulkAll l ∧ ∀ x ∈ l, Rows.uptoBulk x ≤ Rows.uptoBulkAll l := by
      intro l
      induction l with
      | nil => simp [Rows.uptoBulkAll]
      | cons x r ih =>
        have hx1 : 1 ≤ Rows.uptoBulk x := by cases x with
          | lit l => cases l <;> simp [Rows.uptoBulk]
          | _ => simp [Rows.uptoBulk]
        simp only [Rows.uptoBulkAll, List.length_cons]
        refine ⟨by omega, fun z hz => ?_⟩
        rcases List.mem_cons.1 hz with rfl | hz
        · omega
        · have := ih.2 z hz; omega
    have each : ∀ i ∈ List.range n, ∃ o : Opd, (∀ j, j < 7 → cell (hpOf W) (a.add (i * 7 + j)) = (opc o)[j]?) ∧ RdB (hpOf W) o.s o.d.data ∧ o.d.data.length ≤ Rows.uptoBulkAll (elems.map (·.1)) ∧ o.d.data.length ≤ 140737488351232 ∧ ((-9223372036854775808 ≤ o.n ∧ o.n ≤ 9223372036854775807) ∧ (-9223372036854775808 ≤ o.d.d ∧ o.d.d ≤ 9223372036854775807)) := by
      intro i hi
      have hi := List.mem_range.1 hi
      have h2 := hel i hi
      have hil : i < elems.length := by omega
      rw [List.getElem?_eq_getElem hil] at h2
      obtain ⟨cs, h3, h4⟩ := Option.bind_eq_some_iff.1 h2
      obtain ⟨o, rfl, hr, hb, hw, hn⟩ := op_one h4
      have hmem : elems[i].1 ∈ elems.map (·.1) := List.mem_map.2 ⟨_, List.getElem_mem hil, rfl⟩
      refine ⟨o, fun j hj => ?_, hr, Nat.le_trans hb ((b1 _).2 _ hmem), hw fun m hm => hwt m ?_, hn⟩
      · have h7 : Try.prog.cellsOf 41 = 7 := by kernel_rfl
        have := (World.cells?_some h3).2.2 j (by omega)
        rw [h7, add_add] at this
        rw [cell_hp]; exact this
      · simp only [DataW.weights, ht]
        exact List.mem_cons.2 (.inr (List.mem_append.2 (.inl (weights_mem_all hm hmem))))
    obtain ⟨ops, hol, ho⟩ := pick_all (fun (i : Nat) (o : Opd) => (∀ j, j < 7 → cell (hpOf W) (a.add (i * 7 + j)) = (opc o)[j]?) ∧ RdB (hpOf W) o.s o.d.data ∧ o.d.data.length ≤ Rows.uptoBulkAll (elems.map (·.1)) ∧ o.d.data.length ≤ 140737488351232 ∧ ((-9223372036854775808 ≤ o.n ∧ o.n ≤ 9223372036854775807) ∧ (-9223372036854775808 ≤ o.d.d ∧ o.d.d ≤ 9223372036854775807))) each
    simp only [List.length_range] at hol
    have get : ∀ i o, ops[i]? = some o → (∀ j, j < 7 → cell (hpOf W) (a.add (i * 7 + j)) = (opc o)[j]?) ∧ RdB (hpOf W) o.s o.d.data ∧ o.d.data.length ≤ Rows.uptoBulkAll (elems.map (·.1)) ∧ o.d.data.length ≤ 140737488351232 ∧ ((-9223372036854775808 ≤ o.n ∧ o.n ≤ 9223372036854775807) ∧ (-9223372036854775808 ≤ o.d.d ∧ o.d.d ≤ 9223372036854775807)) := by
      intro i o hi
      have hil : i < n := by rw [← hol]; exact (List.getElem?_eq_some_iff.1 hi).1
      obtain ⟨o', h1, h2⟩ := ho i i (by simp [hil])
      rw [hi] at h1; cases h1; exact h2
    have all : ∀ o ∈ ops, RdB (hpOf W) o.s o.d.data ∧ o.d.data.length ≤ Rows.uptoBulkAll (elems.map (·.1)) ∧ o.d.data.length ≤ 140737488351232 ∧ ((-9223372036854775808 ≤ o.n ∧ o.n ≤ 9223372036854775807) ∧ (-9223372036854775808 ≤ o.d.d ∧ o.d.d ≤ 9223372036854775807)) := by
      intro o ho
      obtain ⟨i, hi, rfl⟩ := List.getElem_of_mem ho
      exact (get i _ (List.getElem?_eq_getElem hi)).2
    have hel2 := (b1 (elems.map (·.1))).1
    rw [List.length_map] at hel2
    refine ⟨⟨some a, n, c⟩, ops, rfl, ⟨hol.symm, fun i o hi => ⟨⟨a, rfl, (get i o hi).1⟩, (get i o hi).2.1⟩⟩, ?_, ?_, ?_, fun o ho => (all o ho).2.2.1, fun o ho => (all o ho).2.2.2⟩
    · simp only [Rows.uptoBulk]; omega
    · intro o ho
      have := (all o ho).2.1
      simp only [Rows.uptoBulk]; omega
    · have := hwt ((elems.length + rest.length) * Try.prog.bytesOf 41) (by simp [DataW.weights, ht])
      rw [hb7] at this
      unfold reachBytes at this
      omega
set_option maxRecDepth 100000 in
/-- numbers that are drawn, opened -/
theorem draws_open {r : Reach} {W : World} {b0 : Nat} {v : Value} {d : DataW H} {ps : List MemPlace} (hwt : ∀ n ∈ d.weights Try.prog 28, n ≤ reachBytes) (hval : Value.okWide Try.prog W r b0 28 v) (hd : DataW.Trod enc Try.prog W 0 (fun _ => true) true 28 v d ps) :
    ∃ (s : Sl) (l : List Int), v = s.v ∧ RdU (hpOf W) s l ∧ U32s l ∧ l.length ≤ Rows.uptoBulk d ∧ l.length ≤ 35184372087808 := by
  have ht : Try.prog.underlying 28 = some (.slice 36) := by kernel_rfl
  have hb4 : Try.prog.bytesOf 36 = 4 := by kernel_rfl
  have hc1 : Try.prog.cellsOf 36 = 1 := by kernel_rfl
  obtain ⟨p, n, c, rfl⟩ := Hw.okWide_slice ht hval
  obtain ⟨fuel, hf⟩ := hd
  have hcs : (Value.slice p n c).cells.toList = [.slice p n c] := rfl
  rw [hcs] at hf
  rcases DataW.trod_slice ht hf with ⟨h0, hx⟩ | ⟨a, len, cap, elems, rest, m, _, h1, hx, _, hl, _, hlen, hel, hsp, _⟩
  · simp only [List.cons.injEq, Value.slice.injEq, and_true] at h0
    obtain ⟨rfl, rfl, rfl⟩ := h0
    refine ⟨⟨none, 0, 0⟩, [], rfl, ⟨rfl, Nat.le_refl _, ?_⟩, (by intro x hx; cases hx), by simp, by simp⟩
    intro i v hi; simp [u32s] at hi
  · simp only [List.cons.injEq, Value.slice.injEq, and_true] at h1
    obtain ⟨rfl, rfl, rfl⟩ := h1
    have hxd := (Prod.mk.inj hx).1
    subst hxd
    have each : ∀ i ∈ List.range n, ∃ x : Int, cell (hpOf W) (a.add i) = some (.int .u32 x) ∧ 0 ≤ x ∧ x < 4294967296 := by
      intro i hi
      have hi := List.mem_range.1 hi
      have h2 := hel i hi
      rw [List.getElem?_eq_getElem (by omega)] at h2
      obtain ⟨cs, h3, h4⟩ := Option.bind_eq_some_iff.1 h2
      obtain ⟨x, e, _, w⟩ := DataW.trod_int (k := .u32) (by kernel_rfl) h4
      subst e
      have := (World.cells?_some h3).2.2 0 (by rw [hc1]; omega)
      rw [hc1, add_add, Nat.mul_one, Nat.add_zero] at this
      have h1 : (IntKind.u32.min : Int) = 0 := by rfl
      have h2 : (IntKind.u32.max : Int) = 4294967295 := by rfl
      simp only [Lit.wf, Bool.and_eq_true, decide_eq_true_eq, h1, h2] at w
      exact ⟨x, by rw [cell_hp]; exact this, by omega, by omega⟩
    obtain ⟨l, hll, hl2⟩ := pick_all (fun (i : Nat) (x : Int) => cell (hpOf W) (a.add i) = some (.int .u32 x) ∧ 0 ≤ x ∧ x < 4294967296) each
    simp only [List.length_range] at hll
    have get : ∀ i x, l[i]? = some x → cell (hpOf W) (a.add i) = some (.int .u32 x) ∧ 0 ≤ x ∧ x < 4294967296 := by
      intro i x hi
      have hil : i < n := by rw [← hll]; exact (List.getElem?_eq_some_iff.1 hi).1
      obtain ⟨x', h1, h2⟩ := hl2 i i (by simp [hil])
      rw [hi] at h1; cases h1; exact h2
    refine ⟨⟨some a, n, c⟩, l, rfl, ⟨hll.symm, hl, ?_⟩, ?_, ?_, ?_⟩
    · intro i v hi
      simp only [u32s, List.getElem?_map, Option.map_eq_some_iff] at hi
      obtain ⟨x, hx, rfl⟩ := hi
      exact ⟨a, rfl, (get i x hx).1⟩
    · intro x hx
      obtain ⟨i, hi, rfl⟩ := List.getElem_of_mem hx
      exact (get i _ (List.getElem?_eq_getElem hi)).2
    · have b1 : ∀ l : List (DataW H), l.length ≤ Rows.uptoBulkAll l := by
        intro l
        induction l with
        | nil => simp [Rows.uptoBulkAll]
        | cons x r ih =>
          have hx1 : 1 ≤ Rows.uptoBulk x := by cases x with
            | lit l => cases l <;> simp [Rows.uptoBulk]
            | _ => simp [Rows.uptoBulk]
          simp only [Rows.uptoBulkAll, List.length_cons]; omega
      have := b1 (elems.map (·.1))
      rw [List.length_map] at this
      simp only [Rows.uptoBulk]; omega
    · have := hwt ((elems.length + rest.length) * Try.prog.bytesOf 36) (by simp [DataW.weights, ht])
      rw [hb4] at this
      unfold reachBytes at this
      omega
end
end Go.Proofs.Ytabihmedfopdcaa

set_option linter.unusedVariables false
set_option maxRecDepth 100000
namespace Go.Proofs.Ytabihmedfopdcaa
open Go Go.Hw
/-! ### 5 slipway/slipwaylaw13.PortQueues -/
noncomputable def B5 : Code := match Try.f5.body with | some c => c | none => .skip
def N5_j0 (x0_depth : Int) (x2_script : Sl) (x7_up : Bool) (x8_p : Option Addr) (x9_d : Option Addr) (x37 : Bool) (h : Hp) (K_normal : Hp → Prop) (K_ret : Bool → Hp → Prop) : Prop :=
  bif x37 then
    bif x7_up then
      peq h x9_d none fun b0 =>
      bif (!b0) then
        bif (decide (x0_depth < 1)) then
          K_ret true h
        else
          K_ret (decide (x0_depth > 32)) h
      else
        K_ret false h
    else
      K_ret false h
  else
    K_normal h
noncomputable def N5_j0_t : Xf := pieceT [(0, .c (.int .i64)), (2, .c (.slice)), (7, .c (.bool)), (8, .c (.ptr)), (9, .c (.ptr)), (37, .c (.bool))] (codeAt B5 [1, 1, 1, 1, 0, 1]) fun x h Q => N5_j0 x.1 x.2.1 x.2.2.1 x.2.2.2.1 x.2.2.2.2.1 x.2.2.2.2.2 h (fun h' => Q .normal (Sg.env [] ()) h') (fun o0 h' => Q .ret (Sg.env [(6, .c (.bool))] o0) h')
theorem N5_j0_ok : Sound Try.prog Try.f5.ntmps N5_j0_t (codeAt B5 [1, 1, 1, 1, 0, 1]) := by
  refine piece_sound (fun e => match e with | .normal => [] | .ret => [6] | _ => []) ?_
  intro x h Q hb
  refine den_sound hE hm _ .leaf _ _ _ (annOk_leaf) ?_
  refine cast ?_ hb
  kernel_rfl
def N5_l2_b (x0_depth : Int) (x2_script : Sl) (x8_p : Option Addr) (x9_d : Option Addr) (Φ : Int → Hp → Prop) (x10_n : Int) (h : Hp) (K_e0 : Hp → Prop) (K_ret : Bool → Hp → Prop) : Prop :=
  bif (decide (x10_n < 103)) then
    C11 x8_p x10_n h fun n0 h0 =>
    bif (n0 != 0) then
      K_ret false h0
    else
      Φ (IntKind.wrap .i64 (x10_n + 1)) h0
  else
    K_e0 h
def N5_l2_B (x0_depth : Int) (x2_script : Sl) (x8_p : Option Addr) (x9_d : Option Addr) (K_e0 : Hp → Prop) (K_ret : Bool → Hp → Prop) (s : Sg.T [(10, .c (.int .i64))]) (h : Hp) (Φ : Sg.T [(10, .c (.int .i64))] → Hp → Prop) : Prop :=
  N5_l2_b x0_depth x2_script x8_p x9_d (fun x10_n h => Φ x10_n h) s h K_e0 K_ret
def N5_l2 (x0_depth : Int) (x2_script : Sl) (x8_p : Option Addr) (x9_d : Option Addr) (x10_n : Int) (h : Hp) (K_e0 : Hp → Prop) (K_ret : Bool → Hp → Prop) : Prop :=
  loopP (N5_l2_B x0_depth x2_script x8_p x9_d K_e0 K_ret) x10_n h
noncomputable def N5_l2_t : Xf := loopT [(0, .c (.int .i64)), (2, .c (.slice)), (8, .c (.ptr)), (9, .c (.ptr))] [(10, .c (.int .i64))] (codeAt B5 [1, 1, 1, 1, 1, 0, 1, 0, 0]) fun F Q => N5_l2_B F.1 F.2.1 F.2.2.1 F.2.2.2 (fun h' => Q (.exit 0) (Sg.env [] ()) h') (fun o0 h' => Q .ret (Sg.env [(6, .c (.bool))] o0) h')
theorem N5_l2_ok : Sound Try.prog Try.f5.ntmps N5_l2_t (codeAt B5 [1, 1, 1, 1, 1, 0, 1, 0]) := by
  refine loop_sound (fun e => match e with | .exit 0 => [] | .ret => [6] | _ => []) (by kernel_rfl) ?_
  intro F Q s h Φ hb
  refine den_sound hE hm _ .leaf _ _ _ (annOk_leaf) ?_
  refine cast ?_ hb
  kernel_rfl
def N5_j6 (x0_depth : Int) (x2_script : Sl) (x8_p : Option Addr) (x9_d : Option Addr) (x12_waits : Sl) (x13_dropped : Sl) (x14_i : Int) (x16_at : Int) (x17_inside : Bool) (x18_x : Option Addr) (x19_e : Int) (x132 : Bool) (h : Hp) (K_normal : Hp → Prop) : Prop :=
  bif x132 then
    idx x16_at x12_waits.n <|
    nn x12_waits.p fun a0 =>
    xL (cell h (a0.add (x16_at.toNat * 1))) fun s0 =>
    nn x18_x fun a1 =>
    xL (cell h (a1.add 4)) fun s1 =>
    b2s h s1.p s1.n fun s2 =>
    nw h (.cells ⟨[.string s2]⟩ 9) fun b0 h0 =>
    both (xL (cell h0 (a0.add (x16_at.toNat * 1))) fun s3 => Only (.slice s0.p s0.n s0.c) h0 (.slice s3.p s3.n s3.c) h0) <|
    apK Try.prog 9 s0 (.slice (some (bk b0)) 1 1) h0 fun s4 h1 =>
    idx x16_at x12_waits.n <|
    nn x12_waits.p fun a2 =>
    st h1 (a2.add (x16_at.toNat * 1)) (.slice s4.p s4.n s4.c) fun h2 =>
    K_normal h2
  else
    K_normal h
noncomputable def N5_j6_t : Xf := pieceT [(0, .c (.int .i64)), (2, .c (.slice)), (8, .c (.ptr)), (9, .c (.ptr)), (12, .c (.slice)), (13, .c (.slice)), (14, .c (.int .i64)), (16, .c (.int .i64)), (17, .c (.bool)), (18, .c (.ptr)), (19, .c (.int .i64)), (132, .c (.bool))] (codeAt B5 [1, 1, 1, 1, 1, 1, 1, 1, 0, 1, 0, 0, 1, 0, 0, 1, 1, 1, 1, 0, 1, 1, 1, 1, 1, 0, 1, 1, 1, 1, 0, 1]) fun x h Q => N5_j6 x.1 x.2.1 x.2.2.1 x.2.2.2.1 x.2.2.2.2.1 x.2.2.2.2.2.1 x.2.2.2.2.2.2.1 x.2.2.2.2.2.2.2.1 x.2.2.2.2.2.2.2.2.1 x.2.2.2.2.2.2.2.2.2.1 x.2.2.2.2.2.2.2.2.2.2.1 x.2.2.2.2.2.2.2.2.2.2.2 h (fun h' => Q .normal (Sg.env [] ()) h')
theorem N5_j6_ok : Sound Try.prog Try.f5.ntmps N5_j6_t (codeAt B5 [1, 1, 1, 1, 1, 1, 1, 1, 0, 1, 0, 0, 1, 0, 0, 1, 1, 1, 1, 0, 1, 1, 1, 1, 1, 0, 1, 1, 1, 1, 0, 1]) := by
  refine piece_sound (fun e => match e with | .normal => [] | _ => []) ?_
  intro x h Q hb
  refine den_sound hE hm _ (.two (.ord [0, 1, 2, 3, 4, 5, 6, 7, 8, 9, 10, 11, 12]) .leaf) _ _ _ (⟨trivial, annOk_leaf⟩) ?_
  refine cast ?_ hb
  kernel_rfl
def N5_j8 (x0_depth : Int) (x2_script : Sl) (x8_p : Option Addr) (x9_d : Option Addr) (x12_waits : Sl) (x13_dropped : Sl) (x14_i : Int) (x16_at : Int) (x149 : Bool) (h : Hp) (K_normal : Hp → Prop) : Prop :=
  bif x149 then
    idx x16_at x13_dropped.n <|
    nn x13_dropped.p fun a0 =>
    xI .i64 (cell h (a0.add (x16_at.toNat * 1))) fun n0 =>
    idx x16_at x13_dropped.n <|
    nn x13_dropped.p fun a1 =>
    st h (a1.add (x16_at.toNat * 1)) (.int .i64 (IntKind.wrap .i64 (n0 + 1))) fun h0 =>
    K_normal h0
  else
    K_normal h
noncomputable def N5_j8_t : Xf := pieceT [(0, .c (.int .i64)), (2, .c (.slice)), (8, .c (.ptr)), (9, .c (.ptr)), (12, .c (.slice)), (13, .c (.slice)), (14, .c (.int .i64)), (16, .c (.int .i64)), (149, .c (.bool))] (codeAt B5 [1, 1, 1, 1, 1, 1, 1, 1, 0, 1, 0, 0, 1, 0, 0, 1, 1, 1, 1, 0, 1, 1, 1, 1, 1, 0, 1, 1, 1, 1, 1, 1]) fun x h Q => N5_j8 x.1 x.2.1 x.2.2.1 x.2.2.2.1 x.2.2.2.2.1 x.2.2.2.2.2.1 x.2.2.2.2.2.2.1 x.2.2.2.2.2.2.2.1 x.2.2.2.2.2.2.2.2 h (fun h' => Q .normal (Sg.env [] ()) h')
theorem N5_j8_ok : Sound Try.prog Try.f5.ntmps N5_j8_t (codeAt B5 [1, 1, 1, 1, 1, 1, 1, 1, 0, 1, 0, 0, 1, 0, 0, 1, 1, 1, 1, 0, 1, 1, 1, 1, 1, 0, 1, 1, 1, 1, 1, 1]) := by
  refine piece_sound (fun e => match e with | .normal => [] | _ => []) ?_
  intro x h Q hb
  refine den_sound hE hm _ .leaf _ _ _ (annOk_leaf) ?_
  refine cast ?_ hb
  kernel_rfl
def N5_j7 (x0_depth : Int) (x2_script : Sl) (x8_p : Option Addr) (x9_d : Option Addr) (x12_waits : Sl) (x13_dropped : Sl) (x14_i : Int) (x16_at : Int) (x17_inside : Bool) (x19_e : Int) (h : Hp) (K_normal : Hp → Prop) : Prop :=
  bif x17_inside then
    N5_j8 x0_depth x2_script x8_p x9_d x12_waits x13_dropped x14_i x16_at (x19_e == 3) h
      (fun h0 =>
        K_normal h0)
  else
    N5_j8 x0_depth x2_script x8_p x9_d x12_waits x13_dropped x14_i x16_at false h
      (fun h1 =>
        K_normal h1)
noncomputable def N5_j7_t : Xf := pieceT [(0, .c (.int .i64)), (2, .c (.slice)), (8, .c (.ptr)), (9, .c (.ptr)), (12, .c (.slice)), (13, .c (.slice)), (14, .c (.int .i64)), (16, .c (.int .i64)), (17, .c (.bool)), (19, .c (.int .i64))] (codeAt B5 [1, 1, 1, 1, 1, 1, 1, 1, 0, 1, 0, 0, 1, 0, 0, 1, 1, 1, 1, 0, 1, 1, 1, 1, 1, 0, 1, 1, 1, 1, 1]) fun x h Q => N5_j7 x.1 x.2.1 x.2.2.1 x.2.2.2.1 x.2.2.2.2.1 x.2.2.2.2.2.1 x.2.2.2.2.2.2.1 x.2.2.2.2.2.2.2.1 x.2.2.2.2.2.2.2.2.1 x.2.2.2.2.2.2.2.2.2 h (fun h' => Q .normal (Sg.env [] ()) h')
theorem N5_j7_ok : Sound Try.prog Try.f5.ntmps N5_j7_t (codeAt B5 [1, 1, 1, 1, 1, 1, 1, 1, 0, 1, 0, 0, 1, 0, 0, 1, 1, 1, 1, 0, 1, 1, 1, 1, 1, 0, 1, 1, 1, 1, 1]) := by
  refine piece_sound (fun e => match e with | .normal => [] | _ => []) ?_
  intro x h Q hb
  refine den_sound hE hm _ (.two .leaf (.xf N5_j8_t)) _ _ _ (⟨annOk_leaf, N5_j8_ok⟩) ?_
  refine cast ?_ hb
  kernel_rfl
def N5_j5 (x0_depth : Int) (x2_script : Sl) (x8_p : Option Addr) (x9_d : Option Addr) (x12_waits : Sl) (x13_dropped : Sl) (x14_i : Int) (x16_at : Int) (x17_inside : Bool) (x18_x : Option Addr) (x19_e : Int) (h : Hp) (K_normal : Hp → Prop) : Prop :=
  bif x17_inside then
    N5_j6 x0_depth x2_script x8_p x9_d x12_waits x13_dropped x14_i x16_at x17_inside x18_x x19_e (x19_e == 0) h
      (fun h0 =>
        N5_j7 x0_depth x2_script x8_p x9_d x12_waits x13_dropped x14_i x16_at x17_inside x19_e h0
          (fun h1 =>
            K_normal h1))
  else
    N5_j6 x0_depth x2_script x8_p x9_d x12_waits x13_dropped x14_i x16_at x17_inside x18_x x19_e false h
      (fun h2 =>
        N5_j7 x0_depth x2_script x8_p x9_d x12_waits x13_dropped x14_i x16_at x17_inside x19_e h2
          (fun h3 =>
            K_normal h3))
noncomputable def N5_j5_t : Xf := pieceT [(0, .c (.int .i64)), (2, .c (.slice)), (8, .c (.ptr)), (9, .c (.ptr)), (12, .c (.slice)), (13, .c (.slice)), (14, .c (.int .i64)), (16, .c (.int .i64)), (17, .c (.bool)), (18, .c (.ptr)), (19, .c (.int .i64))] (codeAt B5 [1, 1, 1, 1, 1, 1, 1, 1, 0, 1, 0, 0, 1, 0, 0, 1, 1, 1, 1, 0, 1, 1, 1, 1, 1, 0, 1, 1, 1, 1]) fun x h Q => N5_j5 x.1 x.2.1 x.2.2.1 x.2.2.2.1 x.2.2.2.2.1 x.2.2.2.2.2.1 x.2.2.2.2.2.2.1 x.2.2.2.2.2.2.2.1 x.2.2.2.2.2.2.2.2.1 x.2.2.2.2.2.2.2.2.2.1 x.2.2.2.2.2.2.2.2.2.2 h (fun h' => Q .normal (Sg.env [] ()) h')
theorem N5_j5_ok : Sound Try.prog Try.f5.ntmps N5_j5_t (codeAt B5 [1, 1, 1, 1, 1, 1, 1, 1, 0, 1, 0, 0, 1, 0, 0, 1, 1, 1, 1, 0, 1, 1, 1, 1, 1, 0, 1, 1, 1, 1]) := by
  refine piece_sound (fun e => match e with | .normal => [] | _ => []) ?_
  intro x h Q hb
  refine den_sound hE hm _ (.two (.two .leaf (.xf N5_j6_t)) (.xf N5_j7_t)) _ _ _ (⟨⟨annOk_leaf, N5_j6_ok⟩, N5_j7_ok⟩) ?_
  refine cast ?_ hb
  kernel_rfl
def N5_j10 (x0_depth : Int) (x2_script : Sl) (x8_p : Option Addr) (x9_d : Option Addr) (x12_waits : Sl) (x13_dropped : Sl) (x14_i : Int) (x15_o : Option Addr) (x16_at : Int) (x20_x : Option Addr) (x189 : Bool) (h : Hp) (K_normal : Hp → Prop) (K_ret : Bool → Hp → Prop) : Prop :=
  bif x189 then
    nn x20_x fun a0 =>
    xL (cell h (a0.add 4)) fun s0 =>
    b2s h s0.p s0.n fun s1 =>
    idx x16_at x12_waits.n <|
    nn x12_waits.p fun a1 =>
    xL (cell h (a1.add (x16_at.toNat * 1))) fun s2 =>
    idx 0 s2.n <|
    nn s2.p fun a2 =>
    xS (cell h (a2.add ((0 : Int).toNat * 1))) fun s3 =>
    bif (!(s1.toList == s3.toList)) then
      K_ret false h
    else
      nn x20_x fun a3 =>
      xI .i64 (cell h (a3.add 3)) fun n0 =>
      nn x15_o fun a4 =>
      xI .i64 (cell h (a4.add 1)) fun n1 =>
      bif (n0 != n1) then
        K_ret false h
      else
        idx x16_at x12_waits.n <|
        nn x12_waits.p fun a5 =>
        xL (cell h (a5.add (x16_at.toNat * 1))) fun s4 =>
        bd 1 s4.n fun k0 =>
        idx x16_at x12_waits.n <|
        nn x12_waits.p fun a6 =>
        st h (a6.add (x16_at.toNat * 1)) (.slice (sadr s4.p s4.c k0 1) (s4.n - k0) (s4.c - k0)) fun h0 =>
        K_normal h0
  else
    K_normal h
noncomputable def N5_j10_t : Xf := pieceT [(0, .c (.int .i64)), (2, .c (.slice)), (8, .c (.ptr)), (9, .c (.ptr)), (12, .c (.slice)), (13, .c (.slice)), (14, .c (.int .i64)), (15, .c (.ptr)), (16, .c (.int .i64)), (20, .c (.ptr)), (189, .c (.bool))] (codeAt B5 [1, 1, 1, 1, 1, 1, 1, 1, 0, 1, 0, 0, 1, 0, 0, 1, 1, 1, 1, 0, 1, 1, 1, 1, 1, 1, 1, 1, 1, 0, 1, 1, 1]) fun x h Q => N5_j10 x.1 x.2.1 x.2.2.1 x.2.2.2.1 x.2.2.2.2.1 x.2.2.2.2.2.1 x.2.2.2.2.2.2.1 x.2.2.2.2.2.2.2.1 x.2.2.2.2.2.2.2.2.1 x.2.2.2.2.2.2.2.2.2.1 x.2.2.2.2.2.2.2.2.2.2 h (fun h' => Q .normal (Sg.env [] ()) h') (fun o0 h' => Q .ret (Sg.env [(6, .c (.bool))] o0) h')
theorem N5_j10_ok : Sound Try.prog Try.f5.ntmps N5_j10_t (codeAt B5 [1, 1, 1, 1, 1, 1, 1, 1, 0, 1, 0, 0, 1, 0, 0, 1, 1, 1, 1, 0, 1, 1, 1, 1, 1, 1, 1, 1, 1, 0, 1, 1, 1]) := by
  refine piece_sound (fun e => match e with | .normal => [] | .ret => [6] | _ => []) ?_
  intro x h Q hb
  refine den_sound hE hm _ (.two (.two (.two (.ord [0, 1, 2, 3, 4, 5, 6, 7, 8, 9, 10, 11, 12, 13, 14, 15, 16]) .leaf) .leaf) .leaf) _ _ _ (⟨⟨⟨trivial, annOk_leaf⟩, annOk_leaf⟩, annOk_leaf⟩) ?_
  refine cast ?_ hb
  kernel_rfl
def N5_j9 (x0_depth : Int) (x2_script : Sl) (x8_p : Option Addr) (x9_d : Option Addr) (x12_waits : Sl) (x13_dropped : Sl) (x14_i : Int) (x15_o : Option Addr) (x16_at : Int) (x17_inside : Bool) (x20_x : Option Addr) (x21_ok : Bool) (h : Hp) (K_normal : Hp → Prop) (K_ret : Bool → Hp → Prop) : Prop :=
  bif x17_inside then
    N5_j10 x0_depth x2_script x8_p x9_d x12_waits x13_dropped x14_i x15_o x16_at x20_x x21_ok h
      (fun h0 =>
        K_normal h0)
      (fun b0 h1 =>
        K_ret b0 h1)
  else
    N5_j10 x0_depth x2_script x8_p x9_d x12_waits x13_dropped x14_i x15_o x16_at x20_x false h
      (fun h2 =>
        K_normal h2)
      (fun b1 h3 =>
        K_ret b1 h3)
noncomputable def N5_j9_t : Xf := pieceT [(0, .c (.int .i64)), (2, .c (.slice)), (8, .c (.ptr)), (9, .c (.ptr)), (12, .c (.slice)), (13, .c (.slice)), (14, .c (.int .i64)), (15, .c (.ptr)), (16, .c (.int .i64)), (17, .c (.bool)), (20, .c (.ptr)), (21, .c (.bool))] (codeAt B5 [1, 1, 1, 1, 1, 1, 1, 1, 0, 1, 0, 0, 1, 0, 0, 1, 1, 1, 1, 0, 1, 1, 1, 1, 1, 1, 1, 1, 1, 0, 1, 1]) fun x h Q => N5_j9 x.1 x.2.1 x.2.2.1 x.2.2.2.1 x.2.2.2.2.1 x.2.2.2.2.2.1 x.2.2.2.2.2.2.1 x.2.2.2.2.2.2.2.1 x.2.2.2.2.2.2.2.2.1 x.2.2.2.2.2.2.2.2.2.1 x.2.2.2.2.2.2.2.2.2.2.1 x.2.2.2.2.2.2.2.2.2.2.2 h (fun h' => Q .normal (Sg.env [] ()) h') (fun o0 h' => Q .ret (Sg.env [(6, .c (.bool))] o0) h')
theorem N5_j9_ok : Sound Try.prog Try.f5.ntmps N5_j9_t (codeAt B5 [1, 1, 1, 1, 1, 1, 1, 1, 0, 1, 0, 0, 1, 0, 0, 1, 1, 1, 1, 0, 1, 1, 1, 1, 1, 1, 1, 1, 1, 0, 1, 1]) := by
  refine piece_sound (fun e => match e with | .normal => [] | .ret => [6] | _ => []) ?_
  intro x h Q hb
  refine den_sound hE hm _ (.two .leaf (.xf N5_j10_t)) _ _ _ (⟨annOk_leaf, N5_j10_ok⟩) ?_
  refine cast ?_ hb
  kernel_rfl
def N5_j4 (x0_depth : Int) (x2_script : Sl) (x8_p : Option Addr) (x9_d : Option Addr) (x12_waits : Sl) (x13_dropped : Sl) (x14_i : Int) (x15_o : Option Addr) (x16_at : Int) (x17_inside : Bool) (h : Hp) (K_normal : Hp → Prop) (K_ret : Bool → Hp → Prop) : Prop :=
  nn x15_o fun a0 =>
  xI .i64 (cell h a0) fun n0 =>
  bif (n0 == 2) then
    C12 x8_p x9_d h fun n1 n2 h0 =>
    K_normal h0
  else
    bif (n0 == 1) then
      nn x15_o fun a1 =>
      xI .i64 (cell h (a1.add 1)) fun n3 =>
      C11 x8_p n3 h fun n4 h1 =>
      K_normal h1
    else
      bif (n0 == 4) then
        nn x15_o fun a2 =>
        xI .u32 (cell h (a2.add 2)) fun n5 =>
        xI .u32 (cell h (a2.add 3)) fun n6 =>
        xI .i64 (cell h (a2.add 4)) fun n7 =>
        xI .i64 (cell h (a2.add 5)) fun n8 =>
        xL (cell h (a2.add 6)) fun s0 =>
        nw h (.cells ⟨[.int .u32 0, .int .u32 0, .int .i64 0, .int .i64 0, .slice none 0 0]⟩ 39) fun b0 h2 =>
        st h2 (bk b0) (.int .u32 n5) fun h3 =>
        st h3 ((bk b0).add 1) (.int .u32 n6) fun h4 =>
        st h4 ((bk b0).add 2) (.int .i64 n7) fun h5 =>
        st h5 ((bk b0).add 3) (.int .i64 n8) fun h6 =>
        st h6 ((bk b0).add 4) (.slice s0.p s0.n s0.c) fun h7 =>
        nn x15_o fun a3 =>
        xI .i64 (cell h7 (a3.add 1)) fun n9 =>
        st h7 ((bk b0).add 3) (.int .i64 n9) fun h8 =>
        xI .u32 (cell h8 (bk b0)) fun n10 =>
        xI .u32 (cell h8 ((bk b0).add 1)) fun n11 =>
        xI .i64 (cell h8 ((bk b0).add 2)) fun n12 =>
        xI .i64 (cell h8 ((bk b0).add 3)) fun n13 =>
        xL (cell h8 ((bk b0).add 4)) fun s1 =>
        C13 x8_p n10 n11 n12 n13 s1 h8 fun n14 h9 =>
        bif x17_inside then
          idx x16_at x12_waits.n <|
          nn x12_waits.p fun a4 =>
          xL (cell h9 (a4.add (x16_at.toNat * 1))) fun s2 =>
          bif (!((n14 == 0) == (decide (((s2.n : Nat) : Int) < x0_depth)))) then
            K_ret false h9
          else
            bif x17_inside then
              bif (n14 != 0) then
                bif (n14 != 3) then
                  K_ret false h9
                else
                  N5_j5 x0_depth x2_script x8_p x9_d x12_waits x13_dropped x14_i x16_at x17_inside (some (bk b0)) n14 h9
                    (fun h10 =>
                      K_normal h10)
              else
                N5_j5 x0_depth x2_script x8_p x9_d x12_waits x13_dropped x14_i x16_at x17_inside (some (bk b0)) n14 h9
                  (fun h11 =>
                    K_normal h11)
            else
              N5_j5 x0_depth x2_script x8_p x9_d x12_waits x13_dropped x14_i x16_at x17_inside (some (bk b0)) n14 h9
                (fun h12 =>
                  K_normal h12)
        else
          bif x17_inside then
            bif (n14 != 0) then
              bif (n14 != 3) then
                K_ret false h9
              else
                N5_j5 x0_depth x2_script x8_p x9_d x12_waits x13_dropped x14_i x16_at x17_inside (some (bk b0)) n14 h9
                  (fun h13 =>
                    K_normal h13)
            else
              N5_j5 x0_depth x2_script x8_p x9_d x12_waits x13_dropped x14_i x16_at x17_inside (some (bk b0)) n14 h9
                (fun h14 =>
                  K_normal h14)
          else
            N5_j5 x0_depth x2_script x8_p x9_d x12_waits x13_dropped x14_i x16_at x17_inside (some (bk b0)) n14 h9
              (fun h15 =>
                K_normal h15)
      else
        bif (n0 == 3) then
          bif (!x17_inside) then
            nn x15_o fun a5 =>
            xI .i64 (cell h (a5.add 1)) fun n15 =>
            C14 x8_p n15 h fun b1 h16 =>
            K_normal h16
          else
            K_normal h
        else
          bif (n0 == 5) then
            nn x15_o fun a6 =>
            xI .i64 (cell h (a6.add 1)) fun n16 =>
            C15 x8_p n16 h fun n17 n18 n19 n20 s3 b2 h17 =>
            nw h17 (.cells ⟨[.int .u32 0, .int .u32 0, .int .i64 0, .int .i64 0, .slice none 0 0]⟩ 39) fun b3 h18 =>
            st h18 (bk b3) (.int .u32 n17) fun h19 =>
            st h19 ((bk b3).add 1) (.int .u32 n18) fun h20 =>
            st h20 ((bk b3).add 2) (.int .i64 n19) fun h21 =>
            st h21 ((bk b3).add 3) (.int .i64 n20) fun h22 =>
            st h22 ((bk b3).add 4) (.slice s3.p s3.n s3.c) fun h23 =>
            bif x17_inside then
              idx x16_at x12_waits.n <|
              nn x12_waits.p fun a7 =>
              xL (cell h23 (a7.add (x16_at.toNat * 1))) fun s4 =>
              bif (!(b2 == (decide (((s4.n : Nat) : Int) > 0)))) then
                K_ret false h23
              else
                N5_j9 x0_depth x2_script x8_p x9_d x12_waits x13_dropped x14_i x15_o x16_at x17_inside (some (bk b3)) b2 h23
                  (fun h24 =>
                    K_normal h24)
                  (fun b4 h25 =>
                    K_ret b4 h25)
            else
              N5_j9 x0_depth x2_script x8_p x9_d x12_waits x13_dropped x14_i x15_o x16_at x17_inside (some (bk b3)) b2 h23
                (fun h26 =>
                  K_normal h26)
                (fun b5 h27 =>
                  K_ret b5 h27)
          else
            K_normal h
noncomputable def N5_j4_t : Xf := pieceT [(0, .c (.int .i64)), (2, .c (.slice)), (8, .c (.ptr)), (9, .c (.ptr)), (12, .c (.slice)), (13, .c (.slice)), (14, .c (.int .i64)), (15, .c (.ptr)), (16, .c (.int .i64)), (17, .c (.bool))] (codeAt B5 [1, 1, 1, 1, 1, 1, 1, 1, 0, 1, 0, 0, 1, 0, 0, 1, 1, 1]) fun x h Q => N5_j4 x.1 x.2.1 x.2.2.1 x.2.2.2.1 x.2.2.2.2.1 x.2.2.2.2.2.1 x.2.2.2.2.2.2.1 x.2.2.2.2.2.2.2.1 x.2.2.2.2.2.2.2.2.1 x.2.2.2.2.2.2.2.2.2 h (fun h' => Q .normal (Sg.env [] ()) h') (fun o0 h' => Q .ret (Sg.env [(6, .c (.bool))] o0) h')
theorem N5_j4_ok : Sound Try.prog Try.f5.ntmps N5_j4_t (codeAt B5 [1, 1, 1, 1, 1, 1, 1, 1, 0, 1, 0, 0, 1, 0, 0, 1, 1, 1]) := by
  refine piece_sound (fun e => match e with | .normal => [] | .ret => [6] | _ => []) ?_
  intro x h Q hb
  refine den_sound hE hm _ (.two .leaf (.one (.two .leaf (.two .leaf (.two .leaf (.two .leaf (.two .leaf (.two (.two .leaf (.two .leaf (.two .leaf (.two .leaf (.xf N5_j5_t))))) (.two .leaf (.two .leaf (.two .leaf (.two (.two .leaf (.two .leaf (.xf N5_j9_t))) .leaf)))))))))))) _ _ _ (⟨annOk_leaf, ⟨annOk_leaf, ⟨annOk_leaf, ⟨annOk_leaf, ⟨annOk_leaf, ⟨annOk_leaf, ⟨⟨annOk_leaf, ⟨annOk_leaf, ⟨annOk_leaf, ⟨annOk_leaf, N5_j5_ok⟩⟩⟩⟩, ⟨annOk_leaf, ⟨annOk_leaf, ⟨annOk_leaf, ⟨⟨annOk_leaf, ⟨annOk_leaf, N5_j9_ok⟩⟩, annOk_leaf⟩⟩⟩⟩⟩⟩⟩⟩⟩⟩⟩) ?_
  refine cast ?_ hb
  kernel_rfl
def N5_l3_b (x0_depth : Int) (x2_script : Sl) (x8_p : Option Addr) (x9_d : Option Addr) (x12_waits : Sl) (x13_dropped : Sl) (Φ : Int → Hp → Prop) (x14_i : Int) (h : Hp) (K_e2 : Hp → Prop) (K_ret : Bool → Hp → Prop) : Prop :=
  bif (decide (x14_i < ((x2_script.n : Nat) : Int))) then
    idx x14_i x2_script.n <|
    nn x2_script.p fun a0 =>
    xI .i64 (cell h (a0.add (x14_i.toNat * 7))) fun n0 =>
    xI .i64 (cell h ((a0.add (x14_i.toNat * 7)).add 1)) fun n1 =>
    xI .u32 (cell h ((a0.add (x14_i.toNat * 7)).add 2)) fun n2 =>
    xI .u32 (cell h ((a0.add (x14_i.toNat * 7)).add 3)) fun n3 =>
    xI .i64 (cell h ((a0.add (x14_i.toNat * 7)).add 4)) fun n4 =>
    xI .i64 (cell h ((a0.add (x14_i.toNat * 7)).add 5)) fun n5 =>
    xL (cell h ((a0.add (x14_i.toNat * 7)).add 6)) fun s0 =>
    nw h (.cells ⟨[.int .i64 0, .int .i64 0, .int .u32 0, .int .u32 0, .int .i64 0, .int .i64 0, .slice none 0 0]⟩ 41) fun b0 h0 =>
    st h0 (bk b0) (.int .i64 n0) fun h1 =>
    st h1 ((bk b0).add 1) (.int .i64 n1) fun h2 =>
    st h2 ((bk b0).add 2) (.int .u32 n2) fun h3 =>
    st h3 ((bk b0).add 3) (.int .u32 n3) fun h4 =>
    st h4 ((bk b0).add 4) (.int .i64 n4) fun h5 =>
    st h5 ((bk b0).add 5) (.int .i64 n5) fun h6 =>
    st h6 ((bk b0).add 6) (.slice s0.p s0.n s0.c) fun h7 =>
    xI .i64 (cell h7 ((bk b0).add 1)) fun n6 =>
    bif (decide ((IntKind.wrap .i64 (n6 - 100)) ≥ 0)) then
      N5_j4 x0_depth x2_script x8_p x9_d x12_waits x13_dropped x14_i (some (bk b0)) (IntKind.wrap .i64 (n6 - 100)) (decide ((IntKind.wrap .i64 (n6 - 100)) < 3)) h7
        (fun h8 =>
          Φ (IntKind.wrap .i64 (x14_i + 1)) h8)
        (fun b1 h9 =>
          K_ret b1 h9)
    else
      N5_j4 x0_depth x2_script x8_p x9_d x12_waits x13_dropped x14_i (some (bk b0)) (IntKind.wrap .i64 (n6 - 100)) false h7
        (fun h10 =>
          Φ (IntKind.wrap .i64 (x14_i + 1)) h10)
        (fun b2 h11 =>
          K_ret b2 h11)
  else
    K_e2 h
def N5_l3_B (x0_depth : Int) (x2_script : Sl) (x8_p : Option Addr) (x9_d : Option Addr) (x12_waits : Sl) (x13_dropped : Sl) (K_e2 : Hp → Prop) (K_ret : Bool → Hp → Prop) (s : Sg.T [(14, .c (.int .i64))]) (h : Hp) (Φ : Sg.T [(14, .c (.int .i64))] → Hp → Prop) : Prop :=
  N5_l3_b x0_depth x2_script x8_p x9_d x12_waits x13_dropped (fun x14_i h => Φ x14_i h) s h K_e2 K_ret
def N5_l3 (x0_depth : Int) (x2_script : Sl) (x8_p : Option Addr) (x9_d : Option Addr) (x12_waits : Sl) (x13_dropped : Sl) (x14_i : Int) (h : Hp) (K_e2 : Hp → Prop) (K_ret : Bool → Hp → Prop) : Prop :=
  loopP (N5_l3_B x0_depth x2_script x8_p x9_d x12_waits x13_dropped K_e2 K_ret) x14_i h
noncomputable def N5_l3_t : Xf := loopT [(0, .c (.int .i64)), (2, .c (.slice)), (8, .c (.ptr)), (9, .c (.ptr)), (12, .c (.slice)), (13, .c (.slice))] [(14, .c (.int .i64))] (codeAt B5 [1, 1, 1, 1, 1, 1, 1, 1, 0, 1, 0, 0]) fun F Q => N5_l3_B F.1 F.2.1 F.2.2.1 F.2.2.2.1 F.2.2.2.2.1 F.2.2.2.2.2 (fun h' => Q (.exit 2) (Sg.env [] ()) h') (fun o0 h' => Q .ret (Sg.env [(6, .c (.bool))] o0) h')
theorem N5_l3_ok : Sound Try.prog Try.f5.ntmps N5_l3_t (codeAt B5 [1, 1, 1, 1, 1, 1, 1, 1, 0, 1, 0]) := by
  refine loop_sound (fun e => match e with | .exit 2 => [] | .ret => [6] | _ => []) (by kernel_rfl) ?_
  intro F Q s h Φ hb
  refine den_sound hE hm _ (.two .leaf (.two (.one (.two .leaf (.two .leaf (.two .leaf (.xf N5_j4_t))))) .leaf)) _ _ _ (⟨annOk_leaf, ⟨⟨annOk_leaf, ⟨annOk_leaf, ⟨annOk_leaf, N5_j4_ok⟩⟩⟩, annOk_leaf⟩⟩) ?_
  refine cast ?_ hb
  kernel_rfl
def N5_j1 (x0_depth : Int) (x2_script : Sl) (x8_p : Option Addr) (x9_d : Option Addr) (h : Hp) (K_ret : Bool → Hp → Prop) : Prop :=
  N5_l2 x0_depth x2_script x8_p x9_d 100 h
    (fun h0 =>
      mkK Try.prog 45 3 3 h0 fun s0 h1 =>
      mkK Try.prog 3 3 3 h1 fun s1 h2 =>
      N5_l3 x0_depth x2_script x8_p x9_d s0 s1 0 h2
        (fun h3 =>
          C9 x8_p h3 fun s2 h4 =>
          C16 s2 s0 s1 h4 fun b0 h5 =>
          K_ret b0 h5)
        (fun b1 h6 =>
          K_ret b1 h6))
    (fun b2 h7 =>
      K_ret b2 h7)
noncomputable def N5_j1_t : Xf := pieceT [(0, .c (.int .i64)), (2, .c (.slice)), (8, .c (.ptr)), (9, .c (.ptr))] (codeAt B5 [1, 1, 1, 1, 1]) fun x h Q => N5_j1 x.1 x.2.1 x.2.2.1 x.2.2.2 h (fun o0 h' => Q .ret (Sg.env [(6, .c (.bool))] o0) h')
theorem N5_j1_ok : Sound Try.prog Try.f5.ntmps N5_j1_t (codeAt B5 [1, 1, 1, 1, 1]) := by
  refine piece_sound (fun e => match e with | .ret => [6] | _ => []) ?_
  intro x h Q hb
  refine den_sound hE hm _ (.two (.two .leaf (.one (.xf N5_l2_t))) (.two .leaf (.two .leaf (.two (.two .leaf (.one (.xf N5_l3_t))) .leaf)))) _ _ _ (⟨⟨annOk_leaf, N5_l2_ok⟩, ⟨annOk_leaf, ⟨annOk_leaf, ⟨⟨annOk_leaf, N5_l3_ok⟩, annOk_leaf⟩⟩⟩⟩) ?_
  refine cast ?_ hb
  kernel_rfl
def N5 (x0 : Int) (x1 : Sl) (x2 : Sl) (h : Hp) (K : Bool → Hp → Prop) : Prop :=
  C7 h fun b0 h0 =>
  C8 8 x0 h0 fun p0 h1 =>
  C10 x1 h1 fun p1 h2 =>
  bif (!b0) then
    N5_j0 x0 x2 b0 p0 p1 true h2
      (fun h3 =>
        N5_j1 x0 x2 p0 p1 h3
          (fun b1 h4 =>
            K b1 h4))
      (fun b2 h5 =>
        K b2 h5)
  else
    peq h2 p0 none fun b3 =>
    bif b3 then
      N5_j0 x0 x2 b0 p0 p1 true h2
        (fun h6 =>
          N5_j1 x0 x2 p0 p1 h6
            (fun b4 h7 =>
              K b4 h7))
        (fun b5 h8 =>
          K b5 h8)
    else
      peq h2 p1 none fun b6 =>
      N5_j0 x0 x2 b0 p0 p1 b6 h2
        (fun h9 =>
          N5_j1 x0 x2 p0 p1 h9
            (fun b7 h10 =>
              K b7 h10))
        (fun b8 h11 =>
          K b8 h11)
theorem S5 {x0 : Int} {x1 : Sl} {x2 : Sl} {h : Hp} {K : Bool → Hp → Prop} (hn : N5 x0 x1 x2 h K) : C5 x0 x1 x2 h K := by
  refine calls_of_D Try.func5 (c := B5) rfl (by kernel_rfl) ?_
  refine den_sound hE hm _ (.two .leaf (.two .leaf (.two .leaf (.two .leaf (.two (.two .leaf (.xf N5_j0_t)) (.xf N5_j1_t)))))) _ _ _ (⟨annOk_leaf, ⟨annOk_leaf, ⟨annOk_leaf, ⟨annOk_leaf, ⟨⟨annOk_leaf, N5_j0_ok⟩, N5_j1_ok⟩⟩⟩⟩⟩) ?_
  refine cast ?_ hn
  kernel_rfl
end Go.Proofs.Ytabihmedfopdcaa

set_option linter.unusedVariables false
set_option maxRecDepth 100000
namespace Go.Proofs.Ytabihmedfopdcaa
open Go Go.Hw
/-! ### 16 slipway/slipwaylaw13.looked -/
noncomputable def B16 : Code := match Try.f16.body with | some c => c | none => .skip
def N16_j2 (x0_l : Sl) (x1_waits : Sl) (x2_dropped : Sl) (x7_n : Int) (x8_i : Int) (x9_at : Int) (x43 : Bool) (h : Hp) (K_normal : Int → Hp → Prop) (K_ret : Bool → Hp → Prop) : Prop :=
  bif x43 then
    idx x8_i x0_l.n <|
    nn x0_l.p fun a0 =>
    xI .i64 (cell h ((a0.add (x8_i.toNat * 3)).add 1)) fun n0 =>
    idx x9_at x1_waits.n <|
    nn x1_waits.p fun a1 =>
    xL (cell h (a1.add (x9_at.toNat * 1))) fun s0 =>
    bif (n0 != ((s0.n : Nat) : Int)) then
      K_ret false h
    else
      idx x8_i x0_l.n <|
      nn x0_l.p fun a2 =>
      xI .i64 (cell h ((a2.add (x8_i.toNat * 3)).add 2)) fun n1 =>
      idx x9_at x2_dropped.n <|
      nn x2_dropped.p fun a3 =>
      xI .i64 (cell h (a3.add (x9_at.toNat * 1))) fun n2 =>
      bif (n1 != n2) then
        K_ret false h
      else
        K_normal (IntKind.wrap .i64 (x7_n + 1)) h
  else
    K_normal x7_n h
noncomputable def N16_j2_t : Xf := pieceT [(0, .c (.slice)), (1, .c (.slice)), (2, .c (.slice)), (7, .c (.int .i64)), (8, .c (.int .i64)), (9, .c (.int .i64)), (43, .c (.bool))] (codeAt B16 [1, 1, 0, 1, 0, 0, 1, 0, 0, 1, 1, 1]) fun x h Q => N16_j2 x.1 x.2.1 x.2.2.1 x.2.2.2.1 x.2.2.2.2.1 x.2.2.2.2.2.1 x.2.2.2.2.2.2 h (fun o0 h' => Q .normal (Sg.env [(7, .c (.int .i64))] o0) h') (fun o0 h' => Q .ret (Sg.env [(6, .c (.bool))] o0) h')
theorem N16_j2_ok : Sound Try.prog Try.f16.ntmps N16_j2_t (codeAt B16 [1, 1, 0, 1, 0, 0, 1, 0, 0, 1, 1, 1]) := by
  refine piece_sound (fun e => match e with | .normal => [7] | .ret => [6] | _ => []) ?_
  intro x h Q hb
  refine den_sound hE hm _ (.two (.two .leaf (.two (.ord [0, 1, 2, 3, 4, 5, 6, 7, 8, 9, 10, 11, 12, 13, 14, 15, 16, 17, 18, 19, 20, 21, 22]) .leaf)) .leaf) _ _ _ (⟨⟨annOk_leaf, ⟨trivial, annOk_leaf⟩⟩, annOk_leaf⟩) ?_
  refine cast ?_ hb
  kernel_rfl
def N16_j1 (x0_l : Sl) (x1_waits : Sl) (x2_dropped : Sl) (x7_n : Int) (x8_i : Int) (x9_at : Int) (h : Hp) (K_normal : Int → Hp → Prop) (K_ret : Bool → Hp → Prop) : Prop :=
  bif (decide (x9_at ≥ 0)) then
    N16_j2 x0_l x1_waits x2_dropped x7_n x8_i x9_at (decide (x9_at < 3)) h
      (fun n0 h0 =>
        K_normal n0 h0)
      (fun b0 h1 =>
        K_ret b0 h1)
  else
    N16_j2 x0_l x1_waits x2_dropped x7_n x8_i x9_at false h
      (fun n1 h2 =>
        K_normal n1 h2)
      (fun b1 h3 =>
        K_ret b1 h3)
noncomputable def N16_j1_t : Xf := pieceT [(0, .c (.slice)), (1, .c (.slice)), (2, .c (.slice)), (7, .c (.int .i64)), (8, .c (.int .i64)), (9, .c (.int .i64))] (codeAt B16 [1, 1, 0, 1, 0, 0, 1, 0, 0, 1, 1]) fun x h Q => N16_j1 x.1 x.2.1 x.2.2.1 x.2.2.2.1 x.2.2.2.2.1 x.2.2.2.2.2 h (fun o0 h' => Q .normal (Sg.env [(7, .c (.int .i64))] o0) h') (fun o0 h' => Q .ret (Sg.env [(6, .c (.bool))] o0) h')
theorem N16_j1_ok : Sound Try.prog Try.f16.ntmps N16_j1_t (codeAt B16 [1, 1, 0, 1, 0, 0, 1, 0, 0, 1, 1]) := by
  refine piece_sound (fun e => match e with | .normal => [7] | .ret => [6] | _ => []) ?_
  intro x h Q hb
  refine den_sound hE hm _ (.two .leaf (.xf N16_j2_t)) _ _ _ (⟨annOk_leaf, N16_j2_ok⟩) ?_
  refine cast ?_ hb
  kernel_rfl
def N16_l0_b (x0_l : Sl) (x1_waits : Sl) (x2_dropped : Sl) (Φ : Int → Int → Hp → Prop) (x7_n : Int) (x8_i : Int) (h : Hp) (K_e0 : Int → Hp → Prop) (K_ret : Bool → Hp → Prop) : Prop :=
  bif (decide (x8_i < ((x0_l.n : Nat) : Int))) then
    idx x8_i x0_l.n <|
    nn x0_l.p fun a0 =>
    xI .i64 (cell h (a0.add (x8_i.toNat * 3))) fun n0 =>
    bif (decide (x8_i > 0)) then
      idx x8_i x0_l.n <|
      nn x0_l.p fun a1 =>
      xI .i64 (cell h (a1.add (x8_i.toNat * 3))) fun n1 =>
      idx (IntKind.wrap .i64 (x8_i - 1)) x0_l.n <|
      nn x0_l.p fun a2 =>
      xI .i64 (cell h (a2.add ((IntKind.wrap .i64 (x8_i - 1)).toNat * 3))) fun n2 =>
      bif (decide (n1 ≤ n2)) then
        K_ret false h
      else
        N16_j1 x0_l x1_waits x2_dropped x7_n x8_i (IntKind.wrap .i64 (n0 - 100)) h
          (fun n3 h0 =>
            Φ n3 (IntKind.wrap .i64 (x8_i + 1)) h0)
          (fun b0 h1 =>
            K_ret b0 h1)
    else
      N16_j1 x0_l x1_waits x2_dropped x7_n x8_i (IntKind.wrap .i64 (n0 - 100)) h
        (fun n4 h2 =>
          Φ n4 (IntKind.wrap .i64 (x8_i + 1)) h2)
        (fun b1 h3 =>
          K_ret b1 h3)
  else
    K_e0 x7_n h
def N16_l0_B (x0_l : Sl) (x1_waits : Sl) (x2_dropped : Sl) (K_e0 : Int → Hp → Prop) (K_ret : Bool → Hp → Prop) (s : Sg.T [(7, .c (.int .i64)), (8, .c (.int .i64))]) (h : Hp) (Φ : Sg.T [(7, .c (.int .i64)), (8, .c (.int .i64))] → Hp → Prop) : Prop :=
  N16_l0_b x0_l x1_waits x2_dropped (fun x7_n x8_i h => Φ (x7_n, x8_i) h) s.1 s.2 h K_e0 K_ret
def N16_l0 (x0_l : Sl) (x1_waits : Sl) (x2_dropped : Sl) (x7_n : Int) (x8_i : Int) (h : Hp) (K_e0 : Int → Hp → Prop) (K_ret : Bool → Hp → Prop) : Prop :=
  loopP (N16_l0_B x0_l x1_waits x2_dropped K_e0 K_ret) (x7_n, x8_i) h
noncomputable def N16_l0_t : Xf := loopT [(0, .c (.slice)), (1, .c (.slice)), (2, .c (.slice))] [(7, .c (.int .i64)), (8, .c (.int .i64))] (codeAt B16 [1, 1, 0, 1, 0, 0]) fun F Q => N16_l0_B F.1 F.2.1 F.2.2 (fun o0 h' => Q (.exit 0) (Sg.env [(7, .c (.int .i64))] o0) h') (fun o0 h' => Q .ret (Sg.env [(6, .c (.bool))] o0) h')
theorem N16_l0_ok : Sound Try.prog Try.f16.ntmps N16_l0_t (codeAt B16 [1, 1, 0, 1, 0]) := by
  refine loop_sound (fun e => match e with | .exit 0 => [7] | .ret => [6] | _ => []) (by kernel_rfl) ?_
  intro F Q s h Φ hb
  refine den_sound hE hm _ (.two .leaf (.two (.one (.two .leaf (.two (.two (.ord [0, 1, 2, 3, 4, 5, 6, 7, 8, 9, 10, 11, 12, 13, 14, 15]) .leaf) (.xf N16_j1_t)))) .leaf)) _ _ _ (⟨annOk_leaf, ⟨⟨annOk_leaf, ⟨⟨trivial, annOk_leaf⟩, N16_j1_ok⟩⟩, annOk_leaf⟩⟩) ?_
  refine cast ?_ hb
  kernel_rfl
def N16 (x0 : Sl) (x1 : Sl) (x2 : Sl) (h : Hp) (K : Bool → Hp → Prop) : Prop :=
  N16_l0 x0 x1 x2 0 0 h
    (fun n0 h0 =>
      bif (n0 == 3) then
        K (decide (((x0.n : Nat) : Int) ≤ 8)) h0
      else
        K false h0)
    (fun b0 h1 =>
      K b0 h1)
theorem S16 {x0 : Sl} {x1 : Sl} {x2 : Sl} {h : Hp} {K : Bool → Hp → Prop} (hn : N16 x0 x1 x2 h K) : C16 x0 x1 x2 h K := by
  refine calls_of_D Try.func16 (c := B16) rfl (by kernel_rfl) ?_
  refine den_sound hE hm _ (.two .leaf (.two .leaf (.two (.two .leaf (.one (.xf N16_l0_t))) .leaf))) _ _ _ (⟨annOk_leaf, ⟨annOk_leaf, ⟨⟨annOk_leaf, N16_l0_ok⟩, annOk_leaf⟩⟩⟩) ?_
  refine cast ?_ hn
  kernel_rfl
end Go.Proofs.Ytabihmedfopdcaa

/-
  Ports: the queues, mirrored.
-/
set_option linter.unusedSimpArgs false
set_option linter.unusedVariables false
namespace Go.Proofs.Ytabihmedfopdcaa
open Go Go.Hw
open Go.ChangeShapes Go.WideShapes Go.ChangeAt Go.RowKit

/-! ### the law's own queues -/
abbrev Wl := Sl × List (List UInt8)
def strs (W : List (List UInt8)) : List Value := W.map fun l => .string ⟨⟨l⟩⟩
theorem strs_len (W : List (List UInt8)) : (strs W).length = W.length := List.length_map ..
def wtA (e : Wl) : Asn := tailA 9 1 e.1 (strs e.2)
def wsv (E : List Wl) : List Value := E.map fun e => e.1.v
def ints (D : List Int) : List Value := D.map fun n => .int .i64 n
theorem wsv_at {E : List Wl} {j : Nat} {e : Wl} (h : E[j]? = some e) : (wsv E)[j]? = some e.1.v := by unfold wsv; rw [List.getElem?_map, h]; rfl
theorem ints_at {D : List Int} {j : Nat} {n : Int} (h : D[j]? = some n) : (ints D)[j]? = some (.int .i64 n) := by unfold ints; rw [List.getElem?_map, h]; rfl
theorem wsv_set {E : List Wl} {j : Nat} {e : Wl} : (wsv E).set j e.1.v = wsv (E.set j e) := by unfold wsv; rw [List.map_set]
theorem ints_set {D : List Int} {j : Nat} {n : Int} : (ints D).set j (.int .i64 n) = ints (D.set j n) := by unfold ints; rw [List.map_set]
theorem wt_set {E : List Wl} {j : Nat} {e : Wl} : (E.map wtA).set j (wtA e) = (E.set j e).map wtA := by rw [List.map_set]
abbrev stq (b k : Nat) (sw sd : Sl) (t : Tb) (l : List Int) (E : List Wl) (D : List Int) : List Asn := [portsA b t, diceA 88 k l, Hw.own 45 1 sw (wsv E), Hw.own 3 1 sd (ints D), star (E.map wtA)]

/-! ### what is mirrored -/
structure Mir (t : Tb) (E : List Wl) (D : List Int) : Prop where
  e : E.length = 3
  d : D.length = 3
  q : ∀ j : Nat, j < 3 → ∃ p z, findP (100 + j) t.ps = some p ∧ E[j]? = some (z, p.l.map Dg.data) ∧ D[j]? = some p.dr
structure QOk (t : Tb) : Prop where
  d : ∀ p ∈ t.ps, ∀ d ∈ p.l, d.d = p.n
  len : (t.ps.length : Int) ≤ t.most
theorem findP_add {m n : Int} {ps : List PS} (hn : NodN ps) (hf : findP n ps = none) (h : m ≠ n) : findP m (addP n ps) = findP m ps := by
  rw [findP_perm (addP_perm n ps) (List.pairwise_cons.2 ⟨fun p hp e => findP_none hf p hp e.symm, hn⟩)]
  unfold findP
  rw [List.find?_cons_of_neg (by simpa [newP] using fun e => h e.symm)]
theorem findP_del {m n : Int} {ps : List PS} (h : m ≠ n) : findP m (delP n ps) = findP m ps := by
  unfold findP delP
  induction ps with
  | nil => rfl
  | cons p ps ih =>
    by_cases e : p.n = n
    · rw [List.filter_cons_of_neg (by simp [e]), List.find?_cons_of_neg (by simpa [e] using fun x => h x.symm)]; exact ih
    · rw [List.filter_cons_of_pos (by simp [e])]
      by_cases e2 : p.n = m
      · rw [List.find?_cons_of_pos (by simp [e2]), List.find?_cons_of_pos (by simp [e2])]
      · rw [List.find?_cons_of_neg (by simp [e2]), List.find?_cons_of_neg (by simp [e2])]; exact ih
theorem findP_upd {m n : Int} {f : PS → PS} (hf : ∀ p, (f p).n = p.n) {ps : List PS} : findP m (updP n f ps) = (findP m ps).map fun p => if p.n = n then f p else p := by
  unfold findP updP
  induction ps with
  | nil => rfl
  | cons p ps ih =>
    rw [List.map_cons]
    have e1 : (if p.n = n then f p else p).n = p.n := by split <;> simp [hf]
    by_cases e2 : p.n = m
    · rw [List.find?_cons_of_pos (by rw [e1]; simp [e2]), List.find?_cons_of_pos (by simp [e2])]; rfl
    · rw [List.find?_cons_of_neg (by rw [e1]; simp [e2]), List.find?_cons_of_neg (by simp [e2])]; exact ih
theorem Mir.keep {t t' : Tb} {E : List Wl} {D : List Int} (h : Mir t E D) (hf : ∀ j : Nat, j < 3 → findP (100 + j) t'.ps = findP (100 + j) t.ps) : Mir t' E D :=
  ⟨h.e, h.d, fun j hj => by rw [hf j hj]; exact h.q j hj⟩
theorem Mir.upd {t : Tb} {E : List Wl} {D : List Int} {j : Nat} {p : PS} {f : PS → PS} {z : Sl} (h : Mir t E D) (hj : j < 3) (hf : ∀ p, (f p).n = p.n) (hp : findP (100 + j) t.ps = some p) :
    Mir { t with ps := updP (100 + j) f t.ps } (E.set j (z, (f p).l.map Dg.data)) (D.set j (f p).dr) := by
  refine ⟨by rw [List.length_set]; exact h.e, by rw [List.length_set]; exact h.d, fun i hi => ?_⟩
  have he := h.e
  have hd := h.d
  by_cases e : i = j
  · subst e
    refine ⟨f p, z, ?_, ?_, ?_⟩
    · show findP (100 + i) (updP (100 + i) f t.ps) = _
      rw [findP_upd hf, hp]
      have := (findP_some hp).2
      simp [this]
    · rw [List.getElem?_set_self (by omega)]
    · rw [List.getElem?_set_self (by omega)]
  · obtain ⟨q, z', h1, h2, h3⟩ := h.q i hi
    refine ⟨q, z', ?_, ?_, ?_⟩
    · show findP (100 + i) (updP (100 + j) f t.ps) = _
      rw [findP_upd hf, h1]
      have := (findP_some h1).2
      have e2 : ¬ q.n = 100 + (j : Int) := by omega
      simp [e2]
    · rw [List.getElem?_set_ne (by omega)]; exact h2
    · rw [List.getElem?_set_ne (by omega)]; exact h3
theorem Mir.out {t : Tb} {E : List Wl} {D : List Int} {n : Int} {f : PS → PS} (h : Mir t E D) (hf : ∀ p, (f p).n = p.n) (hn : ∀ j : Nat, j < 3 → n ≠ 100 + j) : Mir { t with ps := updP n f t.ps } E D :=
  h.keep fun j hj => by
    show findP (100 + j) (updP n f t.ps) = _
    rw [findP_upd hf]
    cases h1 : findP (100 + j) t.ps with
    | none => rfl
    | some q =>
      have := (findP_some h1).2
      have := hn j hj
      have e2 : ¬ q.n = n := by omega
      simp [e2]
theorem Mir.open' {t : Tb} {E : List Wl} {D : List Int} {M : Nat} {n : Int} (h : Mir t E D) (ho : Ok M t) : Mir (openT t n).2 E D := by
  unfold openT
  split
  · exact h
  · cases hf : findP n t.ps with
    | some p => exact h
    | none =>
      simp only [Option.isSome_none, Bool.false_eq_true, if_false]
      split
      · exact h
      · refine h.keep fun j hj => ?_
        refine findP_add ho.nod hf ?_
        intro e
        obtain ⟨p, z, h1, _⟩ := h.q j hj
        rw [e, hf] at h1; cases h1
theorem addP_len (n : Int) (ps : List PS) : (addP n ps).length = ps.length + 1 := (addP_perm n ps).length_eq
theorem QOk.add {t : Tb} {n : Int} (h : QOk t) (hl : ¬ t.most ≤ (t.ps.length : Int)) : QOk { t with ps := addP n t.ps } := by
  refine ⟨fun p hp d hd => ?_, by show ((addP n t.ps).length : Int) ≤ t.most; rw [addP_len]; omega⟩
  rcases addP_mem hp with rfl | hp
  · cases hd
  · exact h.d p hp d hd
theorem QOk.open' {t : Tb} {n : Int} (h : QOk t) : QOk (openT t n).2 := by
  unfold openT
  split
  · exact h
  · split
    · exact h
    · split
      · exact h
      · exact h.add (by assumption)
theorem QOk.close' {t : Tb} {n : Int} (h : QOk t) : QOk (closeT t n).2 :=
  ⟨fun p hp => h.d p (List.mem_filter.1 hp).1, by
    have h1 : (delP n t.ps).length ≤ t.ps.length := List.length_filter_le ..
    have := h.len
    show ((delP n t.ps).length : Int) ≤ t.most
    omega⟩
theorem QOk.upd {t : Tb} {n : Int} {f : PS → PS} (h : QOk t) (hf : ∀ p ∈ t.ps, p.n = n → (∀ d ∈ p.l, d.d = p.n) → (f p).n = p.n ∧ ∀ d ∈ (f p).l, d.d = p.n) : QOk { t with ps := updP n f t.ps } := by
  refine ⟨fun q hq d hd => ?_, by show ((updP n f t.ps).length : Int) ≤ t.most; unfold updP; rw [List.length_map]; exact h.len⟩
  obtain ⟨p, hp, rfl⟩ := List.mem_map.1 hq
  by_cases e : p.n = n
  · simp only [if_pos e] at hd ⊢
    obtain ⟨h1, h2⟩ := hf p hp e (h.d p hp)
    rw [h1]; exact h2 d hd
  · simp only [if_neg e] at hd ⊢
    exact h.d p hp d hd
theorem QOk.put' {t : Tb} {d : Dg} (h : QOk t) : QOk (putT t d).2 := by
  unfold putT
  split
  · exact h
  · split
    · exact h.upd fun p hp _ hd => ⟨rfl, hd⟩
    · refine h.upd fun p hp e hd => ⟨rfl, fun x hx => ?_⟩
      rcases List.mem_append.1 hx with h1 | h1
      · exact hd x h1
      · rw [List.mem_singleton.1 h1]; exact e.symm
theorem QOk.take' {t : Tb} {n : Int} (h : QOk t) : QOk (takeT t n).2 := by
  unfold takeT
  split
  · exact h
  · split
    · exact h
    · exact h.upd fun p hp _ hd => ⟨rfl, fun x hx => hd x (List.mem_of_mem_tail hx)⟩

/-! ### pieces of the step -/
theorem wt_n {L M : List Asn} {h : Hp} {z : Sl} {W : List (List UInt8)} (hs : Sat (L ++ M) h) (j : Nat) (hj : M[j]? = some (wtA (z, W))) : z.n = W.length := by
  have this : (strs W).length = z.n * 1 := (hs.tail j hj).1
  rw [strs_len] at this
  omega
theorem star_n {L : List Asn} {h : Hp} {E : List Wl} {j : Nat} {z : Sl} {W : List (List UInt8)} (hs : Sat (L ++ [star (E.map wtA)]) h) (he : E[j]? = some (z, W)) : z.n = W.length :=
  wt_n (hs.out j (A := wtA (z, W)) (by rw [List.getElem?_map, he]; rfl)) 1 rfl
theorem own_n {L M : List Asn} {h : Hp} {T : TypeId} {s : Sl} {vs : List Value} (hs : Sat (L ++ M) h) (j : Nat) (hj : M[j]? = some (Hw.own T 1 s vs)) : s.n = vs.length := by
  have := (hs.own j hj).1; omega

theorem q_push {L : List Asn} {sw sd s so : Sl} {E : List Wl} {D : List Int} {j bx : Nat} {z : Sl} {W : List (List UInt8)} {data : List UInt8} {depth i : Int} {p d : Option Addr} {h : Hp} {K : Hp → Prop} {c0 c1 c2 c3 : Value}
    (hs : Sat (L ++ [row bx 39 [c0, c1, c2, c3, s.v], Hw.own 45 1 sw (wsv E), Hw.own 3 1 sd (ints D), star (E.map wtA)]) h) (hj : j < 3) (hE : E.length = 3) (he : E[j]? = some (z, W)) (hr : RdB h s data) (hW : W.length ≤ 1000000)
    (hK : ∀ z' h', Sat (L ++ [Hw.own 45 1 sw (wsv (E.set j (z', W ++ [data]))), Hw.own 3 1 sd (ints D), star ((E.set j (z', W ++ [data])).map wtA)]) h' → K h') :
    N5_j5 depth so p d sw sd i (j : Int) true (some (bk bx)) 0 h K := by
  have hn : sw.n = 3 := by have := own_n hs 1 rfl; unfold wsv at this; rw [List.length_map] at this; omega
  have zn : z.n = W.length := star_n (Sat.csa (A := [_, _, _]) hs) he
  unfold N5_j5
  rw [cond_true, show ((0 : Int) == 0) = true from rfl]
  unfold N5_j6
  rw [cond_true]
  refine idx_of (by omega) (by omega) ?_
  obtain ⟨q, hq, hc⟩ := hs.cel 1 rfl (wsv_at he)
  rw [hq]
  simp only [nn_some', Int.toNat_natCast, Nat.mul_one, add_bk]
  refine xL_of (s := z) hc ?_
  refine hs.lL 0 rfl rfl ?_
  refine hr.b2s ?_
  intro b0 e0
  have hs1 := hs.ext (Ext.new (o := .cells ⟨[.string ⟨⟨data⟩⟩]⟩ 9 (0, 0)) e0)
  have hb : Blk (upd h b0 (.cells ⟨[.string ⟨⟨data⟩⟩]⟩ 9 (0, 0))) b0 9 [.string ⟨⟨data⟩⟩] := Blk.upd_same
  revert hs1 hb
  generalize upd h b0 _ = h1
  intro hs1 hb
  obtain ⟨q', hq', hc1⟩ := hs1.cel 1 rfl (wsv_at he)
  rw [hq] at hq'; cases hq'
  refine ⟨xL_of (s := z) hc1 ⟨rfl, rfl⟩, ?_⟩
  have hs2 : Sat (L ++ [row bx 39 [c0, c1, c2, c3, s.v], Hw.own 45 1 sw (wsv E), Hw.own 3 1 sd (ints D), star ((E.map wtA).eraseIdx j), wtA (z, W)]) h1 := Sat.asc ((Sat.csa (A := [_, _, _]) hs1).out j (by rw [List.getElem?_map, he]; rfl))
  refine hs2.apT 4 rfl (n := 1) (ns := strs [data]) (by kernel_rfl) (by kernel_rfl) (fun _ => rfl) ?_ rfl (by simp [strs, plain]) (by rw [show Try.prog.bytesOf 9 = 16 by kernel_rfl]; show (z.n + 1) * 2 * 16 ≤ _; omega) ?_
  · intro G hG
    unfold srcK
    simp only []
    rw [rdN_blk hb _ _ (by simp)]
    exact hG
  · intro z' h3 hs3 _
    have hs3 : Sat (L ++ [row bx 39 [c0, c1, c2, c3, s.v], Hw.own 45 1 sw (wsv E), Hw.own 3 1 sd (ints D), star ((E.map wtA).eraseIdx j), wtA (z', W ++ [data])]) h3 := by
      have e : strs W ++ strs [data] = strs (W ++ [data]) := by simp [strs]
      have hs3 : Sat (L ++ [row bx 39 [c0, c1, c2, c3, s.v], Hw.own 45 1 sw (wsv E), Hw.own 3 1 sd (ints D), star ((E.map wtA).eraseIdx j), tailA 9 1 z' (strs W ++ strs [data])]) h3 := hs3
      rw [e] at hs3; exact hs3
    refine idx_of (by omega) (by omega) ?_
    rw [← add_bk (b := q) (n := j)]
    refine hs3.stO 1 rfl (by unfold wsv; rw [List.length_map]; omega) rfl hq ?_
    intro h4 hs4
    have hs4 : Sat (L ++ [row bx 39 [c0, c1, c2, c3, s.v], Hw.own 45 1 sw ((wsv E).set j (z', W ++ [data]).1.v), Hw.own 3 1 sd (ints D), star ((E.map wtA).eraseIdx j), wtA (z', W ++ [data])]) h4 := hs4
    rw [wsv_set] at hs4
    have hs5 := (Sat.csa (A := [_, _, _]) hs4).inn j (by rw [List.length_map]; omega)
    rw [wt_set] at hs5
    unfold N5_j7 N5_j8
    rw [cond_true, show ((0 : Int) == 3) = false from rfl, cond_false]
    exact hK z' h4 ((Sat.asc hs5).sel [1, 2, 3] (by decide) rfl)

theorem q_drop {L : List Asn} {sw sd so : Sl} {D : List Int} {j : Nat} {depth i dr : Int} {p d x : Option Addr} {h : Hp} {K : Hp → Prop}
    (hs : Sat (L ++ [Hw.own 3 1 sd (ints D)]) h) (hj : j < 3) (hD : D.length = 3) (he : D[j]? = some dr) (h0 : 0 ≤ dr) (h1 : dr ≤ 1000000000000000000)
    (hK : ∀ h', Sat (L ++ [Hw.own 3 1 sd (ints (D.set j (dr + 1)))]) h' → K h') :
    N5_j5 depth so p d sw sd i (j : Int) true x 3 h K := by
  have hn : sd.n = 3 := by have := own_n hs 0 rfl; unfold ints at this; rw [List.length_map] at this; omega
  unfold N5_j5
  rw [cond_true, show ((3 : Int) == 0) = false from rfl]
  unfold N5_j6
  rw [cond_false]
  unfold N5_j7
  simp only [cond_true, show ((3 : Int) == 3) = true from rfl]
  unfold N5_j8
  rw [cond_true]
  refine idx_of (by omega) (by omega) ?_
  obtain ⟨q, hq, hc⟩ := hs.cel 0 rfl (ints_at he)
  rw [hq]
  simp only [nn_some', Int.toNat_natCast, Nat.mul_one, add_bk]
  refine xI_of hc ?_
  refine idx_of (by omega) (by omega) ?_
  rw [wrap64 (by omega) (by omega), ← add_bk (b := q) (n := j)]
  refine hs.stO 0 rfl (by unfold ints; rw [List.length_map]; omega) rfl hq ?_
  intro h4 hs4
  have hs4 : Sat (L ++ [Hw.own 3 1 sd ((ints D).set j (.int .i64 (dr + 1)))]) h4 := hs4
  rw [ints_set] at hs4
  exact hK h4 hs4
theorem q_none {sw sd so : Sl} {depth i a e : Int} {p d x : Option Addr} {h : Hp} {K : Hp → Prop} (hK : K h) : N5_j5 depth so p d sw sd i a false x e h K := by
  unfold N5_j5
  rw [cond_false]
  unfold N5_j6
  rw [cond_false]
  unfold N5_j7
  simp only [cond_false]
  unfold N5_j8
  simp only [cond_false]
  exact hK

/-- the first one, taken -/
theorem q_pop {L : List Asn} {sw sd s so : Sl} {E : List Wl} {D : List Int} {j bx bo : Nat} {z : Sl} {W : List (List UInt8)} {data : List UInt8} {depth i n : Int} {p d : Option Addr} {h : Hp} {K : Hp → Prop} {Kr : Bool → Hp → Prop} {c0 c1 c2 o0 o2 o3 o4 o5 o6 : Value}
    (hs : Sat (L ++ [row bx 39 [c0, c1, c2, .int .i64 n, s.v], row bo 41 [o0, .int .i64 n, o2, o3, o4, o5, o6], Hw.own 45 1 sw (wsv E), Hw.own 3 1 sd (ints D), star (E.map wtA)]) h) (hj : j < 3) (hE : E.length = 3) (he : E[j]? = some (z, data :: W)) (hr : RdB h s data)
    (hK : ∀ z' h', Sat (L ++ [Hw.own 45 1 sw (wsv (E.set j (z', W))), Hw.own 3 1 sd (ints D), star ((E.set j (z', W)).map wtA)]) h' → K h') :
    N5_j9 depth so p d sw sd i (some (bk bo)) (j : Int) true (some (bk bx)) true h K Kr := by
  have hn : sw.n = 3 := by have := own_n hs 2 rfl; unfold wsv at this; rw [List.length_map] at this; omega
  have zn : z.n = W.length + 1 := star_n (Sat.csa (A := [_, _, _, _]) hs) he
  unfold N5_j9
  rw [cond_true]
  unfold N5_j10
  rw [cond_true]
  simp only [nn_some', add_bk]
  refine hs.lL 0 rfl rfl ?_
  refine hr.b2s ?_
  refine idx_of (by omega) (by omega) ?_
  obtain ⟨q, hq, hc⟩ := hs.cel 2 rfl (wsv_at he)
  rw [hq]
  simp only [nn_some', Int.toNat_natCast, Nat.mul_one, add_bk]
  refine xL_of (s := z) hc ?_
  have hs2 : Sat (L ++ [row bx 39 [c0, c1, c2, .int .i64 n, s.v], row bo 41 [o0, .int .i64 n, o2, o3, o4, o5, o6], Hw.own 45 1 sw (wsv E), Hw.own 3 1 sd (ints D), star ((E.map wtA).eraseIdx j), wtA (z, data :: W)]) h := Sat.asc ((Sat.csa (A := [_, _, _, _]) hs).out j (by rw [List.getElem?_map, he]; rfl))
  refine idx_of (by omega) (by omega) ?_
  obtain ⟨a, ha, k0⟩ := (hs2.tail 5 rfl).get (k := 0) (v := .string ⟨⟨data⟩⟩) rfl
  have ha : z.p = some a := ha
  rw [ha]
  simp only [nn_some', Int.toNat_zero]
  refine xS_of k0 ?_
  simp only [beq_self_eq_true, Bool.not_true, cond_false]
  refine hs.lI 0 rfl rfl ?_
  refine hs.lI 1 rfl rfl ?_
  simp only [bne_self_eq_false, cond_false]
  refine idx_of (by omega) (by omega) ?_
  refine xL_of (s := z) hc ?_
  refine bd_nat (i := 1) (show 1 ≤ z.n by omega) ?_
  refine idx_of (by omega) (by omega) ?_
  have hs3 := hs2.cutT 5 rfl (k := 1) (show 1 ≤ z.n by omega) (by decide)
  have hs3 : Sat (L ++ [row bx 39 [c0, c1, c2, .int .i64 n, s.v], row bo 41 [o0, .int .i64 n, o2, o3, o4, o5, o6], Hw.own 45 1 sw (wsv E), Hw.own 3 1 sd (ints D), star ((E.map wtA).eraseIdx j), wtA (⟨sadr z.p z.c 1 1, z.n - 1, z.c - 1⟩, W)]) h := hs3
  rw [← add_bk (b := q) (n := j)]
  refine hs3.stO 2 rfl (by unfold wsv; rw [List.length_map]; omega) rfl hq ?_
  intro h4 hs4
  have hs4 : Sat (L ++ [row bx 39 [c0, c1, c2, .int .i64 n, s.v], row bo 41 [o0, .int .i64 n, o2, o3, o4, o5, o6], Hw.own 45 1 sw ((wsv E).set j ((⟨sadr z.p z.c 1 1, z.n - 1, z.c - 1⟩, W) : Wl).1.v), Hw.own 3 1 sd (ints D), star ((E.map wtA).eraseIdx j), wtA (⟨sadr z.p z.c 1 1, z.n - 1, z.c - 1⟩, W)]) h4 := hs4
  rw [wsv_set] at hs4
  have hs5 := (Sat.csa (A := [_, _, _, _]) hs4).inn j (by rw [List.length_map]; omega)
  rw [wt_set] at hs5
  exact hK _ h4 ((Sat.asc hs5).sel [2, 3, 4] (by decide) rfl)
theorem q_nopop {sw sd so : Sl} {depth i a : Int} {p d o x : Option Addr} {inside ok : Bool} {h : Hp} {K : Hp → Prop} {Kr : Bool → Hp → Prop} (hno : inside = true → ok = false) (hK : K h) : N5_j9 depth so p d sw sd i o a inside x ok h K Kr := by
  unfold N5_j9
  cases inside with
  | true =>
    rw [hno rfl, cond_true]
    unfold N5_j10
    rw [cond_false]; exact hK
  | false =>
    rw [cond_false]
    unfold N5_j10
    rw [cond_false]; exact hK
end Go.Proofs.Ytabihmedfopdcaa

/-
  Ports: the walk of PortQueues.
-/
set_option linter.unusedSimpArgs false
set_option linter.unusedVariables false
namespace Go.Proofs.Ytabihmedfopdcaa
open Go Go.Hw
open Go.ChangeShapes Go.WideShapes Go.ChangeAt Go.RowKit

theorem openT_d (t : Tb) (n : Int) : (openT t n).2.depth = t.depth ∧ (openT t n).2.most = t.most := by
  unfold openT; split
  · exact ⟨rfl, rfl⟩
  · split
    · exact ⟨rfl, rfl⟩
    · split <;> exact ⟨rfl, rfl⟩
theorem putT_d (t : Tb) (d : Dg) : (putT t d).2.depth = t.depth ∧ (putT t d).2.most = t.most := by
  unfold putT; split
  · exact ⟨rfl, rfl⟩
  · split <;> exact ⟨rfl, rfl⟩
theorem takeT_d (t : Tb) (n : Int) : (takeT t n).2.depth = t.depth ∧ (takeT t n).2.most = t.most := by
  unfold takeT; split
  · exact ⟨rfl, rfl⟩
  · split <;> exact ⟨rfl, rfl⟩
theorem set_same {α : Type} {l : List α} {j : Nat} {x : α} (h : l[j]? = some x) : l.set j x = l := by
  apply List.ext_getElem?
  intro i
  by_cases e : j = i
  · subst e; rw [List.getElem?_set_self (List.getElem?_eq_some_iff.1 h).1, h]
  · rw [List.getElem?_set_ne e]
theorem Mir.put_out {t : Tb} {E : List Wl} {D : List Int} {d : Dg} (h : Mir t E D) (hn : ∀ j : Nat, j < 3 → d.d ≠ 100 + j) : Mir (putT t d).2 E D := by
  unfold putT; split
  · exact h
  · split <;> exact h.out (fun _ => rfl) hn
theorem Mir.take_out {t : Tb} {E : List Wl} {D : List Int} {n : Int} (h : Mir t E D) (hn : ∀ j : Nat, j < 3 → n ≠ 100 + j) : Mir (takeT t n).2 E D := by
  unfold takeT; split
  · exact h
  · split
    · exact h
    · exact h.out (fun _ => rfl) hn

set_option maxHeartbeats 1000000 in
theorem q_step {L : List Asn} {b k bo M : Nat} {sw sd so : Sl} {t : Tb} {l : List Int} {E : List Wl} {D : List Int} {o : Opd} {depth i at' : Int} {inside : Bool} {h : Hp} {K : Hp → Prop} {Kr : Bool → Hp → Prop}
    (hs : Sat (L ++ [row bo 41 (opc o), portsA b t, diceA 88 k l, Hw.own 45 1 sw (wsv E), Hw.own 3 1 sd (ints D), star (E.map wtA)]) h) (ho : Ok M t) (hM : M ≤ 100000000000000000) (hq : QOk t) (hu : U32s l) (hm : Mir t E D) (hd : t.depth = depth)
    (hr : ∀ h', Sat L h' → RdB h' o.s o.d.data) (hl : o.d.data.length ≤ 140737488351232)
    (hat : (inside = true ∧ ∃ j : Nat, j < 3 ∧ at' = j ∧ o.n = 100 + j) ∨ (inside = false ∧ ∀ j : Nat, j < 3 → o.n ≠ 100 + j))
    (hK : ∀ h' t' l' E' D', Sat (L ++ stq b k sw sd t' l' E' D') h' → Ok (M + 1) t' → QOk t' → U32s l' → Mir t' E' D' → t'.depth = t.depth → t'.most = t.most → K h') :
    N5_j4 depth so (some (bk b)) (some (bk k)) sw sd i (some (bk bo)) at' inside h K Kr := by
  have same : ∀ hh, Sat (L ++ stq b k sw sd t l E D) hh → K hh := fun hh g => hK hh t l E D g (ho.mono (by omega)) hq hu hm rfl rfl
  have wn : sw.n = 3 := by have := own_n hs 3 rfl; unfold wsv at this; rw [List.length_map, hm.e] at this; omega
  unfold N5_j4
  simp only [nn_some', add_bk]
  refine hs.lI 0 rfl rfl ?_
  by_cases k2 : o.kind = 2
  · rw [show (o.kind == 2) = true by simp [k2], cond_true]
    have g : Sat ((L ++ [row bo 41 (opc o), Hw.own 45 1 sw (wsv E), Hw.own 3 1 sd (ints D), star (E.map wtA)]) ++ [portsA b t, diceA 88 k l]) h := Sat.csa (hs.sel [0, 3, 4, 5, 1, 2] (by decide) rfl)
    refine p_pick g ho.nod hu ?_ ?_
    · intro _
      exact same h (hs.sel [1, 2, 3, 4, 5] (by decide) rfl)
    · intro hl2
      obtain ⟨y, hy⟩ := pick_exists ho.len (portD l)
      obtain ⟨hf, y1, y2⟩ := hy.free
      refine ⟨y, hy, fun h' hs' => ?_⟩
      refine hK h' { t with ps := addP y t.ps } l.tail E D ((Sat.asc hs').sel [4, 5, 1, 2, 3] (by decide) rfl) ((ho.add (by omega) y2 hf hl2).mono (by omega)) (hq.add hl2) hu.tail ?_ rfl rfl
      refine hm.keep fun j hj => findP_add ho.nod hf ?_
      omega
  rw [show (o.kind == 2) = false by simp [k2], cond_false]
  by_cases k1 : o.kind = 1
  · rw [show (o.kind == 1) = true by simp [k1], cond_true]
    refine hs.lI 0 rfl rfl ?_
    have g : Sat ((L ++ [row bo 41 (opc o), diceA 88 k l, Hw.own 45 1 sw (wsv E), Hw.own 3 1 sd (ints D), star (E.map wtA)]) ++ [portsA b t]) h := Sat.csa (hs.sel [0, 2, 3, 4, 5, 1] (by decide) rfl)
    refine p_open g ho.nod fun h' hs' => ?_
    exact hK h' _ l E D ((Sat.asc hs').sel [5, 1, 2, 3, 4] (by decide) rfl) (ho.open'.mono (by omega)) hq.open' hu (hm.open' ho) (openT_d t o.n).1 (openT_d t o.n).2
  rw [show (o.kind == 1) = false by simp [k1], cond_false]
  by_cases k4 : o.kind = 4
  · rw [show (o.kind == 4) = true by simp [k4], cond_true]
    refine hs.lI 0 rfl rfl ?_
    refine hs.lI 0 rfl rfl ?_
    refine hs.lI 0 rfl rfl ?_
    refine hs.lI 0 rfl rfl ?_
    refine hs.lL 0 rfl rfl ?_
    intro bx e0
    have hs := hs.new e0 (.cells ⟨[.int .u32 0, .int .u32 0, .int .i64 0, .int .i64 0, .slice none 0 0]⟩ 39 (0, 0))
    revert hs
    generalize upd h bx _ = h2
    intro hs
    have hs : Sat (L ++ [row bo 41 (opc o), portsA b t, diceA 88 k l, Hw.own 45 1 sw (wsv E), Hw.own 3 1 sd (ints D), star (E.map wtA), row bx 39 [.int .u32 0, .int .u32 0, .int .i64 0, .int .i64 0, .slice none 0 0]]) h2 := hs
    refine hs.st 6 rfl (by simp) rfl ?_
    intro _ hs
    refine hs.st 6 rfl (by simp) rfl ?_
    intro _ hs
    refine hs.st 6 rfl (by simp) rfl ?_
    intro _ hs
    refine hs.st 6 rfl (by simp) rfl ?_
    intro _ hs
    refine hs.st 6 rfl (by simp) rfl ?_
    intro _ hs
    refine hs.lI 0 rfl rfl ?_
    refine hs.st 6 rfl (by simp) rfl ?_
    intro h8 hs
    have hs : Sat (L ++ [row bo 41 (opc o), portsA b t, diceA 88 k l, Hw.own 45 1 sw (wsv E), Hw.own 3 1 sd (ints D), star (E.map wtA), row bx 39 [.int .u32 o.d.a, .int .u32 o.d.b, .int .i64 o.d.c, .int .i64 o.n, o.s.v]]) h8 := hs
    refine hs.lI 6 rfl rfl ?_
    refine hs.lI 6 rfl rfl ?_
    refine hs.lI 6 rfl rfl ?_
    refine hs.lI 6 rfl rfl ?_
    refine hs.lL 6 rfl rfl ?_
    have g : Sat ((L ++ [row bo 41 (opc o), diceA 88 k l, Hw.own 45 1 sw (wsv E), Hw.own 3 1 sd (ints D), star (E.map wtA), row bx 39 [.int .u32 o.d.a, .int .u32 o.d.b, .int .i64 o.d.c, .int .i64 o.n, o.s.v]]) ++ [portsA b t]) h8 := Sat.csa (hs.sel [0, 2, 3, 4, 5, 6, 1] (by decide) rfl)
    refine p_put (d := ⟨o.d.a, o.d.b, o.d.c, o.n, o.d.data⟩) (s := o.s) g ho (by omega) (hr _ hs.left) (show o.d.data.length ≤ _ by omega) fun h9 hs9 => ?_
    have g9 : Sat (L ++ [row bo 41 (opc o), diceA 88 k l, Hw.own 45 1 sw (wsv E), Hw.own 3 1 sd (ints D), star (E.map wtA), row bx 39 [.int .u32 o.d.a, .int .u32 o.d.b, .int .i64 o.d.c, .int .i64 o.n, o.s.v], portsA b (putT t ⟨o.d.a, o.d.b, o.d.c, o.n, o.d.data⟩).2]) h9 := Sat.asc hs9
    have ok' : Ok (M + 1) (putT t ⟨o.d.a, o.d.b, o.d.c, o.n, o.d.data⟩).2 := ho.put'
    have qok' : QOk (putT t ⟨o.d.a, o.d.b, o.d.c, o.n, o.d.data⟩).2 := hq.put'
    have dm := putT_d t ⟨o.d.a, o.d.b, o.d.c, o.n, o.d.data⟩
    rcases hat with ⟨rfl, j, hj, rfl, hn⟩ | ⟨rfl, hn⟩
    · simp only [cond_true]
      obtain ⟨p, z, h1, h2', h3⟩ := hm.q j hj
      have zn : z.n = p.l.length := by rw [star_n ((Sat.csa (A := [_, _, _, _, _]) (g9.sel [0, 1, 2, 3, 5, 4] (by decide) rfl))) h2', List.length_map]
      obtain ⟨q1, q2, q3⟩ := ho.q p (findP_some h1).1
      refine idx_of (by omega) (by omega) ?_
      simp only [Int.toNat_natCast, Nat.mul_one]
      refine g9.oL 2 rfl (wsv_at h2') ?_
      rw [← hn] at h1
      by_cases hfull : t.depth ≤ (p.l.length : Int)
      · have e : putT t ⟨o.d.a, o.d.b, o.d.c, o.n, o.d.data⟩ = (3, { t with ps := updP o.n (fun p => { p with dr := p.dr + 1 }) t.ps }) := by
          unfold putT; simp only []; rw [h1]; simp [hfull]
        rw [e] at g9 ok' qok' ⊢
        have e1 : decide (((z.n : Nat) : Int) < depth) = false := by rw [zn, ← hd]; simpa using hfull
        simp only []
        rw [e1]
        simp only [show ((3 : Int) == 0) = false from rfl, show ((3 : Int) != 0) = true from rfl, show ((3 : Int) != 3) = false from rfl, beq_self_eq_true, Bool.not_true, cond_false, cond_true]
        have g10 : Sat ((L ++ [row bo 41 (opc o), diceA 88 k l, Hw.own 45 1 sw (wsv E), star (E.map wtA), row bx 39 [.int .u32 o.d.a, .int .u32 o.d.b, .int .i64 o.d.c, .int .i64 o.n, o.s.v], portsA b { t with ps := updP o.n (fun p => { p with dr := p.dr + 1 }) t.ps }]) ++ [Hw.own 3 1 sd (ints D)]) h9 := Sat.csa (g9.sel [0, 1, 2, 4, 5, 6, 3] (by decide) rfl)
        refine q_drop g10 hj hm.d h3 q2 (by omega) fun h' hs' => ?_
        refine hK h' { t with ps := updP o.n (fun p => { p with dr := p.dr + 1 }) t.ps } l E (D.set j (p.dr + 1)) ((Sat.asc hs').sel [5, 1, 2, 6, 3] (by decide) rfl) ok' qok' hu ?_ rfl rfl
        have := hm.upd (z := z) (f := fun p => { p with dr := p.dr + 1 }) hj (fun _ => rfl) (by rw [← hn]; exact h1)
        rw [set_same h2', ← hn] at this
        exact this
      · have e : putT t ⟨o.d.a, o.d.b, o.d.c, o.n, o.d.data⟩ = (0, { t with ps := updP o.n (fun p => { p with l := p.l ++ [⟨o.d.a, o.d.b, o.d.c, o.n, o.d.data⟩] }) t.ps }) := by
          unfold putT; simp only []; rw [h1]; simp [hfull]
        rw [e] at g9 ok' qok' ⊢
        have e1 : decide (((z.n : Nat) : Int) < depth) = true := by rw [zn, ← hd]; simpa using hfull
        simp only []
        rw [e1]
        simp only [show ((0 : Int) == 0) = true from rfl, show ((0 : Int) != 0) = false from rfl, beq_self_eq_true, Bool.not_true, cond_false, cond_true]
        have g10 : Sat ((L ++ [row bo 41 (opc o), diceA 88 k l, portsA b { t with ps := updP o.n (fun p => { p with l := p.l ++ [⟨o.d.a, o.d.b, o.d.c, o.n, o.d.data⟩] }) t.ps }]) ++ [row bx 39 [.int .u32 o.d.a, .int .u32 o.d.b, .int .i64 o.d.c, .int .i64 o.n, o.s.v], Hw.own 45 1 sw (wsv E), Hw.own 3 1 sd (ints D), star (E.map wtA)]) h9 := Sat.csa (g9.sel [0, 1, 6, 5, 2, 3, 4] (by decide) rfl)
        refine q_push g10 hj hm.e h2' (hr _ g9.left) (by rw [List.length_map]; omega) fun z' h' hs' => ?_
        refine hK h' { t with ps := updP o.n (fun p => { p with l := p.l ++ [⟨o.d.a, o.d.b, o.d.c, o.n, o.d.data⟩] }) t.ps } l _ D ((Sat.asc hs').sel [2, 1, 3, 4, 5] (by decide) rfl) ok' qok' hu ?_ rfl rfl
        have := hm.upd (z := z') (f := fun p => { p with l := p.l ++ [⟨o.d.a, o.d.b, o.d.c, o.n, o.d.data⟩] }) hj (fun _ => rfl) (by rw [← hn]; exact h1)
        rw [set_same h3, ← hn] at this
        simp only [List.map_append, List.map_cons, List.map_nil] at this
        exact this
    · simp only [cond_false]
      refine q_none ?_
      exact hK h9 _ l E D (g9.sel [6, 1, 2, 3, 4] (by decide) rfl) ok' qok' hu (hm.put_out hn) dm.1 dm.2
  rw [show (o.kind == 4) = false by simp [k4], cond_false]
  by_cases k3 : o.kind = 3
  · rw [show (o.kind == 3) = true by simp [k3], cond_true]
    rcases hat with ⟨rfl, j, hj, rfl, hn⟩ | ⟨rfl, hn⟩
    · simp only [Bool.not_true, cond_false]
      exact same h (hs.sel [1, 2, 3, 4, 5] (by decide) rfl)
    · simp only [Bool.not_false, cond_true]
      refine hs.lI 0 rfl rfl ?_
      have g : Sat ((L ++ [row bo 41 (opc o), diceA 88 k l, Hw.own 45 1 sw (wsv E), Hw.own 3 1 sd (ints D), star (E.map wtA)]) ++ [portsA b t]) h := Sat.csa (hs.sel [0, 2, 3, 4, 5, 1] (by decide) rfl)
      refine p_close g ho.nod fun h' hs' => ?_
      exact hK h' _ l E D ((Sat.asc hs').sel [5, 1, 2, 3, 4] (by decide) rfl) (ho.close'.mono (by omega)) hq.close' hu (hm.keep fun j hj => findP_del fun e => hn j hj e.symm) rfl rfl
  rw [show (o.kind == 3) = false by simp [k3], cond_false]
  by_cases k5 : o.kind = 5
  · rw [show (o.kind == 5) = true by simp [k5], cond_true]
    refine hs.lI 0 rfl rfl ?_
    have g : Sat ((L ++ [row bo 41 (opc o), diceA 88 k l, Hw.own 45 1 sw (wsv E), Hw.own 3 1 sd (ints D), star (E.map wtA)]) ++ [portsA b t]) h := Sat.csa (hs.sel [0, 2, 3, 4, 5, 1] (by decide) rfl)
    have ok' : Ok M (takeT t o.n).2 := ho.take'
    have qok' : QOk (takeT t o.n).2 := hq.take'
    have dm := takeT_d t o.n
    refine p_take g ho.nod ?_ ?_
    · intro hnone h' hs' bx e0
      have hs := (Sat.asc hs').new e0 (.cells ⟨[.int .u32 0, .int .u32 0, .int .i64 0, .int .i64 0, .slice none 0 0]⟩ 39 (0, 0))
      revert hs
      generalize upd h' bx _ = h2
      intro hs
      have hs : Sat (L ++ [row bo 41 (opc o), diceA 88 k l, Hw.own 45 1 sw (wsv E), Hw.own 3 1 sd (ints D), star (E.map wtA), portsA b (takeT t o.n).2, row bx 39 [.int .u32 0, .int .u32 0, .int .i64 0, .int .i64 0, .slice none 0 0]]) h2 := hs
      refine hs.st 6 rfl (by simp) rfl ?_
      intro _ hs
      refine hs.st 6 rfl (by simp) rfl ?_
      intro _ hs
      refine hs.st 6 rfl (by simp) rfl ?_
      intro _ hs
      refine hs.st 6 rfl (by simp) rfl ?_
      intro _ hs
      refine hs.st 6 rfl (by simp) rfl ?_
      intro h8 hs
      have hs : Sat (L ++ [row bo 41 (opc o), diceA 88 k l, Hw.own 45 1 sw (wsv E), Hw.own 3 1 sd (ints D), star (E.map wtA), portsA b (takeT t o.n).2, row bx 39 [.int .u32 0, .int .u32 0, .int .i64 0, .int .i64 0, .slice none 0 0]]) h8 := hs
      have g8 := hs.sel [5, 1, 2, 3, 4] (M' := stq b k sw sd (takeT t o.n).2 l E D) (by decide) rfl
      rcases hat with ⟨rfl, j, hj, rfl, hn⟩ | ⟨rfl, hn⟩
      · simp only [cond_true]
        obtain ⟨p, z, h1, h2', h3⟩ := hm.q j hj
        have zn : z.n = p.l.length := by rw [star_n ((Sat.csa (A := [_, _, _, _, _, _]) (hs.sel [0, 1, 2, 3, 5, 6, 4] (by decide) rfl))) h2', List.length_map]
        rw [← hn] at h1
        have hpl : p.l = [] := by
          cases e : p.l with
          | nil => rfl
          | cons d r => unfold takeT at hnone; rw [h1] at hnone; simp only [e] at hnone; cases hnone
        refine idx_of (by omega) (by omega) ?_
        simp only [Int.toNat_natCast, Nat.mul_one]
        refine hs.oL 2 rfl (wsv_at h2') ?_
        have e1 : decide (((z.n : Nat) : Int) > 0) = false := by rw [zn, hpl]; rfl
        simp only []
        rw [e1]
        simp only [beq_self_eq_true, Bool.not_true, cond_false]
        refine q_nopop (fun _ => rfl) ?_
        have et : (takeT t o.n).2 = t := by unfold takeT; rw [h1]; simp only []; rw [hpl]
        rw [et] at g8
        exact same h8 g8
      · simp only [cond_false]
        refine q_nopop (fun e => by cases e) ?_
        exact hK h8 _ l E D g8 (ok'.mono (by omega)) qok' hu (hm.take_out hn) dm.1 dm.2
    · intro d hd' s h' hs' bx e0
      have hs := (Sat.asc hs').new e0 (.cells ⟨[.int .u32 0, .int .u32 0, .int .i64 0, .int .i64 0, .slice none 0 0]⟩ 39 (0, 0))
      revert hs
      generalize upd h' bx _ = h2
      intro hs
      have hs : Sat (L ++ [row bo 41 (opc o), diceA 88 k l, Hw.own 45 1 sw (wsv E), Hw.own 3 1 sd (ints D), star (E.map wtA), portsA b (takeT t o.n).2, datA (d, s), row bx 39 [.int .u32 0, .int .u32 0, .int .i64 0, .int .i64 0, .slice none 0 0]]) h2 := hs
      refine hs.st 7 rfl (by simp) rfl ?_
      intro _ hs
      refine hs.st 7 rfl (by simp) rfl ?_
      intro _ hs
      refine hs.st 7 rfl (by simp) rfl ?_
      intro _ hs
      refine hs.st 7 rfl (by simp) rfl ?_
      intro _ hs
      refine hs.st 7 rfl (by simp) rfl ?_
      intro h8 hs
      have hs : Sat (L ++ [row bo 41 (opc o), diceA 88 k l, Hw.own 45 1 sw (wsv E), Hw.own 3 1 sd (ints D), star (E.map wtA), portsA b (takeT t o.n).2, datA (d, s), row bx 39 [.int .u32 d.a, .int .u32 d.b, .int .i64 d.c, .int .i64 d.d, s.v]]) h8 := hs
      have g8 := hs.sel [5, 1, 2, 3, 4] (M' := stq b k sw sd (takeT t o.n).2 l E D) (by decide) rfl
      rcases hat with ⟨rfl, j, hj, rfl, hn⟩ | ⟨rfl, hn⟩
      · simp only [cond_true]
        obtain ⟨p, z, h1, h2', h3⟩ := hm.q j hj
        have zn : z.n = p.l.length := by rw [star_n ((Sat.csa (A := [_, _, _, _, _, _, _]) (hs.sel [0, 1, 2, 3, 5, 6, 7, 4] (by decide) rfl))) h2', List.length_map]
        rw [← hn] at h1
        obtain ⟨r, hpl⟩ : ∃ r, p.l = d :: r := by
          unfold takeT at hd'
          rw [h1] at hd'
          cases e : p.l with
          | nil => simp only [e] at hd'; cases hd'
          | cons d' r => simp only [e, Option.some.injEq] at hd'; exact ⟨r, by rw [hd']⟩
        have et : takeT t o.n = (some d, { t with ps := updP o.n (fun p => { p with l := p.l.tail }) t.ps }) := by unfold takeT; rw [h1]; simp only []; rw [hpl]
        refine idx_of (by omega) (by omega) ?_
        simp only [Int.toNat_natCast, Nat.mul_one]
        refine hs.oL 2 rfl (wsv_at h2') ?_
        have e1 : decide (((z.n : Nat) : Int) > 0) = true := by rw [zn, hpl]; simp
        simp only []
        rw [e1]
        simp only [beq_self_eq_true, Bool.not_true, cond_false]
        have edn : d.d = o.n := by rw [hq.d p (findP_some h1).1 d (by rw [hpl]; exact List.mem_cons_self ..)]; exact (findP_some h1).2
        have g9 : Sat ((L ++ [diceA 88 k l, portsA b (takeT t o.n).2, datA (d, s)]) ++ [row bx 39 [.int .u32 d.a, .int .u32 d.b, .int .i64 d.c, .int .i64 o.n, s.v], row bo 41 [.int .i64 o.kind, .int .i64 o.n, .int .u32 o.d.a, .int .u32 o.d.b, .int .i64 o.d.c, .int .i64 o.d.d, o.s.v], Hw.own 45 1 sw (wsv E), Hw.own 3 1 sd (ints D), star (E.map wtA)]) h8 := by
          rw [edn] at hs
          exact Sat.csa (hs.sel [1, 5, 6, 7, 0, 2, 3, 4] (by decide) rfl)
        have hrd : RdB h8 s d.data := (hs.own 6 (T := 5) (sz := 1) (s := s) (vs := bc d.data) rfl).rdb
        refine q_pop g9 hj hm.e (by rw [hpl] at h2'; exact h2') hrd fun z' h9 hs9 => ?_
        refine hK h9 (takeT t o.n).2 l _ D ((Sat.asc hs9).sel [1, 0, 3, 4, 5] (by decide) rfl) (ok'.mono (by omega)) qok' hu ?_ dm.1 dm.2
        have := hm.upd (z := z') (f := fun p => { p with l := p.l.tail }) hj (fun _ => rfl) (by rw [← hn]; exact h1)
        rw [set_same h3, ← hn] at this
        rw [et]
        simp only [hpl, List.tail_cons] at this
        exact this
      · simp only [cond_false]
        refine q_nopop (fun e => by cases e) ?_
        exact hK h8 _ l E D g8 (ok'.mono (by omega)) qok' hu (hm.take_out hn) dm.1 dm.2
  rw [show (o.kind == 5) = false by simp [k5], cond_false]
  exact same h (hs.sel [1, 2, 3, 4, 5] (by decide) rfl)
end Go.Proofs.Ytabihmedfopdcaa

/-
  Ports: PortQueues, whole.
-/
set_option linter.unusedSimpArgs false
set_option linter.unusedVariables false
namespace Go.Proofs.Ytabihmedfopdcaa
open Go Go.Hw
open Go.ChangeShapes Go.WideShapes Go.ChangeAt Go.RowKit

theorem sts_at {l : List PS} : ∀ {i : Nat} {p : PS}, l[i]? = some p → (sts l)[i * 3]? = some (.int .i64 p.n) ∧ (sts l)[i * 3 + 1]? = some (.int .i64 (p.l.length : Int)) ∧ (sts l)[i * 3 + 2]? = some (.int .i64 p.dr) := by
  induction l with
  | nil => intro i p h; simp at h
  | cons y l ih =>
    intro i p h
    have e : sts (y :: l) = st3 y ++ sts l := rfl
    rw [e]
    cases i with
    | zero => simp at h; subst h; exact ⟨rfl, rfl, rfl⟩
    | succ i =>
      have := ih (i := i) (p := p) (by simpa using h)
      have hl3 : (st3 y).length = 3 := rfl
      rw [List.getElem?_append_right (by omega), List.getElem?_append_right (by omega), List.getElem?_append_right (by omega), hl3, show (i + 1) * 3 - 3 = i * 3 by omega, show (i + 1) * 3 + 1 - 3 = i * 3 + 1 by omega, show (i + 1) * 3 + 2 - 3 = i * 3 + 2 by omega]
      exact this
def mid (p : PS) : Bool := decide (100 ≤ p.n ∧ p.n < 103)
def cnt (ps : List PS) : Nat := (ps.filter mid).length
theorem cnt_snoc (ps : List PS) (p : PS) : cnt (ps ++ [p]) = cnt ps + if mid p then 1 else 0 := by
  unfold cnt; rw [List.filter_append, List.length_append]
  cases h : mid p with
  | true => rw [List.filter_cons_of_pos h]; rfl
  | false => rw [List.filter_cons_of_neg (by simp [h])]; rfl
theorem cnt_all {t : Tb} {E : List Wl} {D : List Int} {M : Nat} (hm : Mir t E D) (ho : Ok M t) : cnt t.ps = 3 := by
  have nod : ((t.ps.filter mid).map PS.n).Nodup := by
    refine List.pairwise_map.2 ((ho.srt.sublist List.filter_sublist).imp fun h e => ?_)
    omega
  have a := pigeon ((t.ps.filter mid).map PS.n) [100, 101, 102] nod (by
    intro x hx
    obtain ⟨p, hp, rfl⟩ := List.mem_map.1 hx
    have h1 : 100 ≤ p.n ∧ p.n < 103 := by simpa [mid] using (List.mem_filter.1 hp).2
    simp only [List.mem_cons, List.not_mem_nil, or_false]
    omega)
  have b := pigeon [100, 101, 102] ((t.ps.filter mid).map PS.n) (by decide) (by
    have each : ∀ j : Nat, j < 3 → (100 + (j : Int)) ∈ (t.ps.filter mid).map PS.n := by
      intro j hj
      obtain ⟨p, z, h1, _⟩ := hm.q j hj
      obtain ⟨h2, h3⟩ := findP_some h1
      exact List.mem_map.2 ⟨p, List.mem_filter.2 ⟨h2, by simp [mid]; omega⟩, h3⟩
    intro x hx
    simp only [List.mem_cons, List.not_mem_nil, or_false] at hx
    rcases hx with rfl | rfl | rfl
    · exact each 0 (by omega)
    · exact each 1 (by omega)
    · exact each 2 (by omega))
  rw [List.length_map] at a b
  have a : (t.ps.filter mid).length ≤ 3 := a
  have b : 3 ≤ (t.ps.filter mid).length := b
  show (t.ps.filter mid).length = 3
  omega

theorem c_looked {L : List Asn} {s sw sd : Sl} {t : Tb} {E : List Wl} {D : List Int} {M : Nat} {h : Hp} {K : Bool → Hp → Prop}
    (hs : Sat (L ++ [Hw.own 72 3 s (sts t.ps), Hw.own 45 1 sw (wsv E), Hw.own 3 1 sd (ints D), star (E.map wtA)]) h) (ho : Ok M t) (hm : Mir t E D) (hl : t.ps.length ≤ 8) (hK : K true h) : C16 s sw sd h K := by
  apply S16; unfold N16
  have sn : s.n = t.ps.length := by have := (hs.own 0 rfl).1; rw [sts_len] at this; omega
  have wn : sw.n = 3 := by have := own_n hs 1 rfl; unfold wsv at this; rw [List.length_map, hm.e] at this; omega
  have dn : sd.n = 3 := by have := own_n hs 2 rfl; unfold ints at this; rw [List.length_map, hm.d] at this; omega
  unfold N16_l0
  refine loopP_inv (fun (x : Int × Int) hc => hc = h ∧ ∃ i : Nat, x.2 = i ∧ i ≤ t.ps.length ∧ x.1 = ((cnt (t.ps.take i) : Nat) : Int)) (fun x _ => t.ps.length - x.2.toNat) ?_ ⟨rfl, 0, rfl, Nat.zero_le _, rfl⟩
  rintro ⟨x, y⟩ hc ⟨rfl, i, hy, hi, hx⟩
  have hy : y = i := hy
  have hx : x = ((cnt (t.ps.take i) : Nat) : Int) := hx
  subst hy; subst hx
  unfold N16_l0_B N16_l0_b
  have cle : cnt (t.ps.take i) ≤ i := Nat.le_trans (List.length_filter_le ..) (by rw [List.length_take]; omega)
  by_cases hlt : i < t.ps.length
  · rw [dec_lt (by omega), cond_true]
    have hp : t.ps[i]? = some t.ps[i] := List.getElem?_eq_getElem hlt
    have hpm := List.getElem_mem hlt
    have etk : t.ps.take (i + 1) = t.ps.take i ++ [t.ps[i]] := by rw [List.take_add_one, hp]; rfl
    have sorted : ∀ i', i' + 1 = i → ∃ p', t.ps[i']? = some p' ∧ p'.n < t.ps[i].n := by
      intro i' e
      refine ⟨t.ps[i'], List.getElem?_eq_getElem (by omega), ?_⟩
      exact List.pairwise_iff_getElem.1 ho.srt i' i (by omega) hlt (by omega)
    generalize t.ps[i] = p at hp hpm etk sorted
    obtain ⟨k0, k1, k2⟩ := sts_at hp
    obtain ⟨b, hb, c0⟩ := hs.cel 0 rfl k0
    obtain ⟨_, hb1, c1⟩ := hs.cel 0 rfl k1
    rw [hb] at hb1; cases hb1
    obtain ⟨_, hb1, c2⟩ := hs.cel 0 rfl k2
    rw [hb] at hb1; cases hb1
    obtain ⟨n1, n2⟩ := ho.rng p hpm
    refine idx_of (by show (0 : Int) ≤ (i : Int); omega) (by show (i : Int) < (s.n : Int); omega) ?_
    rw [hb]
    simp only [nn_some', Int.toNat_natCast, add_bk, addadd]
    refine xI_of c0 ?_
    rw [show IntKind.wrap .i64 (p.n - 100) = p.n - 100 from wrap64 (by omega) (by omega)]
    have ev : cnt (t.ps.take (i + 1)) = cnt (t.ps.take i) + if mid p then 1 else 0 := by rw [etk, cnt_snoc]
    have j1 : N16_j1 s sw sd ((cnt (t.ps.take i) : Nat) : Int) (i : Int) (p.n - 100) hc (fun n3 h0 => (fun (s' : Int × Int) (h' : Hp) => (h' = hc ∧ ∃ i' : Nat, s'.2 = i' ∧ i' ≤ t.ps.length ∧ s'.1 = ((cnt (t.ps.take i') : Nat) : Int)) ∧ t.ps.length - s'.2.toNat < t.ps.length - i) (n3, IntKind.wrap .i64 ((i : Int) + 1)) h0) (fun b0 h1 => K b0 h1) := by
      rw [nat_succ64 (by omega)]
      have next : ∀ n : Int, n = ((cnt (t.ps.take (i + 1)) : Nat) : Int) → (hc = hc ∧ ∃ i' : Nat, ((i + 1 : Nat) : Int) = i' ∧ i' ≤ t.ps.length ∧ n = ((cnt (t.ps.take i') : Nat) : Int)) ∧ t.ps.length - (((i + 1 : Nat) : Int)).toNat < t.ps.length - i := fun n hn => ⟨⟨rfl, i + 1, rfl, hlt, hn⟩, by omega⟩
      unfold N16_j1 N16_j2
      by_cases m1 : 100 ≤ p.n
      · rw [show decide (p.n - 100 ≥ 0) = true by simp; omega, cond_true]
        by_cases m2 : p.n < 103
        · rw [show decide (p.n - 100 < 3) = true by simp; omega, cond_true]
          have hmid : mid p = true := by simp [mid, m1, m2]
          obtain ⟨j, hj, ej⟩ : ∃ j : Nat, j < 3 ∧ p.n = 100 + (j : Int) := ⟨(p.n - 100).toNat, by omega, by omega⟩
          obtain ⟨p', z, h1, h2, h3⟩ := hm.q j hj
          have epp : p' = p := by
            have h4 := findP_of ho.nod hpm ej
            rw [h1] at h4; cases h4; rfl
          subst epp
          have zn : z.n = p'.l.length := by rw [star_n (Sat.csa (A := [_, _, _]) hs) h2, List.length_map]
          rw [show p'.n - 100 = (j : Int) by omega]
          refine idx_of (by omega) (by omega) ?_
          rw [hb]
          simp only [nn_some', Int.toNat_natCast, add_bk, addadd]
          refine xI_of c1 ?_
          refine idx_of (by omega) (by omega) ?_
          simp only [Nat.mul_one]
          refine hs.oL 1 rfl (wsv_at h2) ?_
          simp only []
          rw [show (((p'.l.length : Nat) : Int) != ((z.n : Nat) : Int)) = false by rw [zn]; simp, cond_false]
          refine idx_of (by omega) (by omega) ?_
          refine xI_of c2 ?_
          refine idx_of (by omega) (by omega) ?_
          refine hs.oI 2 rfl (ints_at h3) ?_
          rw [bne_self_eq_false, cond_false, nat_succ64 (by omega)]
          refine ⟨⟨trivial, i + 1, rfl, hlt, ?_⟩, by omega⟩
          rw [ev, hmid]; rfl
        · rw [show decide (p.n - 100 < 3) = false by simp; omega, cond_false]
          refine next _ ?_
          rw [ev, show mid p = false by simp [mid]; omega]; rfl
      · rw [show decide (p.n - 100 ≥ 0) = false by simp; omega, cond_false, cond_false]
        refine next _ ?_
        rw [ev, show mid p = false by simp [mid]; omega]; rfl
    by_cases i0 : i = 0
    · rw [show decide ((i : Int) > 0) = false by simp; omega, cond_false]
      exact j1
    · rw [show decide ((i : Int) > 0) = true by simp; omega, cond_true]
      refine idx_of (by omega) (by omega) ?_
      refine xI_of c0 ?_
      obtain ⟨p', hp', hlt'⟩ := sorted (i - 1) (by omega)
      obtain ⟨k0', _, _⟩ := sts_at hp'
      obtain ⟨_, hb1, c0'⟩ := hs.cel 0 rfl k0'
      rw [hb] at hb1; cases hb1
      rw [show IntKind.wrap .i64 ((i : Int) - 1) = ((i - 1 : Nat) : Int) by rw [wrap64 (by omega) (by omega)]; omega]
      refine idx_of (by omega) (by omega) ?_
      simp only [Int.toNat_natCast]
      refine xI_of c0' ?_
      rw [show decide (p.n ≤ p'.n) = false by simp; omega, cond_false]
      exact j1
  · rw [dec_ge (by omega), cond_false]
    have : i = t.ps.length := by omega
    subst this
    rw [List.take_length, cnt_all hm ho]
    simp only [show ((((3 : Nat) : Int)) == 3) = true from rfl, cond_true]
    rw [show decide (((s.n : Nat) : Int) ≤ 8) = true by simp; omega]
    exact hK
end Go.Proofs.Ytabihmedfopdcaa
