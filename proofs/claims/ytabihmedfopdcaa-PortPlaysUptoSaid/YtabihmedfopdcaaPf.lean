/-
  Ports: calls that a law is handed, opened.
-/
import Derived.Test.YtabihmedfopdcaaPe
import Derived.Test.YtabihmedfopdcaaPc
import Derived.Test.YtabihmedfopdcaaPd
set_option linter.unusedSimpArgs false
set_option linter.unusedVariables false
namespace Go.Proofs.Ytabihmedfopdcaa
open Go Go.Hw
open Go.ChangeShapes Go.WideShapes Go.ChangeAt Go.RowKit

structure Opd where
  kind : Int
  n : Int
  d : Dg
  s : Sl
def opc (o : Opd) : List Value := [.int .i64 o.kind, .int .i64 o.n, .int .u32 o.d.a, .int .u32 o.d.b, .int .i64 o.d.c, .int .i64 o.d.d, o.s.v]
/-- a list of calls, as it reads -/
def OpsR (h : Hp) (s : Sl) (ops : List Opd) : Prop := s.n = ops.length ∧ ∀ i o, ops[i]? = some o → (∃ a, s.p = some a ∧ ∀ j, j < 7 → cell h (a.add (i * 7 + j)) = (opc o)[j]?) ∧ RdB h o.s o.d.data
theorem OpsR.ext {h h' : Hp} {s : Sl} {ops : List Opd} (H : OpsR h s ops) (he : Ext none' h h') : OpsR h' s ops :=
  ⟨H.1, fun i o hi => by
    obtain ⟨⟨a, hp, hc⟩, hr⟩ := H.2 i o hi
    refine ⟨⟨a, hp, fun j hj => ?_⟩, hr.ext he⟩
    have hl : (opc o).length = 7 := rfl
    have := hc j hj
    rw [List.getElem?_eq_getElem (by omega)] at this ⊢
    exact cellx he this⟩
theorem OpsR.at {h : Hp} {s : Sl} {ops : List Opd} (H : OpsR h s ops) {i : Nat} {o : Opd} (hi : ops[i]? = some o) : ∃ a, s.p = some a ∧ cell h (a.add (i * 7)) = some (.int .i64 o.kind) ∧ cell h ((a.add (i * 7)).add 1) = some (.int .i64 o.n) ∧ cell h ((a.add (i * 7)).add 2) = some (.int .u32 o.d.a) ∧
    cell h ((a.add (i * 7)).add 3) = some (.int .u32 o.d.b) ∧ cell h ((a.add (i * 7)).add 4) = some (.int .i64 o.d.c) ∧ cell h ((a.add (i * 7)).add 5) = some (.int .i64 o.d.d) ∧ cell h ((a.add (i * 7)).add 6) = some o.s.v := by
  obtain ⟨⟨a, hp, hc⟩, _⟩ := H.2 i o hi
  refine ⟨a, hp, by simpa [opc] using hc 0 (by omega), ?_, ?_, ?_, ?_, ?_, ?_⟩ <;> rw [addadd]
  · exact hc 1 (by omega)
  · exact hc 2 (by omega)
  · exact hc 3 (by omega)
  · exact hc 4 (by omega)
  · exact hc 5 (by omega)
  · exact hc 6 (by omega)

section
variable {H : Type} {enc : TypeId × Value → H}
set_option maxRecDepth 100000 in
theorem dg_one {W : World} {n : Nat} {cs : List Value} {y : DataW H × List MemPlace} (hf : DataW.trod enc Try.prog W 0 (fun _ => true) true n 39 cs = some y) :
    ∃ (d : Dg) (s : Sl), cs = [.int .u32 d.a, .int .u32 d.b, .int .i64 d.c, .int .i64 d.d, s.v] ∧ RdB (hpOf W) s d.data ∧ d.data.length ≤ Rows.uptoBulk y.1 ∧
      ((∀ m ∈ y.1.weights Try.prog 39, m ≤ reachBytes) → d.data.length ≤ 140737488351232) ∧ (-9223372036854775808 ≤ d.d ∧ d.d ≤ 9223372036854775807) := by
  have hu : Try.prog.underlying 39 = some (.struct #[.mk "SrcIp" 36 0 false "" "" 0, .mk "DstIp" 36 1 false "" "" 4, .mk "SrcPort" 3 2 false "" "" 8, .mk "DstPort" 3 3 false "" "" 16, .mk "Data" 37 4 false "" "" 24]) := by kernel_rfl
  obtain ⟨xs, m, _, hxe, hl, hxl, hx⟩ := DataW.trod_struct hu hf
  rw [show Try.prog.cellsOf 39 = 5 from by kernel_rfl] at hl
  have hxl : xs.length = 5 := hxl
  match cs, hl with
  | [u0, u1, u2, u3, u4], _ =>
    match xs, hxl with
    | [y0, y1, y2, y3, y4], _ =>
      have g0 := hx 0 _ rfl
      have g1 := hx 1 _ rfl
      have g2 := hx 2 _ rfl
      have g3 := hx 3 _ rfl
      have g4 := hx 4 _ rfl
      simp only [show Try.prog.cellsOf 36 = 1 from by kernel_rfl, show Try.prog.cellsOf 3 = 1 from by kernel_rfl, show Try.prog.cellsOf 37 = 1 from by kernel_rfl,
        List.drop_zero, List.drop_succ_cons, List.take_succ_cons, List.take_zero, List.getElem?_cons_zero, List.getElem?_cons_succ] at g0 g1 g2 g3 g4
      obtain ⟨a, e0, _, w0⟩ := DataW.trod_int (k := .u32) (by kernel_rfl) g0
      obtain ⟨b, e1, _, w1⟩ := DataW.trod_int (k := .u32) (by kernel_rfl) g1
      obtain ⟨c, e2, _, w2⟩ := DataW.trod_int (k := .i64) (by kernel_rfl) g2
      obtain ⟨d, e3, _, w3⟩ := DataW.trod_int (k := .i64) (by kernel_rfl) g3
      obtain ⟨s, data, e4, hr, hcap⟩ := bytes_core (e := 5) (by kernel_rfl) (by kernel_rfl) (by kernel_rfl) g4
      cases e0; cases e1; cases e2; cases e3; cases e4
      have hn := hr.n
      have hc := hr.c
      have wd : -9223372036854775808 ≤ d ∧ d ≤ 9223372036854775807 := by
        have h1 : (IntKind.i64.min : Int) = -9223372036854775808 := by rfl
        have h2 : (IntKind.i64.max : Int) = 9223372036854775807 := by rfl
        simp only [Lit.wf, Bool.and_eq_true, decide_eq_true_eq, h1, h2] at w3; exact w3
      refine ⟨⟨a, b, c, d, data⟩, s, rfl, hr, ?_, ?_, wd⟩
      · show data.length ≤ _
        rw [hxe]
        simp only [List.map_cons, List.map_nil, Rows.uptoBulk, Rows.uptoBulkAll]
        rcases hcap with h | ⟨el, sp, hd, hls⟩
        · omega
        · rw [hd]
          have b1 : ∀ l : List (DataW H), l.length ≤ Rows.uptoBulkAll l := by
            intro l
            induction l with
            | nil => simp [Rows.uptoBulkAll]
            | cons x r ih =>
              have hx1 : 1 ≤ Rows.uptoBulk x := by cases x with
                | lit l => cases l <;> simp [Rows.uptoBulk]
                | _ => simp [Rows.uptoBulk]
              simp only [Rows.uptoBulkAll, List.length_cons]; omega
          have c1 := b1 el
          have c2 := b1 sp
          simp only [Rows.uptoBulk]
          omega
      · intro hwt
        show data.length ≤ _
        rcases hcap with h | ⟨el, sp, hd, hls⟩
        · omega
        · rw [hxe] at hwt
          simp only [DataW.weights, hu, List.map_cons, List.map_nil, DataW.weightsEach, List.mem_append] at hwt
          have := hwt ((el.length + sp.length) * Try.prog.bytesOf 5) (by
            rw [hd]; simp only [DataW.weights, show Try.prog.underlying 37 = some (.slice 5) from by kernel_rfl]; simp)
          rw [show Try.prog.bytesOf 5 = 1 from by kernel_rfl] at this
          unfold reachBytes at this
          omega
set_option maxRecDepth 100000 in
theorem op_one {W : World} {n : Nat} {cs : List Value} {y : DataW H × List MemPlace} (hf : DataW.trod enc Try.prog W 0 (fun _ => true) true n 41 cs = some y) :
    ∃ o : Opd, cs = opc o ∧ RdB (hpOf W) o.s o.d.data ∧ o.d.data.length ≤ Rows.uptoBulk y.1 ∧ ((∀ m ∈ y.1.weights Try.prog 41, m ≤ reachBytes) → o.d.data.length ≤ 140737488351232) ∧
      (-9223372036854775808 ≤ o.n ∧ o.n ≤ 9223372036854775807) ∧ (-9223372036854775808 ≤ o.d.d ∧ o.d.d ≤ 9223372036854775807) := by
  have hu : Try.prog.underlying 41 = some (.struct #[.mk "Kind" 3 0 false "" "" 0, .mk "N" 3 1 false "" "" 8, .mk "D" 39 2 false "" "" 16]) := by kernel_rfl
  obtain ⟨xs, m, _, hxe, hl, hxl, hx⟩ := DataW.trod_struct hu hf
  rw [show Try.prog.cellsOf 41 = 7 from by kernel_rfl] at hl
  have hxl : xs.length = 3 := hxl
  match cs, hl with
  | [u0, u1, u2, u3, u4, u5, u6], _ =>
    match xs, hxl with
    | [y0, y1, y2], _ =>
      have g0 := hx 0 _ rfl
      have g1 := hx 1 _ rfl
      have g2 := hx 2 _ rfl
      simp only [show Try.prog.cellsOf 3 = 1 from by kernel_rfl, show Try.prog.cellsOf 39 = 5 from by kernel_rfl,
        List.drop_zero, List.drop_succ_cons, List.take_succ_cons, List.take_zero, List.getElem?_cons_zero, List.getElem?_cons_succ] at g0 g1 g2
      obtain ⟨a, e0, _, w0⟩ := DataW.trod_int (k := .i64) (by kernel_rfl) g0
      obtain ⟨b, e1, _, w1⟩ := DataW.trod_int (k := .i64) (by kernel_rfl) g1
      obtain ⟨d, s, e2, hr, hb, hw, hdd⟩ := dg_one g2
      cases e0; cases e1; cases e2
      have wd : -9223372036854775808 ≤ b ∧ b ≤ 9223372036854775807 := by
        have h1 : (IntKind.i64.min : Int) = -9223372036854775808 := by rfl
        have h2 : (IntKind.i64.max : Int) = 9223372036854775807 := by rfl
        simp only [Lit.wf, Bool.and_eq_true, decide_eq_true_eq, h1, h2] at w1; exact w1
      refine ⟨⟨a, b, d, s⟩, rfl, hr, ?_, ?_, wd, hdd⟩
      · rw [hxe]
        simp only [List.map_cons, List.map_nil, Rows.uptoBulk, Rows.uptoBulkAll]
        omega
      · intro hwt
        rw [hxe] at hwt
        simp only [DataW.weights, hu, List.map_cons, List.map_nil, DataW.weightsEach, List.mem_append] at hwt
        exact hw fun m hm => hwt m (.inr (.inr (.inl hm)))
set_option maxRecDepth 100000 in
/-- calls, opened -/
theorem ops_open {r : Reach} {W : World} {b0 : Nat} {v : Value} {d : DataW H} {ps : List MemPlace} (hwt : ∀ n ∈ d.weights Try.prog 29, n ≤ reachBytes) (hval : Value.okWide Try.prog W r b0 29 v) (hd : DataW.Trod enc Try.prog W 0 (fun _ => true) true 29 v d ps) :
    ∃ (s : Sl) (ops : List Opd), v = s.v ∧ OpsR (hpOf W) s ops ∧ ops.length ≤ Rows.uptoBulk d ∧ (∀ o ∈ ops, o.d.data.length ≤ Rows.uptoBulk d) ∧ ops.length ≤ 2513169434843 ∧ (∀ o ∈ ops, o.d.data.length ≤ 140737488351232) ∧
      (∀ o ∈ ops, (-9223372036854775808 ≤ o.n ∧ o.n ≤ 9223372036854775807) ∧ (-9223372036854775808 ≤ o.d.d ∧ o.d.d ≤ 9223372036854775807)) := by
  have ht : Try.prog.underlying 29 = some (.slice 41) := by kernel_rfl
  have hb7 : Try.prog.bytesOf 41 = 64 := by kernel_rfl
  obtain ⟨p, n, c, rfl⟩ := Hw.okWide_slice ht hval
  obtain ⟨fuel, hf⟩ := hd
  have hcs : (Value.slice p n c).cells.toList = [.slice p n c] := rfl
  rw [hcs] at hf
  rcases DataW.trod_slice ht hf with ⟨h0, hx⟩ | ⟨a, len, cap, elems, rest, m, _, h1, hx, _, hl, _, hlen, hel, hsp, _⟩
  · simp only [List.cons.injEq, Value.slice.injEq, and_true] at h0
    obtain ⟨rfl, rfl, rfl⟩ := h0
    exact ⟨⟨none, 0, 0⟩, [], rfl, ⟨rfl, by simp⟩, by simp, by simp, by simp, by simp, by simp⟩
  · simp only [List.cons.injEq, Value.slice.injEq, and_true] at h1
    obtain ⟨rfl, rfl, rfl⟩ := h1
    have hxd := (Prod.mk.inj hx).1
    subst hxd
    have b1 : ∀ l : List (DataW H), l.length ≤ Rows.uptoBulkAll l ∧ ∀ x ∈ l, Rows.uptoBulk x ≤ Rows.uptoBulkAll l := by
      intro l
      induction l with
      | nil => simp [Rows.uptoBulkAll]
      | cons x r ih =>
        have hx1 : 1 ≤ Rows.uptoBulk x := by cases x with
          | lit l => cases l <;> simp [Rows.uptoBulk]
          | _ => simp [Rows.uptoBulk]
        simp only [Rows.uptoBulkAll, List.length_cons]
        refine ⟨by omega, fun z hz => ?_⟩
        rcases List.mem_cons.1 hz with rfl | hz
        · omega
        · have := ih.2 z hz; omega
    have each : ∀ i ∈ List.range n, ∃ o : Opd, (∀ j, j < 7 → cell (hpOf W) (a.add (i * 7 + j)) = (opc o)[j]?) ∧ RdB (hpOf W) o.s o.d.data ∧ o.d.data.length ≤ Rows.uptoBulkAll (elems.map (·.1)) ∧ o.d.data.length ≤ 140737488351232 ∧ ((-9223372036854775808 ≤ o.n ∧ o.n ≤ 9223372036854775807) ∧ (-9223372036854775808 ≤ o.d.d ∧ o.d.d ≤ 9223372036854775807)) := by
      intro i hi
      have hi := List.mem_range.1 hi
      have h2 := hel i hi
      have hil : i < elems.length := by omega
      rw [List.getElem?_eq_getElem hil] at h2
      obtain ⟨cs, h3, h4⟩ := Option.bind_eq_some_iff.1 h2
      obtain ⟨o, rfl, hr, hb, hw, hn⟩ := op_one h4
      have hmem : elems[i].1 ∈ elems.map (·.1) := List.mem_map.2 ⟨_, List.getElem_mem hil, rfl⟩
      refine ⟨o, fun j hj => ?_, hr, Nat.le_trans hb ((b1 _).2 _ hmem), hw fun m hm => hwt m ?_, hn⟩
      · have h7 : Try.prog.cellsOf 41 = 7 := by kernel_rfl
        have := (World.cells?_some h3).2.2 j (by omega)
        rw [h7, add_add] at this
        rw [cell_hp]; exact this
      · simp only [DataW.weights, ht]
        exact List.mem_cons.2 (.inr (List.mem_append.2 (.inl (weights_mem_all hm hmem))))
    obtain ⟨ops, hol, ho⟩ := pick_all (fun (i : Nat) (o : Opd) => (∀ j, j < 7 → cell (hpOf W) (a.add (i * 7 + j)) = (opc o)[j]?) ∧ RdB (hpOf W) o.s o.d.data ∧ o.d.data.length ≤ Rows.uptoBulkAll (elems.map (·.1)) ∧ o.d.data.length ≤ 140737488351232 ∧ ((-9223372036854775808 ≤ o.n ∧ o.n ≤ 9223372036854775807) ∧ (-9223372036854775808 ≤ o.d.d ∧ o.d.d ≤ 9223372036854775807))) each
    simp only [List.length_range] at hol
    have get : ∀ i o, ops[i]? = some o → (∀ j, j < 7 → cell (hpOf W) (a.add (i * 7 + j)) = (opc o)[j]?) ∧ RdB (hpOf W) o.s o.d.data ∧ o.d.data.length ≤ Rows.uptoBulkAll (elems.map (·.1)) ∧ o.d.data.length ≤ 140737488351232 ∧ ((-9223372036854775808 ≤ o.n ∧ o.n ≤ 9223372036854775807) ∧ (-9223372036854775808 ≤ o.d.d ∧ o.d.d ≤ 9223372036854775807)) := by
      intro i o hi
      have hil : i < n := by rw [← hol]; exact (List.getElem?_eq_some_iff.1 hi).1
      obtain ⟨o', h1, h2⟩ := ho i i (by simp [hil])
      rw [hi] at h1; cases h1; exact h2
    have all : ∀ o ∈ ops, RdB (hpOf W) o.s o.d.data ∧ o.d.data.length ≤ Rows.uptoBulkAll (elems.map (·.1)) ∧ o.d.data.length ≤ 140737488351232 ∧ ((-9223372036854775808 ≤ o.n ∧ o.n ≤ 9223372036854775807) ∧ (-9223372036854775808 ≤ o.d.d ∧ o.d.d ≤ 9223372036854775807)) := by
      intro o ho
      obtain ⟨i, hi, rfl⟩ := List.getElem_of_mem ho
      exact (get i _ (List.getElem?_eq_getElem hi)).2
    have hel2 := (b1 (elems.map (·.1))).1
    rw [List.length_map] at hel2
    refine ⟨⟨some a, n, c⟩, ops, rfl, ⟨hol.symm, fun i o hi => ⟨⟨a, rfl, (get i o hi).1⟩, (get i o hi).2.1⟩⟩, ?_, ?_, ?_, fun o ho => (all o ho).2.2.1, fun o ho => (all o ho).2.2.2⟩
    · simp only [Rows.uptoBulk]; omega
    · intro o ho
      have := (all o ho).2.1
      simp only [Rows.uptoBulk]; omega
    · have := hwt ((elems.length + rest.length) * Try.prog.bytesOf 41) (by simp [DataW.weights, ht])
      rw [hb7] at this
      unfold reachBytes at this
      omega
set_option maxRecDepth 100000 in
/-- numbers that are drawn, opened -/
theorem draws_open {r : Reach} {W : World} {b0 : Nat} {v : Value} {d : DataW H} {ps : List MemPlace} (hwt : ∀ n ∈ d.weights Try.prog 28, n ≤ reachBytes) (hval : Value.okWide Try.prog W r b0 28 v) (hd : DataW.Trod enc Try.prog W 0 (fun _ => true) true 28 v d ps) :
    ∃ (s : Sl) (l : List Int), v = s.v ∧ RdU (hpOf W) s l ∧ U32s l ∧ l.length ≤ Rows.uptoBulk d ∧ l.length ≤ 35184372087808 := by
  have ht : Try.prog.underlying 28 = some (.slice 36) := by kernel_rfl
  have hb4 : Try.prog.bytesOf 36 = 4 := by kernel_rfl
  have hc1 : Try.prog.cellsOf 36 = 1 := by kernel_rfl
  obtain ⟨p, n, c, rfl⟩ := Hw.okWide_slice ht hval
  obtain ⟨fuel, hf⟩ := hd
  have hcs : (Value.slice p n c).cells.toList = [.slice p n c] := rfl
  rw [hcs] at hf
  rcases DataW.trod_slice ht hf with ⟨h0, hx⟩ | ⟨a, len, cap, elems, rest, m, _, h1, hx, _, hl, _, hlen, hel, hsp, _⟩
  · simp only [List.cons.injEq, Value.slice.injEq, and_true] at h0
    obtain ⟨rfl, rfl, rfl⟩ := h0
    refine ⟨⟨none, 0, 0⟩, [], rfl, ⟨rfl, Nat.le_refl _, ?_⟩, (by intro x hx; cases hx), by simp, by simp⟩
    intro i v hi; simp [u32s] at hi
  · simp only [List.cons.injEq, Value.slice.injEq, and_true] at h1
    obtain ⟨rfl, rfl, rfl⟩ := h1
    have hxd := (Prod.mk.inj hx).1
    subst hxd
    have each : ∀ i ∈ List.range n, ∃ x : Int, cell (hpOf W) (a.add i) = some (.int .u32 x) ∧ 0 ≤ x ∧ x < 4294967296 := by
      intro i hi
      have hi := List.mem_range.1 hi
      have h2 := hel i hi
      rw [List.getElem?_eq_getElem (by omega)] at h2
      obtain ⟨cs, h3, h4⟩ := Option.bind_eq_some_iff.1 h2
      obtain ⟨x, e, _, w⟩ := DataW.trod_int (k := .u32) (by kernel_rfl) h4
      subst e
      have := (World.cells?_some h3).2.2 0 (by rw [hc1]; omega)
      rw [hc1, add_add, Nat.mul_one, Nat.add_zero] at this
      have h1 : (IntKind.u32.min : Int) = 0 := by rfl
      have h2 : (IntKind.u32.max : Int) = 4294967295 := by rfl
      simp only [Lit.wf, Bool.and_eq_true, decide_eq_true_eq, h1, h2] at w
      exact ⟨x, by rw [cell_hp]; exact this, by omega, by omega⟩
    obtain ⟨l, hll, hl2⟩ := pick_all (fun (i : Nat) (x : Int) => cell (hpOf W) (a.add i) = some (.int .u32 x) ∧ 0 ≤ x ∧ x < 4294967296) each
    simp only [List.length_range] at hll
    have get : ∀ i x, l[i]? = some x → cell (hpOf W) (a.add i) = some (.int .u32 x) ∧ 0 ≤ x ∧ x < 4294967296 := by
      intro i x hi
      have hil : i < n := by rw [← hll]; exact (List.getElem?_eq_some_iff.1 hi).1
      obtain ⟨x', h1, h2⟩ := hl2 i i (by simp [hil])
      rw [hi] at h1; cases h1; exact h2
    refine ⟨⟨some a, n, c⟩, l, rfl, ⟨hll.symm, hl, ?_⟩, ?_, ?_, ?_⟩
    · intro i v hi
      simp only [u32s, List.getElem?_map, Option.map_eq_some_iff] at hi
      obtain ⟨x, hx, rfl⟩ := hi
      exact ⟨a, rfl, (get i x hx).1⟩
    · intro x hx
      obtain ⟨i, hi, rfl⟩ := List.getElem_of_mem hx
      exact (get i _ (List.getElem?_eq_getElem hi)).2
    · have b1 : ∀ l : List (DataW H), l.length ≤ Rows.uptoBulkAll l := by
        intro l
        induction l with
        | nil => simp [Rows.uptoBulkAll]
        | cons x r ih =>
          have hx1 : 1 ≤ Rows.uptoBulk x := by cases x with
            | lit l => cases l <;> simp [Rows.uptoBulk]
            | _ => simp [Rows.uptoBulk]
          simp only [Rows.uptoBulkAll, List.length_cons]; omega
      have := b1 (elems.map (·.1))
      rw [List.length_map] at this
      simp only [Rows.uptoBulk]; omega
    · have := hwt ((elems.length + rest.length) * Try.prog.bytesOf 36) (by simp [DataW.weights, ht])
      rw [hb4] at this
      unfold reachBytes at this
      omega
end
end Go.Proofs.Ytabihmedfopdcaa

set_option linter.unusedVariables false
set_option maxRecDepth 100000
namespace Go.Proofs.Ytabihmedfopdcaa
open Go Go.Hw
/-! ### 22 (*slipway/slipwaylaw13.pair).last -/
noncomputable def B22 : Code := match Try.f22.body with | some c => c | none => .skip
def N22_l1_b (x0_p : Option Addr) (x1_k : Option Addr) (x5_look : Bool) (x6_l : Sl) (x7_i : Int) (Φ : Int → Hp → Prop) (x8_n : Int) (h : Hp) (K_e2 : Hp → Prop) (K_ret : Bool → Hp → Prop) : Prop :=
  idx x7_i x6_l.n <|
  nn x6_l.p fun a0 =>
  xI .i64 (cell h ((a0.add (x7_i.toNat * 3)).add 1)) fun n0 =>
  bif (decide (x8_n ≤ n0)) then
    idx x7_i x6_l.n <|
    nn x6_l.p fun a1 =>
    xI .i64 (cell h (a1.add (x7_i.toNat * 3))) fun n1 =>
    C20 x0_p x1_k 5 n1 0 0 0 0 ⟨none, 0, 0⟩ h fun b0 h0 =>
    bif (!b0) then
      K_ret false h0
    else
      Φ (IntKind.wrap .i64 (x8_n + 1)) h0
  else
    K_e2 h
def N22_l1_B (x0_p : Option Addr) (x1_k : Option Addr) (x5_look : Bool) (x6_l : Sl) (x7_i : Int) (K_e2 : Hp → Prop) (K_ret : Bool → Hp → Prop) (s : Sg.T [(8, .c (.int .i64))]) (h : Hp) (Φ : Sg.T [(8, .c (.int .i64))] → Hp → Prop) : Prop :=
  N22_l1_b x0_p x1_k x5_look x6_l x7_i (fun x8_n h => Φ x8_n h) s h K_e2 K_ret
def N22_l1 (x0_p : Option Addr) (x1_k : Option Addr) (x5_look : Bool) (x6_l : Sl) (x7_i : Int) (x8_n : Int) (h : Hp) (K_e2 : Hp → Prop) (K_ret : Bool → Hp → Prop) : Prop :=
  loopP (N22_l1_B x0_p x1_k x5_look x6_l x7_i K_e2 K_ret) x8_n h
noncomputable def N22_l1_t : Xf := loopT [(0, .c (.ptr)), (1, .c (.ptr)), (5, .c (.bool)), (6, .c (.slice)), (7, .c (.int .i64))] [(8, .c (.int .i64))] (codeAt B22 [1, 1, 1, 0, 1, 0, 0, 1, 0, 0, 1, 0, 0]) fun F Q => N22_l1_B F.1 F.2.1 F.2.2.1 F.2.2.2.1 F.2.2.2.2 (fun h' => Q (.exit 2) (Sg.env [] ()) h') (fun o0 h' => Q .ret (Sg.env [(4, .c (.bool))] o0) h')
theorem N22_l1_ok : Sound Try.prog Try.f22.ntmps N22_l1_t (codeAt B22 [1, 1, 1, 0, 1, 0, 0, 1, 0, 0, 1, 0]) := by
  refine loop_sound (fun e => match e with | .exit 2 => [] | .ret => [4] | _ => []) (by kernel_rfl) ?_
  intro F Q s h Φ hb
  refine den_sound hE hm _ .leaf _ _ _ (annOk_leaf) ?_
  refine cast ?_ hb
  kernel_rfl
def N22_l0_b (x0_p : Option Addr) (x1_k : Option Addr) (x5_look : Bool) (x6_l : Sl) (Φ : Int → Hp → Prop) (x7_i : Int) (h : Hp) (K_e0 : Hp → Prop) (K_ret : Bool → Hp → Prop) : Prop :=
  bif x5_look then
    bif (decide (x7_i < ((x6_l.n : Nat) : Int))) then
      N22_l1 x0_p x1_k x5_look x6_l x7_i 0 h
        (fun h0 =>
          Φ (IntKind.wrap .i64 (x7_i + 1)) h0)
        (fun b0 h1 =>
          K_ret b0 h1)
    else
      K_e0 h
  else
    K_e0 h
def N22_l0_B (x0_p : Option Addr) (x1_k : Option Addr) (x5_look : Bool) (x6_l : Sl) (K_e0 : Hp → Prop) (K_ret : Bool → Hp → Prop) (s : Sg.T [(7, .c (.int .i64))]) (h : Hp) (Φ : Sg.T [(7, .c (.int .i64))] → Hp → Prop) : Prop :=
  N22_l0_b x0_p x1_k x5_look x6_l (fun x7_i h => Φ x7_i h) s h K_e0 K_ret
def N22_l0 (x0_p : Option Addr) (x1_k : Option Addr) (x5_look : Bool) (x6_l : Sl) (x7_i : Int) (h : Hp) (K_e0 : Hp → Prop) (K_ret : Bool → Hp → Prop) : Prop :=
  loopP (N22_l0_B x0_p x1_k x5_look x6_l K_e0 K_ret) x7_i h
noncomputable def N22_l0_t : Xf := loopT [(0, .c (.ptr)), (1, .c (.ptr)), (5, .c (.bool)), (6, .c (.slice))] [(7, .c (.int .i64))] (codeAt B22 [1, 1, 1, 0, 1, 0, 0]) fun F Q => N22_l0_B F.1 F.2.1 F.2.2.1 F.2.2.2 (fun h' => Q (.exit 0) (Sg.env [] ()) h') (fun o0 h' => Q .ret (Sg.env [(4, .c (.bool))] o0) h')
theorem N22_l0_ok : Sound Try.prog Try.f22.ntmps N22_l0_t (codeAt B22 [1, 1, 1, 0, 1, 0]) := by
  refine loop_sound (fun e => match e with | .exit 0 => [] | .ret => [4] | _ => []) (by kernel_rfl) ?_
  intro F Q s h Φ hb
  refine den_sound hE hm _ (.two .leaf (.two (.one (.two .leaf (.one (.xf N22_l1_t)))) .leaf)) _ _ _ (⟨annOk_leaf, ⟨⟨annOk_leaf, N22_l1_ok⟩, annOk_leaf⟩⟩) ?_
  refine cast ?_ hb
  kernel_rfl
def N22 (x0 : Option Addr) (x1 : Option Addr) (h : Hp) (K : Bool → Hp → Prop) : Prop :=
  C20 x0 x1 6 0 0 0 0 0 ⟨none, 0, 0⟩ h fun b0 h0 =>
  nn x0 fun a0 =>
  xP (cell h0 (a0.add 1)) fun p0 =>
  C46 p0 h0 fun s0 h1 =>
  N22_l0 x0 x1 b0 s0 0 h1
    (fun h2 =>
      K b0 h2)
    (fun b1 h3 =>
      K b1 h3)
theorem S22 {x0 : Option Addr} {x1 : Option Addr} {h : Hp} {K : Bool → Hp → Prop} (hn : N22 x0 x1 h K) : C22 x0 x1 h K := by
  refine calls_of_D Try.func22 (c := B22) rfl (by kernel_rfl) ?_
  refine den_sound hE hm _ (.two .leaf (.two .leaf (.two .leaf (.two (.two .leaf (.one (.xf N22_l0_t))) .leaf)))) _ _ _ (⟨annOk_leaf, ⟨annOk_leaf, ⟨annOk_leaf, ⟨⟨annOk_leaf, N22_l0_ok⟩, annOk_leaf⟩⟩⟩⟩) ?_
  refine cast ?_ hn
  kernel_rfl
end Go.Proofs.Ytabihmedfopdcaa

set_option linter.unusedVariables false
set_option maxRecDepth 100000
namespace Go.Proofs.Ytabihmedfopdcaa
open Go Go.Hw
/-! ### 17 slipway/slipwaylaw13.beyond -/
noncomputable def B17 : Code := match Try.f17.body with | some c => c | none => .skip
def N17_l0_b (x0_script : Sl) (Φ : Int → Int → Hp → Prop) (x3_n : Int) (x4_i : Int) (h : Hp) (K_e0 : Int → Hp → Prop) : Prop :=
  bif (decide (x4_i < ((x0_script.n : Nat) : Int))) then
    bif (decide (x3_n ≤ 2147483647)) then
      idx x4_i x0_script.n <|
      nn x0_script.p fun a0 =>
      xL (cell h ((a0.add (x4_i.toNat * 7)).add 6)) fun s0 =>
      Φ (IntKind.wrap .i64 ((IntKind.wrap .i64 (x3_n + 1)) + ((s0.n : Nat) : Int))) (IntKind.wrap .i64 (x4_i + 1)) h
    else
      K_e0 x3_n h
  else
    K_e0 x3_n h
def N17_l0_B (x0_script : Sl) (K_e0 : Int → Hp → Prop) (s : Sg.T [(3, .c (.int .i64)), (4, .c (.int .i64))]) (h : Hp) (Φ : Sg.T [(3, .c (.int .i64)), (4, .c (.int .i64))] → Hp → Prop) : Prop :=
  N17_l0_b x0_script (fun x3_n x4_i h => Φ (x3_n, x4_i) h) s.1 s.2 h K_e0
def N17_l0 (x0_script : Sl) (x3_n : Int) (x4_i : Int) (h : Hp) (K_e0 : Int → Hp → Prop) : Prop :=
  loopP (N17_l0_B x0_script K_e0) (x3_n, x4_i) h
noncomputable def N17_l0_t : Xf := loopT [(0, .c (.slice))] [(3, .c (.int .i64)), (4, .c (.int .i64))] (codeAt B17 [1, 1, 0, 1, 0, 0]) fun F Q => N17_l0_B F (fun o0 h' => Q (.exit 0) (Sg.env [(3, .c (.int .i64))] o0) h')
theorem N17_l0_ok : Sound Try.prog Try.f17.ntmps N17_l0_t (codeAt B17 [1, 1, 0, 1, 0]) := by
  refine loop_sound (fun e => match e with | .exit 0 => [3] | _ => []) (by kernel_rfl) ?_
  intro F Q s h Φ hb
  refine den_sound hE hm _ .leaf _ _ _ (annOk_leaf) ?_
  refine cast ?_ hb
  kernel_rfl
def N17 (x0 : Sl) (h : Hp) (K : Bool → Hp → Prop) : Prop :=
  N17_l0 x0 0 0 h
    (fun n0 h0 =>
      K (decide (n0 > 2147483647)) h0)
theorem S17 {x0 : Sl} {h : Hp} {K : Bool → Hp → Prop} (hn : N17 x0 h K) : C17 x0 h K := by
  refine calls_of_D Try.func17 (c := B17) rfl (by kernel_rfl) ?_
  refine den_sound hE hm _ (.two .leaf (.two .leaf (.two (.two .leaf (.one (.xf N17_l0_t))) .leaf))) _ _ _ (⟨annOk_leaf, ⟨annOk_leaf, ⟨⟨annOk_leaf, N17_l0_ok⟩, annOk_leaf⟩⟩⟩) ?_
  refine cast ?_ hn
  kernel_rfl
end Go.Proofs.Ytabihmedfopdcaa

set_option linter.unusedVariables false
set_option maxRecDepth 100000
namespace Go.Proofs.Ytabihmedfopdcaa
open Go Go.Hw
/-! ### 6 slipway/slipwaylaw13.PortPlays -/
noncomputable def B6 : Code := match Try.f6.body with | some c => c | none => .skip
def N6_j0 (x5_script : Sl) (x14_up : Bool) (x15_p : Option Addr) (x16_q : Option Addr) (x92 : Bool) (h : Hp) (K_normal : Hp → Prop) (K_ret : Bool → Hp → Prop) : Prop :=
  bif x92 then
    bif x14_up then
      nn x15_p fun a0 =>
      xP (cell h (a0.add 2)) fun p0 =>
      peq h p0 none fun b0 =>
      bif (!b0) then
        nn x15_p fun a1 =>
        xP (cell h a1) fun p1 =>
        peq h p1 none fun b1 =>
        nn x15_p fun a2 =>
        xP (cell h (a2.add 1)) fun p2 =>
        peq h p2 none fun b2 =>
        bif (b1 == b2) then
          nn x16_q fun a3 =>
          xP (cell h a3) fun p3 =>
          peq h p3 none fun b3 =>
          nn x16_q fun a4 =>
          xP (cell h (a4.add 1)) fun p4 =>
          peq h p4 none fun b4 =>
          K_ret (b3 == b4) h
        else
          K_ret false h
      else
        K_ret false h
    else
      K_ret false h
  else
    K_normal h
noncomputable def N6_j0_t : Xf := pieceT [(5, .c (.slice)), (14, .c (.bool)), (15, .c (.ptr)), (16, .c (.ptr)), (92, .c (.bool))] (codeAt B6 [1, 1, 1, 1, 1, 1, 0, 1]) fun x h Q => N6_j0 x.1 x.2.1 x.2.2.1 x.2.2.2.1 x.2.2.2.2 h (fun h' => Q .normal (Sg.env [] ()) h') (fun o0 h' => Q .ret (Sg.env [(12, .c (.bool))] o0) h')
theorem N6_j0_ok : Sound Try.prog Try.f6.ntmps N6_j0_t (codeAt B6 [1, 1, 1, 1, 1, 1, 0, 1]) := by
  refine piece_sound (fun e => match e with | .normal => [] | .ret => [12] | _ => []) ?_
  intro x h Q hb
  refine den_sound hE hm _ (.two (.two (.ord [0, 1, 2, 3, 4, 5, 6, 7, 8, 9, 10, 11, 12, 13, 14, 15, 16, 17, 18, 19, 20, 21, 22, 23, 24, 25, 26, 27, 28, 29, 30, 31, 32, 33, 34]) .leaf) .leaf) _ _ _ (⟨⟨trivial, annOk_leaf⟩, annOk_leaf⟩) ?_
  refine cast ?_ hb
  kernel_rfl
def N6_j3 (x5_script : Sl) (x15_p : Option Addr) (x16_q : Option Addr) (x17_k : Option Addr) (x18_i : Int) (x19_ok : Bool) (h : Hp) (K_normal : Hp → Prop) (K_ret : Bool → Hp → Prop) : Prop :=
  bif (!x19_ok) then
    K_ret false h
  else
    K_normal h
noncomputable def N6_j3_t : Xf := pieceT [(5, .c (.slice)), (15, .c (.ptr)), (16, .c (.ptr)), (17, .c (.ptr)), (18, .c (.int .i64)), (19, .c (.bool))] (codeAt B6 [1, 1, 1, 1, 1, 1, 1, 1, 0, 1, 0, 0, 1, 0, 0, 1, 1]) fun x h Q => N6_j3 x.1 x.2.1 x.2.2.1 x.2.2.2.1 x.2.2.2.2.1 x.2.2.2.2.2 h (fun h' => Q .normal (Sg.env [] ()) h') (fun o0 h' => Q .ret (Sg.env [(12, .c (.bool))] o0) h')
theorem N6_j3_ok : Sound Try.prog Try.f6.ntmps N6_j3_t (codeAt B6 [1, 1, 1, 1, 1, 1, 1, 1, 0, 1, 0, 0, 1, 0, 0, 1, 1]) := by
  refine piece_sound (fun e => match e with | .normal => [] | .ret => [12] | _ => []) ?_
  intro x h Q hb
  refine den_sound hE hm _ .leaf _ _ _ (annOk_leaf) ?_
  refine cast ?_ hb
  kernel_rfl
def N6_l2_b (x5_script : Sl) (x15_p : Option Addr) (x16_q : Option Addr) (x17_k : Option Addr) (Φ : Int → Hp → Prop) (x18_i : Int) (h : Hp) (K_e0 : Hp → Prop) (K_ret : Bool → Hp → Prop) : Prop :=
  bif (decide (x18_i < ((x5_script.n : Nat) : Int))) then
    bif ((Int.tmod x18_i 4) == 3) then
      idx x18_i x5_script.n <|
      nn x5_script.p fun a0 =>
      xI .i64 (cell h (a0.add (x18_i.toNat * 7))) fun n0 =>
      xI .i64 (cell h ((a0.add (x18_i.toNat * 7)).add 1)) fun n1 =>
      xI .u32 (cell h ((a0.add (x18_i.toNat * 7)).add 2)) fun n2 =>
      xI .u32 (cell h ((a0.add (x18_i.toNat * 7)).add 3)) fun n3 =>
      xI .i64 (cell h ((a0.add (x18_i.toNat * 7)).add 4)) fun n4 =>
      xI .i64 (cell h ((a0.add (x18_i.toNat * 7)).add 5)) fun n5 =>
      xL (cell h ((a0.add (x18_i.toNat * 7)).add 6)) fun s0 =>
      C20 x16_q x17_k n0 n1 n2 n3 n4 n5 s0 h fun b0 h0 =>
      N6_j3 x5_script x15_p x16_q x17_k x18_i b0 h0
        (fun h1 =>
          Φ (IntKind.wrap .i64 (x18_i + 1)) h1)
        (fun b1 h2 =>
          K_ret b1 h2)
    else
      idx x18_i x5_script.n <|
      nn x5_script.p fun a1 =>
      xI .i64 (cell h (a1.add (x18_i.toNat * 7))) fun n6 =>
      xI .i64 (cell h ((a1.add (x18_i.toNat * 7)).add 1)) fun n7 =>
      xI .u32 (cell h ((a1.add (x18_i.toNat * 7)).add 2)) fun n8 =>
      xI .u32 (cell h ((a1.add (x18_i.toNat * 7)).add 3)) fun n9 =>
      xI .i64 (cell h ((a1.add (x18_i.toNat * 7)).add 4)) fun n10 =>
      xI .i64 (cell h ((a1.add (x18_i.toNat * 7)).add 5)) fun n11 =>
      xL (cell h ((a1.add (x18_i.toNat * 7)).add 6)) fun s1 =>
      C20 x15_p x17_k n6 n7 n8 n9 n10 n11 s1 h fun b2 h3 =>
      N6_j3 x5_script x15_p x16_q x17_k x18_i b2 h3
        (fun h4 =>
          Φ (IntKind.wrap .i64 (x18_i + 1)) h4)
        (fun b3 h5 =>
          K_ret b3 h5)
  else
    K_e0 h
def N6_l2_B (x5_script : Sl) (x15_p : Option Addr) (x16_q : Option Addr) (x17_k : Option Addr) (K_e0 : Hp → Prop) (K_ret : Bool → Hp → Prop) (s : Sg.T [(18, .c (.int .i64))]) (h : Hp) (Φ : Sg.T [(18, .c (.int .i64))] → Hp → Prop) : Prop :=
  N6_l2_b x5_script x15_p x16_q x17_k (fun x18_i h => Φ x18_i h) s h K_e0 K_ret
def N6_l2 (x5_script : Sl) (x15_p : Option Addr) (x16_q : Option Addr) (x17_k : Option Addr) (x18_i : Int) (h : Hp) (K_e0 : Hp → Prop) (K_ret : Bool → Hp → Prop) : Prop :=
  loopP (N6_l2_B x5_script x15_p x16_q x17_k K_e0 K_ret) x18_i h
noncomputable def N6_l2_t : Xf := loopT [(5, .c (.slice)), (15, .c (.ptr)), (16, .c (.ptr)), (17, .c (.ptr))] [(18, .c (.int .i64))] (codeAt B6 [1, 1, 1, 1, 1, 1, 1, 1, 0, 1, 0, 0]) fun F Q => N6_l2_B F.1 F.2.1 F.2.2.1 F.2.2.2 (fun h' => Q (.exit 0) (Sg.env [] ()) h') (fun o0 h' => Q .ret (Sg.env [(12, .c (.bool))] o0) h')
theorem N6_l2_ok : Sound Try.prog Try.f6.ntmps N6_l2_t (codeAt B6 [1, 1, 1, 1, 1, 1, 1, 1, 0, 1, 0]) := by
  refine loop_sound (fun e => match e with | .exit 0 => [] | .ret => [12] | _ => []) (by kernel_rfl) ?_
  intro F Q s h Φ hb
  refine den_sound hE hm _ (.two .leaf (.two (.one (.two .leaf (.two .leaf (.xf N6_j3_t)))) .leaf)) _ _ _ (⟨annOk_leaf, ⟨⟨annOk_leaf, ⟨annOk_leaf, N6_j3_ok⟩⟩, annOk_leaf⟩⟩) ?_
  refine cast ?_ hb
  kernel_rfl
def N6_j1 (x5_script : Sl) (x15_p : Option Addr) (x16_q : Option Addr) (h : Hp) (K_ret : Bool → Hp → Prop) : Prop :=
  nw h (.cells ⟨[.slice none 0 0, .slice none 0 0]⟩ 63) fun b0 h0 =>
  nw h0 (.cells ⟨[.pointer (some (bk b0)), .slice none 0 0, .slice none 0 0]⟩ 66) fun b1 h1 =>
  N6_l2 x5_script x15_p x16_q (some (bk b1)) 0 h1
    (fun h2 =>
      C21 (some (bk b1)) h2 fun b2 h3 =>
      nw h3 (.cells ⟨[.slice none 0 0, .slice none 0 0]⟩ 63) fun b3 h4 =>
      nw h4 (.cells ⟨[.pointer (some (bk b3)), .slice none 0 0, .slice none 0 0]⟩ 66) fun b4 h5 =>
      C22 x15_p (some (bk b4)) h5 fun b5 h6 =>
      C22 x16_q (some (bk b4)) h6 fun b6 h7 =>
      C21 (some (bk b4)) h7 fun b7 h8 =>
      bif b2 then
        bif b5 then
          bif b6 then
            K_ret b7 h8
          else
            K_ret false h8
        else
          K_ret false h8
      else
        K_ret false h8)
    (fun b8 h9 =>
      K_ret b8 h9)
noncomputable def N6_j1_t : Xf := pieceT [(5, .c (.slice)), (15, .c (.ptr)), (16, .c (.ptr))] (codeAt B6 [1, 1, 1, 1, 1, 1, 1]) fun x h Q => N6_j1 x.1 x.2.1 x.2.2 h (fun o0 h' => Q .ret (Sg.env [(12, .c (.bool))] o0) h')
theorem N6_j1_ok : Sound Try.prog Try.f6.ntmps N6_j1_t (codeAt B6 [1, 1, 1, 1, 1, 1, 1]) := by
  refine piece_sound (fun e => match e with | .ret => [12] | _ => []) ?_
  intro x h Q hb
  refine den_sound hE hm _ (.two .leaf (.two (.two .leaf (.one (.xf N6_l2_t))) .leaf)) _ _ _ (⟨annOk_leaf, ⟨⟨annOk_leaf, N6_l2_ok⟩, annOk_leaf⟩⟩) ?_
  refine cast ?_ hb
  kernel_rfl
def N6 (x0 : Int) (x1 : Int) (x2 : Int) (x3 : Int) (x4 : Sl) (x5 : Sl) (h : Hp) (K : Bool → Hp → Prop) : Prop :=
  C17 x5 h fun b0 h0 =>
  bif b0 then
    K true h0
  else
    C7 h0 fun b1 h1 =>
    C8 x0 x1 h1 fun p0 h2 =>
    C18 x0 x1 h2 fun p1 h3 =>
    C10 x4 h3 fun p2 h4 =>
    C19 x4 h4 fun p3 h5 =>
    nw h5 (.cells ⟨[.pointer p0, .pointer p1, .pointer p2, .pointer p3]⟩ 58) fun b2 h6 =>
    xP (cell h6 ((bk b2).add 2)) fun p4 =>
    xP (cell h6 ((bk b2).add 3)) fun p5 =>
    C8 x2 x3 h6 fun p6 h7 =>
    both (xP (cell h7 ((bk b2).add 3)) fun p7 => Only (.pointer p5) h7 (.pointer p7) h7) <|
    both (xP (cell h7 ((bk b2).add 2)) fun p8 => Only (.pointer p4) h7 (.pointer p8) h7) <|
    C18 x2 x3 h7 fun p9 h8 =>
    both (xP (cell h8 ((bk b2).add 3)) fun p10 => Only (.pointer p5) h8 (.pointer p10) h8) <|
    both (xP (cell h8 ((bk b2).add 2)) fun p11 => Only (.pointer p4) h8 (.pointer p11) h8) <|
    nw h8 (.cells ⟨[.pointer p6, .pointer p9, .pointer p4, .pointer p5]⟩ 58) fun b3 h9 =>
    bif (!b1) then
      N6_j0 x5 b1 (some (bk b2)) (some (bk b3)) true h9
        (fun h10 =>
          N6_j1 x5 (some (bk b2)) (some (bk b3)) h10
            (fun b4 h11 =>
              K b4 h11))
        (fun b5 h12 =>
          K b5 h12)
    else
      xP (cell h9 ((bk b2).add 2)) fun p12 =>
      peq h9 p12 none fun b6 =>
      bif b6 then
        N6_j0 x5 b1 (some (bk b2)) (some (bk b3)) true h9
          (fun h13 =>
            N6_j1 x5 (some (bk b2)) (some (bk b3)) h13
              (fun b7 h14 =>
                K b7 h14))
          (fun b8 h15 =>
            K b8 h15)
      else
        xP (cell h9 (bk b2)) fun p13 =>
        peq h9 p13 none fun b9 =>
        bif b9 then
          N6_j0 x5 b1 (some (bk b2)) (some (bk b3)) true h9
            (fun h16 =>
              N6_j1 x5 (some (bk b2)) (some (bk b3)) h16
                (fun b10 h17 =>
                  K b10 h17))
            (fun b11 h18 =>
              K b11 h18)
        else
          xP (cell h9 ((bk b2).add 1)) fun p14 =>
          peq h9 p14 none fun b12 =>
          bif b12 then
            N6_j0 x5 b1 (some (bk b2)) (some (bk b3)) true h9
              (fun h19 =>
                N6_j1 x5 (some (bk b2)) (some (bk b3)) h19
                  (fun b13 h20 =>
                    K b13 h20))
              (fun b14 h21 =>
                K b14 h21)
          else
            xP (cell h9 (bk b3)) fun p15 =>
            peq h9 p15 none fun b15 =>
            bif b15 then
              N6_j0 x5 b1 (some (bk b2)) (some (bk b3)) true h9
                (fun h22 =>
                  N6_j1 x5 (some (bk b2)) (some (bk b3)) h22
                    (fun b16 h23 =>
                      K b16 h23))
                (fun b17 h24 =>
                  K b17 h24)
            else
              xP (cell h9 ((bk b3).add 1)) fun p16 =>
              peq h9 p16 none fun b18 =>
              N6_j0 x5 b1 (some (bk b2)) (some (bk b3)) b18 h9
                (fun h25 =>
                  N6_j1 x5 (some (bk b2)) (some (bk b3)) h25
                    (fun b19 h26 =>
                      K b19 h26))
                (fun b20 h27 =>
                  K b20 h27)
theorem S6 {x0 : Int} {x1 : Int} {x2 : Int} {x3 : Int} {x4 : Sl} {x5 : Sl} {h : Hp} {K : Bool → Hp → Prop} (hn : N6 x0 x1 x2 x3 x4 x5 h K) : C6 x0 x1 x2 x3 x4 x5 h K := by
  refine calls_of_D Try.func6 (c := B6) rfl (by kernel_rfl) ?_
  refine den_sound hE hm _ (.two .leaf (.two .leaf (.two .leaf (.two .leaf (.two .leaf (.two (.ord [0, 1, 3, 4, 6, 7, 8, 9, 10, 11, 12, 13, 2, 5, 14, 15, 16]) (.two (.two .leaf (.xf N6_j0_t)) (.xf N6_j1_t)))))))) _ _ _ (⟨annOk_leaf, ⟨annOk_leaf, ⟨annOk_leaf, ⟨annOk_leaf, ⟨annOk_leaf, ⟨trivial, ⟨⟨annOk_leaf, N6_j0_ok⟩, N6_j1_ok⟩⟩⟩⟩⟩⟩⟩) ?_
  refine cast ?_ hn
  kernel_rfl
end Go.Proofs.Ytabihmedfopdcaa

/-
  Ports: two tables in turns: the law's function PortPlays, walked.
-/
set_option linter.unusedSimpArgs false
set_option linter.unusedVariables false
set_option maxRecDepth 20000
namespace Go.Proofs.Ytabihmedfopdcaa
open Go Go.Hw

theorem c_bey {s0 : Sl} {ops : List Opd} {h : Hp} {K : Bool → Hp → Prop} (H : OpsR h s0 ops) (hl : ops.length ≤ 2513169434843) (hK : ∀ b, K b h) : C17 s0 h K := by
  apply S17; unfold N17 N17_l0
  refine loopP_inv (fun (x : Int × Int) hc => hc = h ∧ ∃ i : Nat, x.2 = i ∧ i ≤ ops.length) (fun x _ => ops.length - x.2.toNat) ?_ ⟨rfl, 0, rfl, Nat.zero_le _⟩
  rintro ⟨m, x⟩ hc ⟨rfl, i, hx, hi⟩
  simp only at hx
  subst hx
  unfold N17_l0_B N17_l0_b
  dsimp only
  have sn := H.1
  by_cases hlt : i < ops.length
  · rw [dec_lt (by omega), cond_true]
    cases hq : decide (m ≤ 2147483647) with
    | true =>
      rw [cond_true]
      obtain ⟨a, hp, _, _, _, _, _, _, c6⟩ := H.at (List.getElem?_eq_getElem hlt)
      refine idx_of (by omega) (by omega) ?_
      rw [hp]
      simp only [nn_some', Int.toNat_natCast, c6, xL_v]
      rw [nat_succ64 (by omega)]
      exact ⟨⟨trivial, i + 1, rfl, hlt⟩, by first | omega | (dsimp only; omega)⟩
    | false => rw [cond_false]; exact hK _
  · rw [dec_ge (by omega), cond_false]
    exact hK _

theorem c_standsP {L : List Asn} {k kb : Nat} {E : List E3} {EB : List Ent} {h : Hp} {K : Bool → Hp → Prop} (hs : Sat (L ++ [kept0 k [.pointer (some (bk kb))] E, star (E.map own3), star (E.map wer3), bookA kb EB]) h) (hg : Kpt E EB) (hE : E.length ≤ 1000000000) (hEB : EB.length ≤ 1000000000) (hK : ∀ h', Sat L h' → K true h') : C21 (some (bk k)) h K := by
  apply S21; unfold N21
  have g1 : Sat (L ++ ([bookA kb EB] ++ [kept0 k [.pointer (some (bk kb))] E, star (E.map own3), star (E.map wer3)])) h := hs.sel [3, 0, 1, 2] (by decide) rfl
  refine stands_walk (Sat.csa g1) (by omega) ?_ ?_ ?_
  · intro e he
    obtain ⟨ps, h1, h2⟩ := hg.e e he
    obtain ⟨j, hj, hej⟩ := List.getElem_of_mem he
    have g3 : Sat (L ++ ([bookA kb EB, kept0 k [.pointer (some (bk kb))] E, star (E.map wer3)] ++ [star (E.map own3)])) h := hs.sel [3, 0, 2, 1] (by decide) rfl
    have ho := (Sat.csa g3).open.own j (T := 72) (sz := 3) (s := e.1) (vs := e.2.2) (by rw [List.getElem?_map, List.getElem?_eq_getElem hj, hej]; rfl)
    have := ho.1
    rw [h1, sts_len] at this
    omega
  · intro e he h K o1 o2 hK
    obtain ⟨ps, h1, h2⟩ := hg.e e he
    rw [h1] at o1 o2
    exact c_sames o1 o2 (by omega) (hK h Ext.refl)
  · intro h2 hs2
    have hs2 : Sat (L ++ [bookA kb EB, kept0 k [.pointer (some (bk kb))] E]) h2 := Sat.asc hs2
    obtain ⟨kp, kq, g2⟩ := kept0_open (Sat.csa (A := [bookA kb EB]) hs2)
    have g2 : Sat (L ++ [bookA kb EB, row k 66 ([.pointer (some (bk kb))] ++ [kp.v, kq.v]), Hw.own 25 1 kp (E.map fun e => e.1.v), Hw.own 25 1 kq (E.map fun e => e.2.1.v)]) h2 := Sat.asc g2
    simp only [nn_some']
    refine g2.lP 1 rfl rfl ?_
    refine c_owned (hs2.sel [0] (by decide) rfl) (by omega) (fun e he => by have := hg.b e he; omega) ?_
    intro h3 hs3
    exact hK h3 hs3

/-- all that is open, and all that waits -/
theorem c_last {L : List Asn} {pb b R kd kr k kb M : Nat} {t : Tb} {l : List Int} {E : List E3} {EB : List Ent} {h : Hp} {K : Bool → Hp → Prop}
    (hs : Sat (L ++ [row pb 58 [.pointer (some (bk b)), .pointer (some (bk R)), .pointer (some (bk kd)), .pointer (some (bk kr))], portsA b t, refP R t, diceA 88 kd l, diceA 98 kr l, kept0 k [.pointer (some (bk kb))] E, star (E.map own3), star (E.map wer3), bookA kb EB]) h) (ho : Ok M t) (hdo : DOk t) (hM : M ≤ 100000000000000000) (hu : U32s l) (hE : E.length ≤ 100000000) (hEB : EB.length ≤ 100000000) (hg : Kpt E EB)
    (hK : ∀ h' t' l' E' EB', Sat (L ++ [row pb 58 [.pointer (some (bk b)), .pointer (some (bk R)), .pointer (some (bk kd)), .pointer (some (bk kr))], portsA b t', refP R t', diceA 88 kd l', diceA 98 kr l', kept0 k [.pointer (some (bk kb))] E', star (E'.map own3), star (E'.map wer3), bookA kb EB']) h' → U32s l' → E'.length ≤ E.length + 600 → EB'.length ≤ EB.length + 600 → Kpt E' EB' → K true h') :
    C22 (some (bk pb)) (some (bk k)) h K := by
  apply S22; unfold N22
  refine c_step (d := ⟨0, 0, 0, 0, []⟩) (s := ⟨none, 0, 0⟩) hs ho hdo (by omega) hu (fun h' _ => RdB.nil) (by simp) (by omega) (by omega) hg ?_
  intro h1 t1 l1 E1 EB1 hs1 ho1 hdo1 hu1 hE1 hEB1 hg1 _ _
  refine hs1.lP 0 rfl rfl ?_
  have g1 : Sat (L ++ ([row pb 58 [.pointer (some (bk b)), .pointer (some (bk R)), .pointer (some (bk kd)), .pointer (some (bk kr))], portsA b t1, diceA 88 kd l1, diceA 98 kr l1, kept0 k [.pointer (some (bk kb))] E1, star (E1.map own3), star (E1.map wer3), bookA kb EB1] ++ [refP R t1])) h1 := hs1.sel [0, 1, 3, 4, 5, 6, 7, 8, 2] (by decide) rfl
  refine c_RLook (Sat.csa g1) ho1 ?_
  intro s0 h2 hs2
  have hs2 : Sat (L ++ ([Hw.own 72 3 s0 (sts t1.ps)] ++ [row pb 58 [.pointer (some (bk b)), .pointer (some (bk R)), .pointer (some (bk kd)), .pointer (some (bk kr))], portsA b t1, refP R t1, diceA 88 kd l1, diceA 98 kr l1, kept0 k [.pointer (some (bk kb))] E1, star (E1.map own3), star (E1.map wer3), bookA kb EB1])) h2 := (Sat.asc hs2).sel [9, 0, 1, 8, 2, 3, 4, 5, 6, 7] (by decide) rfl
  have hl16 := ho1.len
  have sn : s0.n = t1.ps.length := by have := (hs2.own 0 rfl).1; rw [sts_len] at this; omega
  have key : ∀ {ps : List PS} {i : Nat} {p : PS}, ps[i]? = some p → (sts ps)[i * 3]? = some (.int .i64 p.n) ∧ (sts ps)[i * 3 + 1]? = some (.int .i64 (p.l.length : Int)) := by
    intro ps
    induction ps with
    | nil => intro i p h; simp at h
    | cons y ps ih =>
      intro i p h
      have e : sts (y :: ps) = st3 y ++ sts ps := rfl
      rw [e]
      cases i with
      | zero => simp at h; subst h; exact ⟨rfl, rfl⟩
      | succ i =>
        have := ih (i := i) (p := p) (by simpa using h)
        have hl3 : (st3 y).length = 3 := rfl
        rw [List.getElem?_append_right (by omega), List.getElem?_append_right (by omega), hl3, show (i + 1) * 3 - 3 = i * 3 by omega, show (i + 1) * 3 + 1 - 3 = i * 3 + 1 by omega]
        exact this
  unfold N22_l0
  refine loopP_inv (fun (x : Int) hc => ∃ (i : Nat) (t' : Tb) (l' : List Int) (E' : List E3) (EB' : List Ent), x = i ∧ i ≤ t1.ps.length ∧ Sat (L ++ ([Hw.own 72 3 s0 (sts t1.ps)] ++ [row pb 58 [.pointer (some (bk b)), .pointer (some (bk R)), .pointer (some (bk kd)), .pointer (some (bk kr))], portsA b t', refP R t', diceA 88 kd l', diceA 98 kr l', kept0 k [.pointer (some (bk kb))] E', star (E'.map own3), star (E'.map wer3), bookA kb EB'])) hc ∧
      Ok (M + 1 + i * 33) t' ∧ DOk t' ∧ U32s l' ∧ E'.length ≤ E1.length + i * 33 ∧ EB'.length ≤ EB1.length + i * 33 ∧ Kpt E' EB') (fun x _ => t1.ps.length - x.toNat) ?_
    ⟨0, t1, l1, E1, EB1, rfl, Nat.zero_le _, hs2, ho1, hdo1, hu1, by omega, by omega, hg1⟩
  clear hs2 hs1 hs g1
  rintro x hc ⟨i, t2, l2, E2, EB2, rfl, hi, hs, ho2, hdo2, hu2, hE2, hEB2, hg2⟩
  unfold N22_l0_B N22_l0_b
  rw [cond_true]
  by_cases hlt : i < t1.ps.length
  · rw [dec_lt (by omega), cond_true]
    have hp : t1.ps[i]? = some t1.ps[i] := List.getElem?_eq_getElem hlt
    have hpq := ho1.q _ (List.getElem_mem hlt)
    generalize t1.ps[i] = p at hp hpq
    obtain ⟨k0, k1⟩ := key hp
    unfold N22_l1
    refine loopP_inv (fun (y : Int) hc => ∃ (n : Nat) (t' : Tb) (l' : List Int) (E' : List E3) (EB' : List Ent), y = n ∧ n ≤ p.l.length + 1 ∧ Sat (L ++ ([Hw.own 72 3 s0 (sts t1.ps)] ++ [row pb 58 [.pointer (some (bk b)), .pointer (some (bk R)), .pointer (some (bk kd)), .pointer (some (bk kr))], portsA b t', refP R t', diceA 88 kd l', diceA 98 kr l', kept0 k [.pointer (some (bk kb))] E', star (E'.map own3), star (E'.map wer3), bookA kb EB'])) hc ∧
        Ok (M + 1 + i * 33 + n) t' ∧ DOk t' ∧ U32s l' ∧ E'.length ≤ E1.length + i * 33 + n ∧ EB'.length ≤ EB1.length + i * 33 + n ∧ Kpt E' EB') (fun y _ => p.l.length + 1 - y.toNat) ?_
      ⟨0, t2, l2, E2, EB2, rfl, Nat.zero_le _, hs, ho2, hdo2, hu2, by omega, by omega, hg2⟩
    clear hs
    rintro y hd ⟨n, t3, l3, E3', EB3, rfl, hn, hs, ho3, hdo3, hu3, hE3, hEB3, hg3⟩
    unfold N22_l1_B N22_l1_b
    refine idx_of (by omega) (by omega) ?_
    simp only [Int.toNat_natCast, addadd]
    refine hs.oI 0 rfl k1 ?_
    by_cases hnl : n < p.l.length + 1
    · have : decide ((n : Int) ≤ (p.l.length : Int)) = true := by simp; omega
      rw [this, cond_true]
      refine idx_of (by omega) (by omega) ?_
      refine hs.oI 0 rfl k0 ?_
      refine c_step (d := ⟨0, 0, 0, 0, []⟩) (s := ⟨none, 0, 0⟩) (Sat.csa hs) ho3 hdo3 (by omega) hu3 (fun h' _ => RdB.nil) (by simp) (by omega) (by omega) hg3 ?_
      intro h5 t5 l5 E5 EB5 hs5 ho5 hdo5 hu5 hE5 hEB5 hg5 _ _
      simp only [Bool.not_true, cond_false]
      rw [nat_succ64 (by omega)]
      exact ⟨⟨n + 1, t5, l5, E5, EB5, rfl, hnl, Sat.asc hs5, ho5, hdo5, hu5, by omega, by omega, hg5⟩, by omega⟩
    · have : decide ((n : Int) ≤ (p.l.length : Int)) = false := by simp; omega
      rw [this, cond_false]
      rw [nat_succ64 (by omega)]
      exact ⟨⟨i + 1, t3, l3, E3', EB3, rfl, hlt, hs, ho3.mono (by omega), hdo3, hu3, by omega, by omega, hg3⟩, by omega⟩
  · rw [dec_ge (by omega), cond_false]
    have g2 : Sat (L ++ [row pb 58 [.pointer (some (bk b)), .pointer (some (bk R)), .pointer (some (bk kd)), .pointer (some (bk kr))], portsA b t2, refP R t2, diceA 88 kd l2, diceA 98 kr l2, kept0 k [.pointer (some (bk kb))] E2, star (E2.map own3), star (E2.map wer3), bookA kb EB2]) hc := hs.sel [1, 2, 3, 4, 5, 6, 7, 8, 9] (by decide) rfl
    exact hK hc t2 l2 E2 EB2 g2 hu2 (by omega) (by omega) hg2

/-- a book and lists, begun -/
theorem kept_new {L M : List Asn} {h : Hp} {F : Nat → Nat → Hp → Prop} (hs : Sat (L ++ M) h) (hF : ∀ kb k h', Sat (L ++ (M ++ [kept0 k [.pointer (some (bk kb))] [], star (([] : List E3).map own3), star (([] : List E3).map wer3), bookA kb []])) h' → F kb k h') :
    nw h (.cells ⟨[.slice none 0 0, .slice none 0 0]⟩ 63) fun kb h0 => nw h0 (.cells ⟨[.pointer (some (bk kb)), .slice none 0 0, .slice none 0 0]⟩ 66) fun k h1 => F kb k h1 := by
  intro kb e0
  have a1 := ((Sat.csa (hs.new e0 (.cells ⟨[.slice none 0 0, .slice none 0 0]⟩ 63 (0, 0)))).addNil 37 1).addNil 9 1
  revert a1
  generalize upd h kb _ = h1
  intro a1
  have a2 : Sat (((L ++ M) ++ [row kb 63 [.slice none 0 0, .slice none 0 0], Hw.own 37 1 ⟨none, 0, 0⟩ [], Hw.own 9 1 ⟨none, 0, 0⟩ []]) ++ []) h1 := by rw [List.append_nil]; exact a1
  have a3 : Sat ((L ++ M) ++ [row kb 63 [.slice none 0 0, .slice none 0 0], Hw.own 37 1 ⟨none, 0, 0⟩ [], Hw.own 9 1 ⟨none, 0, 0⟩ [], star []]) h1 := Sat.asc a2.close
  have a4 : Sat ((L ++ M) ++ [bookA kb []]) h1 := Sat.ex (A := fun p : Sl × Sl => star [row kb 63 [p.1.v, p.2.v], Hw.own 37 1 p.1 (([] : List Ent).map fun e => e.1.v), Hw.own 9 1 p.2 (([] : List Ent).map fun e => .string ⟨⟨e.2⟩⟩), star (([] : List Ent).map ownB)]) (⟨none, 0, 0⟩, ⟨none, 0, 0⟩) a3.close
  intro k e1
  have b1 := ((Sat.csa (a4.new e1 (.cells ⟨[.pointer (some (bk kb)), .slice none 0 0, .slice none 0 0]⟩ 66 (0, 0)))).addNil 25 1).addNil 25 1
  revert b1
  generalize upd h1 k _ = h2
  intro b1
  have b2 : Sat (((L ++ M) ++ [bookA kb []]) ++ [row k 66 ([.pointer (some (bk kb))] ++ [(⟨none, 0, 0⟩ : Sl).v, (⟨none, 0, 0⟩ : Sl).v]), Hw.own 25 1 ⟨none, 0, 0⟩ (([] : List E3).map fun e => e.1.v), Hw.own 25 1 ⟨none, 0, 0⟩ (([] : List E3).map fun e => e.2.1.v)]) h2 := b1
  have b3 := Sat.asc (kept0_shut b2)
  have b4 : Sat (((L ++ M) ++ [bookA kb [], kept0 k [.pointer (some (bk kb))] []]) ++ []) h2 := by rw [List.append_nil]; exact b3
  have b5 : Sat (((L ++ M) ++ [bookA kb [], kept0 k [.pointer (some (bk kb))] [], star []]) ++ []) h2 := by rw [List.append_nil]; exact Sat.asc b4.close
  have b6 : Sat ((L ++ M) ++ [bookA kb [], kept0 k [.pointer (some (bk kb))] [], star [], star []]) h2 := Sat.asc b5.close
  exact hF kb k h2 (Sat.asc (b6.sel [1, 2, 3, 0] (by decide) rfl))

theorem c_plays {most depth other another : Int} {sd so : Sl} {draws : List Int} {ops : List Opd} {h : Hp} {K : Bool → Hp → Prop} (hd : RdU h sd draws) (hu : U32s draws) (hdl : draws.length ≤ 1048576) (H : OpsR h so ops) (hl : ops.length ≤ 1048576) (hb : ∀ o ∈ ops, o.d.data.length ≤ 1048576)
    (hK : ∀ h', Ext none' h h' → K true h') : C6 most depth other another sd so h K := by
  apply S6; unfold N6
  refine c_bey H (by omega) ?_
  intro much
  cases much with
  | true => rw [cond_true]; exact hK h Ext.refl
  | false =>
  rw [cond_false]
  refine p_live (L := []) (M := [Hw.was h]) Sat.start ?_
  intro h1 hs1
  -- the two tables, made or not
  have made : ∀ (M : List Asn) (most depth : Int) (hh : Hp) (F : Option Addr → Option Addr → Hp → Prop), Sat ([Hw.was h] ++ M) hh →
      (∀ hh', Sat ([Hw.was h] ++ M) hh' → F none none hh') → (∀ b R hh', Ok 0 ⟨most, depth, []⟩ → Sat ([Hw.was h] ++ (M ++ [portsA b ⟨most, depth, []⟩, refP R ⟨most, depth, []⟩])) hh' → F (some (bk b)) (some (bk R)) hh') →
      C8 most depth hh fun p0 h2 => C18 most depth h2 fun p1 h3 => F p0 p1 h3 := by
    intro M most depth hh F hs hno hyes
    refine p_new hs ?_ ?_
    · intro hn
      refine c_RNew hs (fun _ => hno hh hs) (fun hy => absurd hy hn)
    · intro hy b h2 hs2
      refine c_RNew hs2 (fun hn => absurd hy hn) ?_
      intro _ R h3 hs3
      refine hyes b R h3 (Ok0 hy) ?_
      rw [List.append_assoc] at hs3; exact hs3
  -- what comes where a table was not made
  have jnil : ∀ (pb qb : Nat) (p0 p1 p6 p9 : Option Addr) (kd kr : Nat) (M : List Asn) (hh : Hp) (Kn : Hp → Prop), p0.isNone = p1.isNone → p6.isNone = p9.isNone →
      Sat ([] ++ ([Hw.was h, row pb 58 [.pointer p0, .pointer p1, .pointer (some (bk kd)), .pointer (some (bk kr))], row qb 58 [.pointer p6, .pointer p9, .pointer (some (bk kd)), .pointer (some (bk kr))]] ++ M)) hh →
      N6_j0 so true (some (bk pb)) (some (bk qb)) true hh Kn fun b h => K b h := by
    intro pb qb p0 p1 p6 p9 kd kr M hh Kn e1 e2 hs
    unfold N6_j0
    simp only [cond_true, nn_some', add_bk]
    have hs := (Sat.csa hs).left
    refine hs.lP 1 rfl rfl ?_
    simp only [peq_none, Option.isNone_some, Bool.not_false, cond_true]
    refine hs.lP 1 rfl rfl ?_
    refine hs.lP 1 rfl rfl ?_
    simp only [e1, beq_self_eq_true, cond_true]
    refine hs.lP 2 rfl rfl ?_
    refine hs.lP 2 rfl rfl ?_
    simp only [e2, beq_self_eq_true]
    exact hK hh (hs.was 0 rfl)
  -- behind the making
  have go : ∀ (M : List Asn) (p0 p1 : Option Addr) (hh : Hp), p0.isNone = p1.isNone → Sat ([Hw.was h] ++ M) hh → (p0 = none ∨ ∃ b R, p0 = some (bk b) ∧ p1 = some (bk R) ∧ Ok 0 ⟨most, depth, []⟩ ∧ M = [portsA b ⟨most, depth, []⟩, refP R ⟨most, depth, []⟩]) →
      C10 sd hh fun p2 h4 => C19 sd h4 fun p3 h5 => nw h5 (.cells ⟨[.pointer p0, .pointer p1, .pointer p2, .pointer p3]⟩ 58) fun b2 h6 => xP (cell h6 ((bk b2).add 2)) fun p4 => xP (cell h6 ((bk b2).add 3)) fun p5 =>
        C8 other another h6 fun p6 h7 => both (xP (cell h7 ((bk b2).add 3)) fun p7 => Only (.pointer p5) h7 (.pointer p7) h7) <| both (xP (cell h7 ((bk b2).add 2)) fun p8 => Only (.pointer p4) h7 (.pointer p8) h7) <|
        C18 other another h7 fun p9 h8 => both (xP (cell h8 ((bk b2).add 3)) fun p10 => Only (.pointer p5) h8 (.pointer p10) h8) <| both (xP (cell h8 ((bk b2).add 2)) fun p11 => Only (.pointer p4) h8 (.pointer p11) h8) <|
        nw h8 (.cells ⟨[.pointer p6, .pointer p9, .pointer p4, .pointer p5]⟩ 58) fun b3 h9 =>
      xP (cell h9 ((bk b2).add 2)) fun p12 => peq h9 p12 none fun b6 => bif b6 then N6_j0 so true (some (bk b2)) (some (bk b3)) true h9 (fun h13 => N6_j1 so (some (bk b2)) (some (bk b3)) h13 fun b h => K b h) (fun b h => K b h)
      else xP (cell h9 (bk b2)) fun p13 => peq h9 p13 none fun b9 => bif b9 then N6_j0 so true (some (bk b2)) (some (bk b3)) true h9 (fun h13 => N6_j1 so (some (bk b2)) (some (bk b3)) h13 fun b h => K b h) (fun b h => K b h)
      else xP (cell h9 ((bk b2).add 1)) fun p14 => peq h9 p14 none fun b12 => bif b12 then N6_j0 so true (some (bk b2)) (some (bk b3)) true h9 (fun h13 => N6_j1 so (some (bk b2)) (some (bk b3)) h13 fun b h => K b h) (fun b h => K b h)
      else xP (cell h9 (bk b3)) fun p15 => peq h9 p15 none fun b15 => bif b15 then N6_j0 so true (some (bk b2)) (some (bk b3)) true h9 (fun h13 => N6_j1 so (some (bk b2)) (some (bk b3)) h13 fun b h => K b h) (fun b h => K b h)
      else xP (cell h9 ((bk b3).add 1)) fun p16 => peq h9 p16 none fun b18 => N6_j0 so true (some (bk b2)) (some (bk b3)) b18 h9 (fun h13 => N6_j1 so (some (bk b2)) (some (bk b3)) h13 fun b h => K b h) (fun b h => K b h) := by
    intro M p0 p1 hh e1 hs hcase
    have rd : ∀ {M' : List Asn} {h' : Hp}, Sat ([Hw.was h] ++ M') h' → RdU h' sd draws := fun hs => hd.ext (Sat.was (L := []) (M := [Hw.was h] ++ _) hs 0 rfl)
    refine c_diceNew hs (rd hs) (by omega) ?_
    intro kd h4 hs4
    refine c_DiceNew hs4 (fun h' hs => rd hs) (by omega) ?_
    intro kr h5 hs5
    rw [List.append_assoc] at hs5
    have hs5 : Sat ([Hw.was h] ++ (M ++ [diceA 88 kd draws, diceA 98 kr draws])) h5 := hs5
    intro pb e0
    have hs6 := hs5.new e0 (.cells ⟨[.pointer p0, .pointer p1, .pointer (some (bk kd)), .pointer (some (bk kr))]⟩ 58 (0, 0))
    revert hs6
    generalize upd h5 pb _ = h6
    intro hs6
    have hs6 : Sat ([Hw.was h] ++ (M ++ [diceA 88 kd draws, diceA 98 kr draws, row pb 58 [.pointer p0, .pointer p1, .pointer (some (bk kd)), .pointer (some (bk kr))]])) h6 := by rw [List.append_assoc] at hs6; exact hs6
    have rowp : ∀ {M' : List Asn} {h' : Hp}, Sat ([Hw.was h] ++ ((M ++ [diceA 88 kd draws, diceA 98 kr draws, row pb 58 [.pointer p0, .pointer p1, .pointer (some (bk kd)), .pointer (some (bk kr))]]) ++ M')) h' → Blk h' pb 58 [.pointer p0, .pointer p1, .pointer (some (bk kd)), .pointer (some (bk kr))] := by
      intro M' h' hs
      have h1 := (Sat.csa hs).left
      rw [← List.append_assoc] at h1
      exact h1.blk 2 rfl
    have hb6 := rowp (M' := []) (by rw [List.append_nil]; exact hs6)
    simp only [add_bk]
    rw [hb6.cell, hb6.cell]
    simp only [List.getElem?_cons_succ, List.getElem?_cons_zero, xP_some]
    -- the second table
    have rest : ∀ (p6 p9 : Option Addr) (M2 : List Asn) (h8 : Hp), p6.isNone = p9.isNone → Sat ([Hw.was h] ++ ((M ++ [diceA 88 kd draws, diceA 98 kr draws, row pb 58 [.pointer p0, .pointer p1, .pointer (some (bk kd)), .pointer (some (bk kr))]]) ++ M2)) h8 →
        (p6 = none ∨ ∃ b R, p6 = some (bk b) ∧ p9 = some (bk R) ∧ Ok 0 ⟨other, another, []⟩ ∧ M2 = [portsA b ⟨other, another, []⟩, refP R ⟨other, another, []⟩]) →
        (both (xP (cell h8 ⟨pb, 3, none⟩) fun p10 => Only (.pointer (some (bk kr))) h8 (.pointer p10) h8) <| both (xP (cell h8 ⟨pb, 2, none⟩) fun p11 => Only (.pointer (some (bk kd))) h8 (.pointer p11) h8) <|
        nw h8 (.cells ⟨[.pointer p6, .pointer p9, .pointer (some (bk kd)), .pointer (some (bk kr))]⟩ 58) fun b3 h9 =>
      xP (cell h9 ⟨pb, 2, none⟩) fun p12 => peq h9 p12 none fun b6 => bif b6 then N6_j0 so true (some (bk pb)) (some (bk b3)) true h9 (fun h13 => N6_j1 so (some (bk pb)) (some (bk b3)) h13 fun b h => K b h) (fun b h => K b h)
      else xP (cell h9 (bk pb)) fun p13 => peq h9 p13 none fun b9 => bif b9 then N6_j0 so true (some (bk pb)) (some (bk b3)) true h9 (fun h13 => N6_j1 so (some (bk pb)) (some (bk b3)) h13 fun b h => K b h) (fun b h => K b h)
      else xP (cell h9 ⟨pb, 1, none⟩) fun p14 => peq h9 p14 none fun b12 => bif b12 then N6_j0 so true (some (bk pb)) (some (bk b3)) true h9 (fun h13 => N6_j1 so (some (bk pb)) (some (bk b3)) h13 fun b h => K b h) (fun b h => K b h)
      else xP (cell h9 (bk b3)) fun p15 => peq h9 p15 none fun b15 => bif b15 then N6_j0 so true (some (bk pb)) (some (bk b3)) true h9 (fun h13 => N6_j1 so (some (bk pb)) (some (bk b3)) h13 fun b h => K b h) (fun b h => K b h)
      else xP (cell h9 ⟨b3, 1, none⟩) fun p16 => peq h9 p16 none fun b18 => N6_j0 so true (some (bk pb)) (some (bk b3)) b18 h9 (fun h13 => N6_j1 so (some (bk pb)) (some (bk b3)) h13 fun b h => K b h) (fun b h => K b h)) := by
      intro p6 p9 M2 h8 e2 hs8 hcase2
      have hb8 := rowp hs8
      refine ⟨by rw [hb8.cell]; exact ⟨rfl, rfl⟩, by rw [hb8.cell]; exact ⟨rfl, rfl⟩, ?_⟩
      intro qb e3
      have hs9 := hs8.new e3 (.cells ⟨[.pointer p6, .pointer p9, .pointer (some (bk kd)), .pointer (some (bk kr))]⟩ 58 (0, 0))
      revert hs9
      generalize upd h8 qb _ = h9
      intro hs9
      have hs9 : Sat ([Hw.was h] ++ (((M ++ [diceA 88 kd draws, diceA 98 kr draws, row pb 58 [.pointer p0, .pointer p1, .pointer (some (bk kd)), .pointer (some (bk kr))]]) ++ M2) ++ [row qb 58 [.pointer p6, .pointer p9, .pointer (some (bk kd)), .pointer (some (bk kr))]])) h9 := hs9
      have hb9 : Blk h9 pb 58 [.pointer p0, .pointer p1, .pointer (some (bk kd)), .pointer (some (bk kr))] := rowp (Sat.csa hs9).left
      have hq9 : Blk h9 qb 58 [.pointer p6, .pointer p9, .pointer (some (bk kd)), .pointer (some (bk kr))] := (Sat.csa hs9).blk 0 rfl
      have q0 : cell h9 (bk pb) = some (.pointer p0) := by rw [hb9.cell]; rfl
      have q1 : cell h9 ⟨pb, 1, none⟩ = some (.pointer p1) := by rw [hb9.cell]; rfl
      have q2 : cell h9 ⟨pb, 2, none⟩ = some (.pointer (some (bk kd))) := by rw [hb9.cell]; rfl
      have q3 : cell h9 (bk qb) = some (.pointer p6) := by rw [hq9.cell]; rfl
      have q4 : cell h9 ⟨qb, 1, none⟩ = some (.pointer p9) := by rw [hq9.cell]; rfl
      simp only [q2, xP_some, peq_none, Option.isNone_some, cond_false, q0, q1, q3, q4]
      have two : Sat ([] ++ ([Hw.was h, row pb 58 [.pointer p0, .pointer p1, .pointer (some (bk kd)), .pointer (some (bk kr))], row qb 58 [.pointer p6, .pointer p9, .pointer (some (bk kd)), .pointer (some (bk kr))]] ++ [])) h9 := by
        have a1 : Sat ([Hw.was h] ++ ((M ++ [diceA 88 kd draws, diceA 98 kr draws]) ++ ([row pb 58 [.pointer p0, .pointer p1, .pointer (some (bk kd)), .pointer (some (bk kr))]] ++ (M2 ++ [row qb 58 [.pointer p6, .pointer p9, .pointer (some (bk kd)), .pointer (some (bk kr))]])))) h9 := by
          have := hs9
          simp only [List.append_assoc, List.cons_append, List.nil_append] at this ⊢; exact this
        have a2 := Sat.perm (L := []) (X := [Hw.was h] ++ ((M ++ [diceA 88 kd draws, diceA 98 kr draws]) ++ ([row pb 58 [.pointer p0, .pointer p1, .pointer (some (bk kd)), .pointer (some (bk kr))]] ++ (M2 ++ [row qb 58 [.pointer p6, .pointer p9, .pointer (some (bk kd)), .pointer (some (bk kr))]]))))
          (Y := ([Hw.was h] ++ ([row pb 58 [.pointer p0, .pointer p1, .pointer (some (bk kd)), .pointer (some (bk kr))]] ++ [row qb 58 [.pointer p6, .pointer p9, .pointer (some (bk kd)), .pointer (some (bk kr))]])) ++ ((M ++ [diceA 88 kd draws, diceA 98 kr draws]) ++ M2)) (by
            have c1 : ∀ (A B C D E : List Asn), (A ++ (B ++ (C ++ (D ++ E)))).Perm ((A ++ (C ++ E)) ++ (B ++ D)) := by
              intro A B C D E
              refine List.Perm.trans ?_ (List.Perm.of_eq (List.append_assoc A (C ++ E) (B ++ D)).symm)
              refine List.Perm.append_left A ?_
              have s1 : (B ++ (C ++ (D ++ E))).Perm (B ++ ((C ++ E) ++ D)) := List.Perm.append_left B (by
                refine List.Perm.trans ?_ (List.Perm.of_eq (List.append_assoc C E D).symm)
                exact List.Perm.append_left C List.perm_append_comm)
              refine s1.trans ?_
              refine List.Perm.trans (List.Perm.of_eq (List.append_assoc B (C ++ E) D).symm) ?_
              refine List.Perm.trans (List.Perm.append_right D List.perm_append_comm) ?_
              exact List.Perm.of_eq (List.append_assoc (C ++ E) B D)
            exact c1 _ _ _ _ _) a1
        have a3 := Sat.left (L := [] ++ ([Hw.was h] ++ ([row pb 58 [.pointer p0, .pointer p1, .pointer (some (bk kd)), .pointer (some (bk kr))]] ++ [row qb 58 [.pointer p6, .pointer p9, .pointer (some (bk kd)), .pointer (some (bk kr))]]))) (M := (M ++ [diceA 88 kd draws, diceA 98 kr draws]) ++ M2) (Sat.csa a2)
        exact a3
      have nil1 := fun Kn => jnil pb qb p0 p1 p6 p9 kd kr [] h9 Kn e1 e2 two
      rcases hcase with rfl | ⟨b, R, rfl, rfl, ok1, rfl⟩
      · simp only [Option.isNone_none, cond_true]
        exact nil1 _
      simp only [Option.isNone_some, cond_false]
      rcases hcase2 with rfl | ⟨b2, R2, rfl, rfl, ok2, rfl⟩
      · simp only [Option.isNone_none, cond_true]
        exact nil1 _
      simp only [Option.isNone_some, cond_false]
      unfold N6_j0
      rw [cond_false]
      unfold N6_j1
      have g1 : Sat ([Hw.was h] ++ [portsA b ⟨most, depth, []⟩, refP R ⟨most, depth, []⟩, diceA 88 kd draws, diceA 98 kr draws, row pb 58 [.pointer (some (bk b)), .pointer (some (bk R)), .pointer (some (bk kd)), .pointer (some (bk kr))], portsA b2 ⟨other, another, []⟩, refP R2 ⟨other, another, []⟩, row qb 58 [.pointer (some (bk b2)), .pointer (some (bk R2)), .pointer (some (bk kd)), .pointer (some (bk kr))]]) h9 := hs9
      -- a step of the one, of the other
      have stepP : ∀ {k kb M : Nat} {t t2 : Tb} {l : List Int} {E : List E3} {EB : List Ent} {kind n : Int} {d : Dg} {s : Sl} {hh : Hp} {F : Bool → Hp → Prop},
          Sat ([Hw.was h] ++ [row pb 58 [.pointer (some (bk b)), .pointer (some (bk R)), .pointer (some (bk kd)), .pointer (some (bk kr))], portsA b t, refP R t, diceA 88 kd l, diceA 98 kr l, kept0 k [.pointer (some (bk kb))] E, star (E.map own3), star (E.map wer3), bookA kb EB, portsA b2 t2, refP R2 t2, row qb 58 [.pointer (some (bk b2)), .pointer (some (bk R2)), .pointer (some (bk kd)), .pointer (some (bk kr))]]) hh →
          Ok M t → DOk t → M ≤ 100000000000000000 → U32s l → RdB h s d.data → d.data.length ≤ 1048576 → E.length ≤ 100000000 → EB.length ≤ 100000000 → Kpt E EB →
          (∀ h' t' l' E' EB', Sat ([Hw.was h] ++ [row pb 58 [.pointer (some (bk b)), .pointer (some (bk R)), .pointer (some (bk kd)), .pointer (some (bk kr))], portsA b t', refP R t', diceA 88 kd l', diceA 98 kr l', kept0 k [.pointer (some (bk kb))] E', star (E'.map own3), star (E'.map wer3), bookA kb EB', portsA b2 t2, refP R2 t2, row qb 58 [.pointer (some (bk b2)), .pointer (some (bk R2)), .pointer (some (bk kd)), .pointer (some (bk kr))]]) h' → Ok (M + 1) t' → DOk t' → U32s l' → E'.length ≤ E.length + 1 → EB'.length ≤ EB.length + 1 → Kpt E' EB' → F true h') →
          C20 (some (bk pb)) (some (bk k)) kind n d.a d.b d.c d.d s hh F := by
        intro k kb M t t2 l E EB kind n d s hh F hs a1 a2 a3 a4 a5 a6 a7 a8 a9 hF
        have q : Sat ([Hw.was h] ++ ([portsA b2 t2, refP R2 t2, row qb 58 [.pointer (some (bk b2)), .pointer (some (bk R2)), .pointer (some (bk kd)), .pointer (some (bk kr))]] ++ [row pb 58 [.pointer (some (bk b)), .pointer (some (bk R)), .pointer (some (bk kd)), .pointer (some (bk kr))], portsA b t, refP R t, diceA 88 kd l, diceA 98 kr l, kept0 k [.pointer (some (bk kb))] E, star (E.map own3), star (E.map wer3), bookA kb EB])) hh := hs.sel [9, 10, 11, 0, 1, 2, 3, 4, 5, 6, 7, 8] (by decide) rfl
        refine c_step (Sat.csa q) a1 a2 (by omega) a4 (fun h' hs' => a5.ext (Sat.was (L := []) (M := [Hw.was h] ++ _) hs' 0 rfl)) a6 (by omega) (by omega) a9 ?_
        intro h' t' l' E' EB' hs' b1 b2 b3 b4 b5 b6 _ _
        exact hF h' t' l' E' EB' ((Sat.asc hs').sel [3, 4, 5, 6, 7, 8, 9, 10, 11, 0, 1, 2] (by decide) rfl) b1 b2 b3 b4 b5 b6
      have stepQ : ∀ {k kb M : Nat} {t t2 : Tb} {l : List Int} {E : List E3} {EB : List Ent} {kind n : Int} {d : Dg} {s : Sl} {hh : Hp} {F : Bool → Hp → Prop},
          Sat ([Hw.was h] ++ [row pb 58 [.pointer (some (bk b)), .pointer (some (bk R)), .pointer (some (bk kd)), .pointer (some (bk kr))], portsA b t, refP R t, diceA 88 kd l, diceA 98 kr l, kept0 k [.pointer (some (bk kb))] E, star (E.map own3), star (E.map wer3), bookA kb EB, portsA b2 t2, refP R2 t2, row qb 58 [.pointer (some (bk b2)), .pointer (some (bk R2)), .pointer (some (bk kd)), .pointer (some (bk kr))]]) hh →
          Ok M t2 → DOk t2 → M ≤ 100000000000000000 → U32s l → RdB h s d.data → d.data.length ≤ 1048576 → E.length ≤ 100000000 → EB.length ≤ 100000000 → Kpt E EB →
          (∀ h' t' l' E' EB', Sat ([Hw.was h] ++ [row pb 58 [.pointer (some (bk b)), .pointer (some (bk R)), .pointer (some (bk kd)), .pointer (some (bk kr))], portsA b t, refP R t, diceA 88 kd l', diceA 98 kr l', kept0 k [.pointer (some (bk kb))] E', star (E'.map own3), star (E'.map wer3), bookA kb EB', portsA b2 t', refP R2 t', row qb 58 [.pointer (some (bk b2)), .pointer (some (bk R2)), .pointer (some (bk kd)), .pointer (some (bk kr))]]) h' → Ok (M + 1) t' → DOk t' → U32s l' → E'.length ≤ E.length + 1 → EB'.length ≤ EB.length + 1 → Kpt E' EB' → F true h') →
          C20 (some (bk qb)) (some (bk k)) kind n d.a d.b d.c d.d s hh F := by
        intro k kb M t t2 l E EB kind n d s hh F hs a1 a2 a3 a4 a5 a6 a7 a8 a9 hF
        have q : Sat ([Hw.was h] ++ ([portsA b t, refP R t, row pb 58 [.pointer (some (bk b)), .pointer (some (bk R)), .pointer (some (bk kd)), .pointer (some (bk kr))]] ++ [row qb 58 [.pointer (some (bk b2)), .pointer (some (bk R2)), .pointer (some (bk kd)), .pointer (some (bk kr))], portsA b2 t2, refP R2 t2, diceA 88 kd l, diceA 98 kr l, kept0 k [.pointer (some (bk kb))] E, star (E.map own3), star (E.map wer3), bookA kb EB])) hh := hs.sel [1, 2, 0, 11, 9, 10, 3, 4, 5, 6, 7, 8] (by decide) rfl
        refine c_step (Sat.csa q) a1 a2 (by omega) a4 (fun h' hs' => a5.ext (Sat.was (L := []) (M := [Hw.was h] ++ _) hs' 0 rfl)) a6 (by omega) (by omega) a9 ?_
        intro h' t' l' E' EB' hs' b1 b2 b3 b4 b5 b6 _ _
        exact hF h' t' l' E' EB' ((Sat.asc hs').sel [2, 0, 1, 6, 7, 8, 9, 10, 11, 4, 5, 3] (by decide) rfl) b1 b2 b3 b4 b5 b6
      refine kept_new g1 ?_
      intro kb k h10 hs10
      have hs10 : Sat ([Hw.was h] ++ [row pb 58 [.pointer (some (bk b)), .pointer (some (bk R)), .pointer (some (bk kd)), .pointer (some (bk kr))], portsA b ⟨most, depth, []⟩, refP R ⟨most, depth, []⟩, diceA 88 kd draws, diceA 98 kr draws, kept0 k [.pointer (some (bk kb))] [], star (([] : List E3).map own3), star (([] : List E3).map wer3), bookA kb [], portsA b2 ⟨other, another, []⟩, refP R2 ⟨other, another, []⟩, row qb 58 [.pointer (some (bk b2)), .pointer (some (bk R2)), .pointer (some (bk kd)), .pointer (some (bk kr))]]) h10 := hs10.sel [4, 0, 1, 2, 3, 8, 9, 10, 11, 5, 6, 7] (by decide) rfl
      have dok0 : ∀ (m d : Int), DOk ⟨m, d, []⟩ := fun m d p hp => by cases hp
      unfold N6_l2
      refine loopP_inv (fun (x : Int) hc => ∃ (i : Nat) (t t2 : Tb) (l : List Int) (E : List E3) (EB : List Ent), x = i ∧ i ≤ ops.length ∧ Sat ([Hw.was h] ++ [row pb 58 [.pointer (some (bk b)), .pointer (some (bk R)), .pointer (some (bk kd)), .pointer (some (bk kr))], portsA b t, refP R t, diceA 88 kd l, diceA 98 kr l, kept0 k [.pointer (some (bk kb))] E, star (E.map own3), star (E.map wer3), bookA kb EB, portsA b2 t2, refP R2 t2, row qb 58 [.pointer (some (bk b2)), .pointer (some (bk R2)), .pointer (some (bk kd)), .pointer (some (bk kr))]]) hc ∧
          Ok i t ∧ DOk t ∧ Ok i t2 ∧ DOk t2 ∧ U32s l ∧ E.length ≤ i ∧ EB.length ≤ i ∧ Kpt E EB) (fun x _ => ops.length - x.toNat) ?_
        ⟨0, ⟨most, depth, []⟩, ⟨other, another, []⟩, draws, [], [], rfl, Nat.zero_le _, hs10, ok1, dok0 _ _, ok2, dok0 _ _, hu, Nat.le_refl _, Nat.le_refl _, ⟨by simp, by simp⟩⟩
      clear hs10 g1 nil1 two hs9
      rintro x hc ⟨i, t, t2, l, E, EB, rfl, hi, hs, o1, o2, o3, o4, o5, o6, o7, o8⟩
      unfold N6_l2_B N6_l2_b
      have sn := H.1
      by_cases hlt : i < ops.length
      · rw [dec_lt (by omega), cond_true]
        have hoi : ops[i]? = some ops[i] := List.getElem?_eq_getElem hlt
        have hob := hb _ (List.getElem_mem hlt)
        generalize ops[i] = o at hoi hob
        obtain ⟨a, hp, c0, c1, c2, c3, c4, c5, c6⟩ := (H.ext (Sat.was (L := []) (M := [Hw.was h] ++ _) hs 0 rfl)).at hoi
        have hro := (H.2 i o hoi).2
        cases hq : ((Int.tmod (i : Int) 4) == 3) with
        | true =>
          rw [cond_true]
          refine idx_of (by omega) (by omega) ?_
          rw [hp]
          simp only [nn_some', Int.toNat_natCast, c0, c1, c2, c3, c4, c5, c6, xI_some, xL_v]
          refine stepQ hs o3 o4 (by omega) o5 hro hob (by omega) (by omega) o8 ?_
          intro h' t' l' E' EB' hs' b1 b2' b3 b4 b5 b6
          unfold N6_j3
          simp only [Bool.not_true, cond_false]
          rw [nat_succ64 (by omega)]
          exact ⟨⟨i + 1, t, t', l', E', EB', rfl, hlt, hs', o1.mono (by omega), o2, b1, b2', b3, by omega, by omega, b6⟩, by omega⟩
        | false =>
          rw [cond_false]
          refine idx_of (by omega) (by omega) ?_
          rw [hp]
          simp only [nn_some', Int.toNat_natCast, c0, c1, c2, c3, c4, c5, c6, xI_some, xL_v]
          refine stepP hs o1 o2 (by omega) o5 hro hob (by omega) (by omega) o8 ?_
          intro h' t' l' E' EB' hs' b1 b2' b3 b4 b5 b6
          unfold N6_j3
          simp only [Bool.not_true, cond_false]
          rw [nat_succ64 (by omega)]
          exact ⟨⟨i + 1, t', t2, l', E', EB', rfl, hlt, hs', b1, b2', o3.mono (by omega), o4, b3, by omega, by omega, b6⟩, by omega⟩
      · rw [dec_ge (by omega), cond_false]
        have g1 : Sat ([Hw.was h] ++ ([row pb 58 [.pointer (some (bk b)), .pointer (some (bk R)), .pointer (some (bk kd)), .pointer (some (bk kr))], portsA b t, refP R t, diceA 88 kd l, diceA 98 kr l, portsA b2 t2, refP R2 t2, row qb 58 [.pointer (some (bk b2)), .pointer (some (bk R2)), .pointer (some (bk kd)), .pointer (some (bk kr))]] ++ [kept0 k [.pointer (some (bk kb))] E, star (E.map own3), star (E.map wer3), bookA kb EB])) hc := hs.sel [0, 1, 2, 3, 4, 9, 10, 11, 5, 6, 7, 8] (by decide) rfl
        refine c_standsP (Sat.csa g1) o8 (by omega) (by omega) ?_
        intro h20 hs20
        refine kept_new hs20 ?_
        intro kb k h21 hs21
        have hs21 : Sat ([Hw.was h] ++ [row pb 58 [.pointer (some (bk b)), .pointer (some (bk R)), .pointer (some (bk kd)), .pointer (some (bk kr))], portsA b t, refP R t, diceA 88 kd l, diceA 98 kr l, portsA b2 t2, refP R2 t2, row qb 58 [.pointer (some (bk b2)), .pointer (some (bk R2)), .pointer (some (bk kd)), .pointer (some (bk kr))], kept0 k [.pointer (some (bk kb))] [], star (([] : List E3).map own3), star (([] : List E3).map wer3), bookA kb []]) h21 := hs21
        have g2 : Sat ([Hw.was h] ++ ([portsA b2 t2, refP R2 t2, row qb 58 [.pointer (some (bk b2)), .pointer (some (bk R2)), .pointer (some (bk kd)), .pointer (some (bk kr))]] ++ [row pb 58 [.pointer (some (bk b)), .pointer (some (bk R)), .pointer (some (bk kd)), .pointer (some (bk kr))], portsA b t, refP R t, diceA 88 kd l, diceA 98 kr l, kept0 k [.pointer (some (bk kb))] [], star (([] : List E3).map own3), star (([] : List E3).map wer3), bookA kb []])) h21 := hs21.sel [5, 6, 7, 0, 1, 2, 3, 4, 8, 9, 10, 11] (by decide) rfl
        refine c_last (Sat.csa g2) o1 o2 (by omega) o5 (by simp) (by simp) ⟨by simp, by simp⟩ ?_
        intro h22 t3 l3 E3' EB3 hs22 u3 hE3 hEB3 hg3
        have hs22 : Sat ([Hw.was h] ++ ([portsA b t3, refP R t3, row pb 58 [.pointer (some (bk b)), .pointer (some (bk R)), .pointer (some (bk kd)), .pointer (some (bk kr))]] ++ [row qb 58 [.pointer (some (bk b2)), .pointer (some (bk R2)), .pointer (some (bk kd)), .pointer (some (bk kr))], portsA b2 t2, refP R2 t2, diceA 88 kd l3, diceA 98 kr l3, kept0 k [.pointer (some (bk kb))] E3', star (E3'.map own3), star (E3'.map wer3), bookA kb EB3])) h22 := (Sat.asc hs22).sel [4, 5, 3, 2, 0, 1, 6, 7, 8, 9, 10, 11] (by decide) rfl
        have hE3 : E3'.length ≤ 600 := by simpa using hE3
        have hEB3 : EB3.length ≤ 600 := by simpa using hEB3
        refine c_last (Sat.csa hs22) o3 o4 (by omega) u3 (by omega) (by omega) hg3 ?_
        intro h23 t4 l4 E4 EB4 hs23 u4 hE4 hEB4 hg4
        have g3 : Sat ([Hw.was h] ++ ([portsA b t3, refP R t3, row pb 58 [.pointer (some (bk b)), .pointer (some (bk R)), .pointer (some (bk kd)), .pointer (some (bk kr))], row qb 58 [.pointer (some (bk b2)), .pointer (some (bk R2)), .pointer (some (bk kd)), .pointer (some (bk kr))], portsA b2 t4, refP R2 t4, diceA 88 kd l4, diceA 98 kr l4] ++ [kept0 k [.pointer (some (bk kb))] E4, star (E4.map own3), star (E4.map wer3), bookA kb EB4])) h23 := Sat.asc hs23
        refine c_standsP (Sat.csa g3) hg4 (by omega) (by omega) ?_
        intro h24 hs24
        simp only [cond_true]
        exact hK h24 (Sat.was (L := []) (M := [Hw.was h] ++ _) hs24 0 rfl)
    have hs6' : Sat ([Hw.was h] ++ (M ++ [diceA 88 kd draws, diceA 98 kr draws, row pb 58 [.pointer p0, .pointer p1, .pointer (some (bk kd)), .pointer (some (bk kr))]])) h6 := hs6
    refine p_new hs6' ?_ ?_
    · intro hn
      refine ⟨by rw [hb6.cell]; exact ⟨rfl, rfl⟩, by rw [hb6.cell]; exact ⟨rfl, rfl⟩, ?_⟩
      refine c_RNew hs6' (fun _ => ?_) (fun hy => absurd hy hn)
      exact rest none none [] h6 rfl (by rw [List.append_nil]; exact hs6') (.inl rfl)
    · intro hy b2 h7 hs7
      have hb7 := rowp hs7
      refine ⟨by rw [hb7.cell]; exact ⟨rfl, rfl⟩, by rw [hb7.cell]; exact ⟨rfl, rfl⟩, ?_⟩
      refine c_RNew hs7 (fun hn => absurd hy hn) ?_
      intro _ R2 h8 hs8
      refine rest _ _ [portsA b2 ⟨other, another, []⟩, refP R2 ⟨other, another, []⟩] h8 rfl ?_ (.inr ⟨b2, R2, rfl, rfl, Ok0 hy, rfl⟩)
      rw [List.append_assoc _ [portsA b2 ⟨other, another, []⟩]] at hs8; exact hs8
  refine made [] most depth h1 (fun p0 p1 h3 => _) hs1 ?_ ?_
  · intro hh hs
    exact go [] none none hh rfl hs (.inl rfl)
  · intro b R hh ok hs
    exact go _ _ _ hh rfl hs (.inr ⟨b, R, rfl, rfl, ok, rfl⟩)
end Go.Proofs.Ytabihmedfopdcaa
