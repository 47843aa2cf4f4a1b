/-
  OctetLaid: for every two rows of bytes, the law's function slipwaylaw01.OctetLaid returns true and leaves all that was there as it was.
-/
import Derived.Test.YtlioifgejijcoaaDoorPf
set_option linter.unusedSimpArgs false
set_option linter.unusedVariables false
namespace Go.Proofs.YtlioifgejijcoaaDoor
open Go Go.Hw
open Go.ChangeShapes Go.WideShapes Go.ChangeAt Go.RowKit

theorem octetLaid_walk {s t : Sl} {l m : List UInt8} {h : Hp} (G : Glob h) (H : RdB h s l) (T : RdB h t m) (hl : l.length ≤ 140737488355328) (hm : m.length ≤ 140737488355328) : C8 s t h fun v h' => v = true ∧ Ext none' h h' := by
  apply S8; unfold N8
  intro b0 e0
  have y0 : Ext none' h (upd h b0 (.cells ⟨[.slice s.p s.n s.c, .slice t.p t.n t.c]⟩ 24 (0, 0))) := Ext.new e0
  have r0 := two_rdp (s := s) (t := t) (b := b0) (h := upd h b0 (.cells ⟨[.slice s.p s.n s.c, .slice t.p t.n t.c]⟩ 24 (0, 0))) Blk.upd_same (H.ext y0) (T.ext y0)
  revert y0 r0
  generalize upd h b0 _ = h0
  intro y0 r0
  refine c_beyond r0 (by intro l' hl'; simp at hl'; rcases hl' with rfl | rfl <;> assumption) ?_
  intro b hb
  cases b with
  | true => simp only [cond_true]; exact ⟨trivial, y0⟩
  | false =>
  simp only [cond_false]
  have hbd := hb rfl
  simp only [List.flatten_cons, List.flatten_nil, List.length_append, List.length_cons, List.length_nil] at hbd
  refine c_live (G.ext y0) fun h1 x1 => ?_
  have X1 := y0.trans x1
  have H1 := H.ext X1
  have T1 := T.ext X1
  have hn := H.n
  have tn := T.n
  rw [Int.tmod_eq_emod_of_nonneg (by omega)]
  by_cases c1 : l.length % 2 = 1
  · have : ((((s.n : Nat) : Int) % 2) == 1) = true := by rw [beq_iff_eq]; omega
    rw [this, cond_true]; exact ⟨rfl, X1⟩
  have : ((((s.n : Nat) : Int) % 2) == 1) = false := by rw [beq_eq_false_iff_ne]; omega
  rw [this, cond_false]
  refine H1.b2s ?_
  refine Sat.s2b (Sat.start (h := h1)) ?_
  intro c h2 hs b3 e3
  have hs := hs.ext (Ext.new (o := .cells ⟨bc [0, 0]⟩ 5 (0, 0)) e3)
  have r3 : RdB (upd h2 b3 (.cells ⟨bc [0, 0]⟩ 5 (0, 0))) ⟨some (bk b3), 2, 2⟩ [0, 0] := ⟨rfl, Nat.le_refl _, Blk.rdc Blk.upd_same⟩
  have es : (upd h2 b3 (.cells ⟨[.int .u8 0, .int .u8 0]⟩ 5)) = upd h2 b3 (.cells ⟨bc [0, 0]⟩ 5 (0, 0)) := rfl
  rw [es]
  revert hs r3
  generalize upd h2 b3 _ = h3
  intro hs r3
  have hcl := (hs.byt 1 rfl).rdb.n
  refine hs.apB (m := [0, 0]) 1 rfl y_a y_zl (fun _ => rfl) (fun G hG => r3.srcK (s := ⟨some (bk b3), 2, 2⟩) (n := 2) (by simp) hG) (by rw [y_b]; simp; omega) ?_
  intro c2 h4 hs
  have T4 := T1.ext (hs.was 0 rfl)
  have hcl2 := (hs.byt 1 rfl).rdb.n
  simp only [List.length_append, List.length_cons, List.length_nil] at hcl2
  refine hs.apB (m := m) 1 rfl y_a y_zl (fun G => by show G t.n = _; rw [tn]) (fun G hG => T4.srcK (s := t) (n := m.length) (by omega) (by rw [List.take_length]; exact hG)) (by rw [y_b]; omega) ?_
  intro c3 h5 hs
  simp only [List.set_cons_succ, List.set_cons_zero, List.nil_append, List.cons_append] at hs
  have hs : Sat ([] ++ [Hw.was h1, Hw.byt 5 c3 ((l ++ [0, 0]) ++ m)]) h5 := hs
  have hc3 := (hs.byt 1 rfl).rdb
  intro b4 e4
  have y4 : Ext none' h5 (upd h5 b4 (.cells ⟨[.slice c3.p c3.n c3.c]⟩ 24 (0, 0))) := Ext.new e4
  have r4 := one_rdp (s := c3) (b := b4) (h := upd h5 b4 (.cells ⟨[.slice c3.p c3.n c3.c]⟩ 24 (0, 0))) Blk.upd_same (hc3.ext y4)
  have hs := hs.ext y4
  revert y4 r4 hs
  generalize upd h5 b4 _ = h6
  intro y4 r4 hs
  refine c_sum r4 (by intro l' hl'; simp at hl'; rw [hl']; simp; omega) (by simp; omega) (by simp) ?_
  have ef : [(l ++ [0, 0]) ++ m].flatten = l ++ ([0, 0] ++ m) := by simp
  rw [ef]
  have hsl := sum16_lt (l ++ ([0, 0] ++ m))
  obtain ⟨hi, lo, e1, e2, e3⟩ := word_bytes (x := ((sum16 (l ++ ([0, 0] ++ m)) : Nat) : Int)) (by omega) (by omega)
  rw [Int.toNat_natCast] at e3
  have hll := laid_law (l := l) (m := m) (by omega) e3
  refine hs.stB (k := l.length) (v := hi) 1 rfl (by omega) (by simp) e1 ?_
  intro h7 hs
  rw [hn, wi64i (x := (l.length : Int) + 1) (by omega) (by omega)]
  refine hs.stB (k := l.length + 1) (v := lo) 1 rfl (by omega) (by simp) e2 ?_
  intro h8 hs
  simp only [List.set_cons_succ, List.set_cons_zero, List.nil_append, List.cons_append] at hs
  have em : (((l ++ [0, 0]) ++ m).set l.length hi).set (l.length + 1) lo = l ++ ([hi, lo] ++ m) := by
    rw [List.append_assoc, List.set_append_right _ _ (by omega), List.set_append_right _ _ (by omega)]
    simp
  rw [em] at hs
  have hs : Sat ([] ++ [Hw.was h1, Hw.byt 5 c3 (l ++ ([hi, lo] ++ m))]) h8 := hs
  have hc8 := (hs.byt 1 rfl).rdb
  simp only [cond_true]
  intro b5 e5
  have y5 : Ext none' h8 (upd h8 b5 (.cells ⟨[.slice c3.p c3.n c3.c]⟩ 24 (0, 0))) := Ext.new e5
  have r5 := one_rdp (s := c3) (b := b5) (h := upd h8 b5 (.cells ⟨[.slice c3.p c3.n c3.c]⟩ 24 (0, 0))) Blk.upd_same (hc8.ext y5)
  have X8 := X1.trans (hs.was 0 rfl)
  revert y5 r5
  generalize upd h8 b5 _ = h9
  intro y5 r5
  refine c_sum r5 (by intro l' hl'; simp at hl'; rw [hl']; simp; omega) (by simp; omega) (by simp) ?_
  have ef : [l ++ ([hi, lo] ++ m)].flatten = l ++ ([hi, lo] ++ m) := by simp
  rw [ef, hll]
  exact ⟨rfl, X8.trans y5⟩

set_option maxRecDepth 100000 in
theorem octetLaid_rw {H : Type} {enc : TypeId × Value → H} {W : World} {base : Nat} {args : Array Value} {ds : List (DataW H)} {p : List MemPlace}
    (hval : ∀ (j : Nat) t v, Tryd.f8.params[j]? = some t → args[j]? = some v → Value.okWide Tryd.prog W .any base t v)
    (hA : DataW.TrodAll enc Tryd.prog W 0 (fun _ => true) true Tryd.f8.params.toList args.toList ds p)
    (hwt : (DataW.weightsEach Tryd.prog Tryd.f8.params.toList ds).all (· ≤ reachBytes) = true)
    (hX : laidMetH Tryd.prog laidL W) (hsh : W.ShapedOpen Tryd.prog) :
    HCalls Tryd.prog 8 args (hpOf W) fun v h' => v = .bool true ∧ Ext none' (hpOf W) h' := by
  have ep : Tryd.f8.params = #[24, 24] := by kernel_rfl
  rw [ep] at hA hval hwt
  obtain ⟨v0, r0, d0, s0, p0, q0, ea, rfl, rfl, h0, hA⟩ := trodAll_cons hA
  obtain ⟨v1, r1, d1, s1, p1, q1, rfl, rfl, rfl, h1, hA⟩ := trodAll_cons hA
  obtain ⟨rfl, rfl, rfl⟩ := trodAll_nil hA
  have ea : args = #[v0, v1] := Array.toList_inj.1 ea
  subst ea
  obtain ⟨s, l, rfl, hr, hcap⟩ := bytes_open (e := 5) (by kernel_rfl) (by kernel_rfl) (by kernel_rfl) (hval 0 24 v0 rfl rfl) h0
  have hcl := cap_le (j := 0) (t := 24) (e := 5) hwt rfl rfl (by kernel_rfl) (by kernel_rfl) hcap
  obtain ⟨t, m, rfl, hr2, hcap2⟩ := bytes_open (e := 5) (by kernel_rfl) (by kernel_rfl) (by kernel_rfl) (hval 1 24 v1 rfl rfl) h1
  have hcl2 := cap_le (j := 1) (t := 24) (e := 5) hwt rfl rfl (by kernel_rfl) (by kernel_rfl) hcap2
  have hc := octetLaid_walk (s := s) (t := t) (glob_of hX hsh) hr hr2 (by have := hr.n; have := hr.c; omega) (by have := hr2.n; have := hr2.c; omega)
  refine HCalls.mono hc ?_
  intro v h' hv
  obtain ⟨x, hx, rfl, he⟩ := VT.on_some hv
  cases hx
  exact ⟨rfl, he⟩

set_option maxRecDepth 100000 in
theorem octetLaid_lifted (os : Os) (started : os.Started) (H : Type) (enc : TypeId × Value → H) :
    ReturnsInHanded {} Tryd.checked os 8 .any (fun w args => (Rows.octetLaidSpec.pre enc Tryd.prog Tryd.f8 [] false w args ∧ laidMetH Tryd.prog laidL w) ∧ sizedMet enc Tryd.prog Tryd.f8 (OpenSpec.ofChange Rows.octetLaidSpec) false w args)
      (Rows.octetLaidSpec.post enc Tryd.prog Tryd.f8 false true false false) := by
  refine law_lift (C := Tryd.checked) (X := fun w => laidMetH Tryd.prog laidL w) (tb := 4) (fun _ _ hh h => h.of_heap hh) own_knob started (by kernel_rfl) Tryd.func8
    (ChangeSpec.witness_at (enc := enc) (C := Tryd.checked) (os := os) (X := fun w _ => laidMetH Tryd.prog laidL w) false (laidWorld os) #[.slice none 0 0, .slice none 0 0] 8 rfl (by kernel_rfl) (by kernel_rfl) (by kernel_rfl) (by kernel_rfl) (by kernel_rfl) (laid_met os _))
    laid_out ?_ (by kernel_rfl) (by kernel_rfl) rfl ?_ ?_
  · have : (Tryd.f8.params.toList.all fun t => Tryd.prog.readableRec t && decide (t < Tryd.prog.types.size)) = true := by kernel_rfl
    intro t ht
    have := List.all_eq_true.1 this t ht
    rw [Bool.and_eq_true, decide_eq_true_eq] at this
    exact this
  · intro ds hl
    have hl : ds.length = 2 := hl
    match ds, hl with
    | [a0, a1], _ => exact ⟨rfl, rfl, rfl⟩
  · intro W base args ds p hval hA hwt hX hsh
    exact octetLaid_rw hval hA hwt hX hsh

theorem octetLaid_row : Rows.OctetLaidSaid :=
  OpenClaim.holds_of_wide 8 Tryd.f8 rfl rfl rfl rfl rfl rfl rfl ⟨rfl, rfl, rfl, rfl, rfl⟩ rfl rfl rfl rfl rfl (by kernel_rfl) Tryd.func8 (by kernel_rfl)
    (of_decide_eq_true (by kernel_rfl)) (by unfold Func.isWrapper; first | (rw [if_pos (by decide +kernel)]; kernel_rfl) | (rw [if_neg (by decide +kernel)]; exact ⟨rfl, rfl⟩))
    (fun os started H enc _ => octetLaid_lifted os started H enc)

/-- the statement -/
theorem octetLaid_card : Rows.OctetLaidCardSaid :=
  Claim7.holds_tied_plain_at .later [] [.data, .data, .data, .data, .sentinel, .sentinel, .pinned] true (true, "56cb0fc03a3dfc1bfe4648d45d1533646674b9c7df771b5f79239cc7243cf7b8") true
    octetLaid_row (fun _ h => by cases h) (by kernel_rfl) (fun _ h => by cases h) octetLaid_row_tie rfl ⟨rfl, rfl⟩ (by kernel_rfl) rfl
    (fun f fn hf hfn => by
      obtain rfl : f = 8 := Option.some.inj ((show Tryd.prog.funcNamed "slipway/slipwaylaw01.OctetLaid" = some 8 by kernel_rfl).symm.trans hf) |>.symm
      obtain rfl : fn = Tryd.f8 := (Option.some.inj (Tryd.func8.symm.trans hfn)).symm
      have hall : (Tryd.f8.params.toList.all fun t => !(Tryd.prog.wantsStandIn t)) = true := by kernel_rfl
      refine ⟨by kernel_rfl, fun j t ht => ?_⟩
      have := List.all_eq_true.1 hall t (by rw [← Array.getElem?_toList] at ht; exact List.mem_of_getElem? ht)
      rw [Bool.not_eq_true'] at this
      exact this)
    (by kernel_rfl)
#print axioms octetLaid_card

end Go.Proofs.YtlioifgejijcoaaDoor
