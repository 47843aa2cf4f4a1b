/-
  OctetBack: for every two rows of bytes, every number and every width, the law's function slipwaylaw01.OctetBack returns true and leaves all that was there as it was.
-/
import Derived.Test.YtlioifgejijcoaaDoorPf
set_option linter.unusedSimpArgs false
set_option linter.unusedVariables false
namespace Go.Proofs.YtlioifgejijcoaaDoor
open Go Go.Hw
open Go.ChangeShapes Go.WideShapes Go.ChangeAt Go.RowKit

theorem pow256 (w : Nat) : 256 ^ w = 2 ^ (8 * w) := by rw [Nat.pow_mul]
/-- a number that came back whole -/
theorem whole_iff {n w : Nat} (h8 : w = 8 → n < 18446744073709551616) : (n % 256 ^ w = n) ↔ (w = 8 ∨ n / 2 ^ (8 * w) = 0) := by
  rw [pow256]
  have hp : 0 < 2 ^ (8 * w) := Nat.two_pow_pos _
  have h0 : n / 2 ^ (8 * w) = 0 ↔ n < 2 ^ (8 * w) := Nat.div_eq_zero_iff_lt hp
  constructor
  · intro h
    right
    rw [h0, ← h]; exact Nat.mod_lt _ hp
  · rintro (h | h)
    · subst h; exact Nat.mod_eq_of_lt (h8 rfl)
    · exact Nat.mod_eq_of_lt (h0.1 h)

theorem octetBack_walk {s t : Sl} {l m : List UInt8} {n w : Int} {h : Hp} (G : Glob h) (H : RdB h s l) (T : RdB h t m) (hl : l.length ≤ 140737488355328) (hm : m.length ≤ 140737488355328) (n0 : 0 ≤ n) (n1 : n < 18446744073709551616) : C5 s n w t h fun v h' => v = true ∧ Ext none' h h' := by
  apply S5; unfold N5
  intro b0 e0
  have y0 : Ext none' h (upd h b0 (.cells ⟨[.slice s.p s.n s.c, .slice t.p t.n t.c]⟩ 24 (0, 0))) := Ext.new e0
  have r0 := two_rdp (s := s) (t := t) (b := b0) (h := upd h b0 (.cells ⟨[.slice s.p s.n s.c, .slice t.p t.n t.c]⟩ 24 (0, 0))) Blk.upd_same (H.ext y0) (T.ext y0)
  revert y0 r0
  generalize upd h b0 _ = h0
  intro y0 r0
  refine c_beyond r0 (by intro l' hl'; simp at hl'; rcases hl' with rfl | rfl <;> assumption) ?_
  intro b hb
  cases b with
  | true => simp only [cond_true]; exact ⟨trivial, y0⟩
  | false =>
  simp only [cond_false]
  have hbd := hb rfl
  simp only [List.flatten_cons, List.flatten_nil, List.length_append, List.length_cons, List.length_nil] at hbd
  refine c_live (G.ext y0) fun h1 x1 => ?_
  have X1 := y0.trans x1
  have hn := H.n
  have tn := T.n
  have tc := T.c
  refine c_put n0 n1 ?_
  intro h2 c no
  have hs : Sat ([] ++ [Hw.was h1, Hw.own 5 1 c (bc (putL n.toNat w))]) h2 := Sat.start.addNew no
  by_cases c1 : w < 1
  · simp only [c1, decide_true, cond_true]
    unfold N5_j0
    have ep : putL n.toNat w = [] := by unfold putL; rw [if_pos (.inl c1)]
    rw [ep] at hs
    have : c.n = 0 := by have := (hs.own 1 rfl).1; simpa using this.symm
    simp only [cond_true, this]
    exact ⟨rfl, X1.trans (hs.was 0 rfl)⟩
  simp only [c1, decide_false, cond_false]
  unfold N5_j0
  by_cases c2 : w > 8
  · simp only [c2, decide_true, cond_true]
    have ep : putL n.toNat w = [] := by unfold putL; rw [if_pos (.inr c2)]
    rw [ep] at hs
    have : c.n = 0 := by have := (hs.own 1 rfl).1; simpa using this.symm
    simp only [this]
    exact ⟨rfl, X1.trans (hs.was 0 rfl)⟩
  simp only [c2, decide_false, cond_false]
  obtain ⟨k, rfl⟩ := Int.eq_ofNat_of_zero_le (by omega : 0 ≤ w)
  obtain ⟨n, rfl⟩ := Int.eq_ofNat_of_zero_le n0
  have ep : putL (n : Int).toNat k = be n k := by unfold putL; rw [if_neg (by omega)]; simp
  rw [ep] at hs
  unfold N5_j1
  have H2 := H.ext (X1.trans (hs.was 0 rfl))
  refine H2.b2s ?_
  refine hs.s2b ?_
  intro c2 h3 hs
  have hcn := (hs.byt 2 rfl).rdb.n
  have hb3 := (hs.own 1 rfl).rdb
  have hbn := hb3.n
  rw [be_len] at hbn
  refine hs.apB (m := be n k) 2 rfl y_a y_zl (fun G => by show G c.n = _; rw [hbn, be_len]) (fun G hG => hb3.srcK (s := c) (n := (be n k).length) (Nat.le_refl _) (by rw [List.take_length]; exact hG)) (by rw [y_b, be_len]; omega) ?_
  intro c3 h4 hs
  simp only [List.set_cons_succ, List.set_cons_zero, List.nil_append, List.cons_append] at hs
  have hs : Sat ([] ++ [Hw.was h1, Hw.own 5 1 c (bc (be n k)), Hw.byt 5 c3 (l ++ be n k)]) h4 := hs
  have T4 := T.ext (X1.trans (hs.was 0 rfl))
  refine c_get (hs.byt 2 rfl).rdb (by simp [be_len]; omega) ?_
  refine c_get T4 hm ?_
  have ev : getV (l ++ be n k) ((s.n : Nat) : Int) k = n % 256 ^ k := by
    unfold getV
    rw [if_neg (by omega), if_neg (by simp [be_len]; omega)]
    have : (((s.n : Nat) : Int)).toNat = l.length := by omega
    rw [this, Int.toNat_natCast, List.drop_left, List.take_of_length_le (by rw [be_len]; exact Nat.le_refl _), nat_be']
  have ee : getE (l ++ be n k) ((s.n : Nat) : Int) k = 0 := by
    unfold getE
    rw [if_neg (by omega), if_neg (by simp [be_len]; omega)]
  rw [ev, ee]
  have hlt : getV m 0 k < 18446744073709551616 := by
    unfold getV
    split
    · omega
    · split
      · omega
      · have := nat256_lt ((m.drop (0 : Int).toNat).take (k : Int).toNat)
        have h2 : ((m.drop (0 : Int).toNat).take (k : Int).toNat).length ≤ 8 := by simp; omega
        have h3 : 256 ^ ((m.drop (0 : Int).toNat).take (k : Int).toNat).length ≤ 256 ^ 8 := Nat.pow_le_pow_right (by omega) h2
        omega
  refine c_put (by omega) (by omega) ?_
  intro h5 c4 no4
  have hs := hs.addNew no4
  have hc4 := (hs.own 3 rfl).rdb
  have T5 := T4.ext no4.1
  have X5 := X1.trans (hs.was 0 rfl)
  have j3 : ∀ wh : Bool, (wh = true ↔ n % 256 ^ k = n) → N5_j3 n k t true ((n % 256 ^ k : Nat) : Int) 0 (getE m 0 k) wh h5 (fun v h' => v = true ∧ Ext none' h h') := by
    intro wh hw
    unfold N5_j3
    simp only [cond_true, beq_self_eq_true]
    have e1 : ((((n % 256 ^ k : Nat) : Int) == (n : Int)) == wh) = true := by
      rw [beq_iff_eq]
      cases wh with
      | true => rw [beq_iff_eq]; have := hw.1 rfl; omega
      | false =>
        rw [beq_eq_false_iff_ne]
        intro hq
        have := hw.2 (by omega)
        cases this
    have e2 : ((getE m 0 k == 0) == decide (((t.n : Nat) : Int) ≥ k)) = true := by
      rw [beq_iff_eq]
      unfold getE
      rw [if_neg (by omega)]
      by_cases hk : m.length < k
      · rw [if_pos (by omega)]
        have : decide (((t.n : Nat) : Int) ≥ k) = false := decide_eq_false (by omega)
        rw [this]; rfl
      · rw [if_neg (by omega)]
        have : decide (((t.n : Nat) : Int) ≥ k) = true := decide_eq_true (by omega)
        rw [this]; rfl
    rw [e1, e2]
    simp only [cond_true]
    exact ⟨trivial, X5⟩
  have j2 : ∀ wh : Bool, (wh = true ↔ n % 256 ^ k = n) → N5_j2 n k t true ((n % 256 ^ k : Nat) : Int) 0 (getE m 0 k) c4 wh h5 (fun v h' => v = true ∧ Ext none' h h') := by
    intro wh hw
    unfold N5_j2
    have hj := j3 wh hw
    by_cases hk : m.length < k
    · have : getE m 0 k = 5 := by unfold getE; rw [if_neg (by omega), if_pos (by omega)]
      rw [this] at hj ⊢
      simp only [show ((5 : Int) == 0) = false from rfl, cond_false]
      exact hj
    · have : getE m 0 k = 0 := by unfold getE; rw [if_neg (by omega), if_neg (by omega)]
      rw [this] at hj ⊢
      simp only [beq_self_eq_true, cond_true]
      have : decide (((t.n : Nat) : Int) < k) = false := decide_eq_false (by omega)
      rw [this, cond_false]
      have eg : putL (((getV m 0 k : Nat) : Int)).toNat k = m.take k := by
        unfold putL
        rw [if_neg (by omega), Int.toNat_natCast, Int.toNat_natCast]
        unfold getV
        rw [if_neg (by omega), if_neg (by omega)]
        simp only [Int.toNat_zero, List.drop_zero, Int.toNat_natCast]
        have := be_nat (m.take k)
        rw [List.length_take, Nat.min_eq_left (by omega)] at this
        exact this
      rw [eg] at hc4
      refine hc4.b2s ?_
      refine bd_nat (by omega) ?_
      rw [sadr_zero]
      have T6 : RdB h5 ⟨t.p, k, t.c⟩ (m.take k) := by
        have := T5.sub (lo := 0) (hi := k) (by omega) (by omega)
        rw [sadr_zero] at this
        simpa using this
      refine T6.b2s ?_
      simp only [beq_self_eq_true, Bool.not_true, cond_false]
      exact hj
  by_cases c8 : k = 8
  · subst c8
    simp only [show (((8 : Nat) : Int) == 8) = true from rfl, cond_true]
    exact j2 true ⟨fun _ => (whole_iff (w := 8) (fun _ => by omega)).2 (.inl rfl), fun _ => rfl⟩
  · have : (((k : Nat) : Int) == 8) = false := by rw [beq_eq_false_iff_ne]; omega
    rw [this, cond_false]
    rw [wi64i (x := 8 * (k : Int)) (by omega) (by omega), wu64i (x := 8 * (k : Int)) (by omega) (by omega)]
    have : decide ((8 * (k : Int)) < 0) = false := decide_eq_false (by omega)
    rw [this, cond_false]
    have em : min ((8 * (k : Int))).toNat 64 = 8 * k := by omega
    rw [em]
    refine j2 _ ?_
    rw [whole_iff (fun e => absurd e c8), beq_iff_eq]
    have ed : Int.fdiv (n : Int) (2 ^ (8 * k)) = ((n / 2 ^ (8 * k) : Nat) : Int) := by
      rw [Int.fdiv_eq_ediv_of_nonneg _ (by exact_mod_cast Nat.zero_le _)]
      push_cast; rfl
    rw [ed]
    constructor
    · intro h; right; omega
    · rintro (h | h)
      · exact absurd h c8
      · rw [h]; rfl

set_option maxRecDepth 100000 in
theorem octetBack_rw {H : Type} {enc : TypeId × Value → H} {W : World} {base : Nat} {args : Array Value} {ds : List (DataW H)} {p : List MemPlace}
    (hval : ∀ (j : Nat) t v, Tryd.f5.params[j]? = some t → args[j]? = some v → Value.okWide Tryd.prog W .any base t v)
    (hA : DataW.TrodAll enc Tryd.prog W 0 (fun _ => true) true Tryd.f5.params.toList args.toList ds p)
    (hwt : (DataW.weightsEach Tryd.prog Tryd.f5.params.toList ds).all (· ≤ reachBytes) = true)
    (hX : laidMetH Tryd.prog laidL W) (hsh : W.ShapedOpen Tryd.prog) :
    HCalls Tryd.prog 5 args (hpOf W) fun v h' => v = .bool true ∧ Ext none' (hpOf W) h' := by
  have ep : Tryd.f5.params = #[24, 22, 3, 24] := by kernel_rfl
  rw [ep] at hA hval hwt
  obtain ⟨v0, r0, d0, s0, p0, q0, ea, rfl, rfl, h0, hA⟩ := trodAll_cons hA
  obtain ⟨v1, r1, d1, s1, p1, q1, rfl, rfl, rfl, h1, hA⟩ := trodAll_cons hA
  obtain ⟨v2, r2, d2, s2, p2, q2, rfl, rfl, rfl, h2, hA⟩ := trodAll_cons hA
  obtain ⟨v3, r3, d3, s3, p3, q3, rfl, rfl, rfl, h3, hA⟩ := trodAll_cons hA
  obtain ⟨rfl, rfl, rfl⟩ := trodAll_nil hA
  have ea : args = #[v0, v1, v2, v3] := Array.toList_inj.1 ea
  subst ea
  obtain ⟨s, l, rfl, hr, hcap⟩ := bytes_open (e := 5) (by kernel_rfl) (by kernel_rfl) (by kernel_rfl) (hval 0 24 v0 rfl rfl) h0
  have hcl := cap_le (j := 0) (t := 24) (e := 5) hwt rfl rfl (by kernel_rfl) (by kernel_rfl) hcap
  obtain ⟨n, rfl, wn⟩ := int_open (k := .u64) (by kernel_rfl) (hval 1 22 v1 rfl rfl) h1
  obtain ⟨w, rfl, ww⟩ := int_open (k := .i64) (by kernel_rfl) (hval 2 3 v2 rfl rfl) h2
  obtain ⟨t, m, rfl, hr2, hcap2⟩ := bytes_open (e := 5) (by kernel_rfl) (by kernel_rfl) (by kernel_rfl) (hval 3 24 v3 rfl rfl) h3
  have hcl2 := cap_le (j := 3) (t := 24) (e := 5) hwt rfl rfl (by kernel_rfl) (by kernel_rfl) hcap2
  have wn := wfb wn
  have hc := octetBack_walk (s := s) (t := t) (n := n) (w := w) (glob_of hX hsh) hr hr2 (by have := hr.n; have := hr.c; omega) (by have := hr2.n; have := hr2.c; omega) wn.1 (by have := wn.2; simp [IntKind.max, IntKind.signed, IntKind.bits] at this; omega)
  refine HCalls.mono hc ?_
  intro v h' hv
  obtain ⟨x, hx, rfl, he⟩ := VT.on_some hv
  cases hx
  exact ⟨rfl, he⟩

set_option maxRecDepth 100000 in
theorem octetBack_lifted (os : Os) (started : os.Started) (H : Type) (enc : TypeId × Value → H) :
    ReturnsInHanded {} Tryd.checked os 5 .any (fun w args => (Rows.octetBackSpec.pre enc Tryd.prog Tryd.f5 [] false w args ∧ laidMetH Tryd.prog laidL w) ∧ sizedMet enc Tryd.prog Tryd.f5 (OpenSpec.ofChange Rows.octetBackSpec) false w args)
      (Rows.octetBackSpec.post enc Tryd.prog Tryd.f5 false true false false) := by
  refine law_lift (C := Tryd.checked) (X := fun w => laidMetH Tryd.prog laidL w) (tb := 4) (fun _ _ hh h => h.of_heap hh) own_knob started (by kernel_rfl) Tryd.func5
    (ChangeSpec.witness_at (enc := enc) (C := Tryd.checked) (os := os) (X := fun w _ => laidMetH Tryd.prog laidL w) false (laidWorld os) #[.slice none 0 0, .int .u64 0, .int .i64 0, .slice none 0 0] 8 rfl (by kernel_rfl) (by kernel_rfl) (by kernel_rfl) (by kernel_rfl) (by kernel_rfl) (laid_met os _))
    laid_out ?_ (by kernel_rfl) (by kernel_rfl) rfl ?_ ?_
  · have : (Tryd.f5.params.toList.all fun t => Tryd.prog.readableRec t && decide (t < Tryd.prog.types.size)) = true := by kernel_rfl
    intro t ht
    have := List.all_eq_true.1 this t ht
    rw [Bool.and_eq_true, decide_eq_true_eq] at this
    exact this
  · intro ds hl
    have hl : ds.length = 4 := hl
    match ds, hl with
    | [a0, a1, a2, a3], _ => exact ⟨rfl, rfl, rfl⟩
  · intro W base args ds p hval hA hwt hX hsh
    exact octetBack_rw hval hA hwt hX hsh

theorem octetBack_row : Rows.OctetBackSaid :=
  OpenClaim.holds_of_wide 5 Tryd.f5 rfl rfl rfl rfl rfl rfl rfl ⟨rfl, rfl, rfl, rfl, rfl⟩ rfl rfl rfl rfl rfl (by kernel_rfl) Tryd.func5 (by kernel_rfl)
    (of_decide_eq_true (by kernel_rfl)) (by unfold Func.isWrapper; first | (rw [if_pos (by decide +kernel)]; kernel_rfl) | (rw [if_neg (by decide +kernel)]; exact ⟨rfl, rfl⟩))
    (fun os started H enc _ => octetBack_lifted os started H enc)

/-- the statement -/
theorem octetBack_card : Rows.OctetBackCardSaid :=
  Claim7.holds_tied_plain_at .later [] [.data, .data, .data, .data, .sentinel, .sentinel, .pinned] true (true, "56cb0fc03a3dfc1bfe4648d45d1533646674b9c7df771b5f79239cc7243cf7b8") true
    octetBack_row (fun _ h => by cases h) (by kernel_rfl) (fun _ h => by cases h) octetBack_row_tie rfl ⟨rfl, rfl⟩ (by kernel_rfl) rfl
    (fun f fn hf hfn => by
      obtain rfl : f = 5 := Option.some.inj ((show Tryd.prog.funcNamed "slipway/slipwaylaw01.OctetBack" = some 5 by kernel_rfl).symm.trans hf) |>.symm
      obtain rfl : fn = Tryd.f5 := (Option.some.inj (Tryd.func5.symm.trans hfn)).symm
      have hall : (Tryd.f5.params.toList.all fun t => !(Tryd.prog.wantsStandIn t)) = true := by kernel_rfl
      refine ⟨by kernel_rfl, fun j t ht => ?_⟩
      have := List.all_eq_true.1 hall t (by rw [← Array.getElem?_toList] at ht; exact List.mem_of_getElem? ht)
      rw [Bool.not_eq_true'] at this
      exact this)
    (by kernel_rfl)
#print axioms octetBack_card

end Go.Proofs.YtlioifgejijcoaaDoor
