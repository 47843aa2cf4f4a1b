/-
  OctetTurned: for every row of bytes, every place and every word, the law's function slipwaylaw01.OctetTurned returns true and leaves all that was there as it was.
-/
import Derived.Test.YtlioifgejijcoaaDoorPf
set_option linter.unusedSimpArgs false
set_option linter.unusedVariables false
namespace Go.Proofs.YtlioifgejijcoaaDoor
open Go Go.Hw
open Go.ChangeShapes Go.WideShapes Go.ChangeAt Go.RowKit

theorem octetTurned_walk {s : Sl} {l : List UInt8} {a n : Int} {h : Hp} (G : Glob h) (H : RdB h s l) (hl : l.length ≤ 140737488355328) (n0 : 0 ≤ n) (n1 : n < 65536) : C14 s a n h fun v h' => v = true ∧ Ext none' h h' := by
  apply S14; unfold N14
  refine c_live G fun h1 x1 => ?_
  have H1 := H.ext x1
  have hn := H.n
  by_cases c1 : a < 0
  · simp only [c1, decide_true, cond_true]; exact ⟨trivial, x1⟩
  simp only [c1, decide_false, cond_false]
  by_cases c2 : a.tmod 2 = 1
  · simp only [c2, beq_self_eq_true, cond_true]; exact ⟨trivial, x1⟩
  have : (a.tmod 2 == 1) = false := by simp [c2]
  rw [this, cond_false]
  by_cases c3 : l.length < 2
  · have : decide (((s.n : Nat) : Int) < 2) = true := decide_eq_true (by omega)
    rw [this, cond_true]; exact ⟨trivial, x1⟩
  have : decide (((s.n : Nat) : Int) < 2) = false := decide_eq_false (by omega)
  rw [this, cond_false, wi64i (x := ((s.n : Nat) : Int) - 2) (by omega) (by omega)]
  by_cases c4 : a > ((s.n : Nat) : Int) - 2
  · simp only [c4, decide_true, cond_true]; exact ⟨trivial, x1⟩
  simp only [c4, decide_false, cond_false]
  obtain ⟨k, rfl⟩ := Int.eq_ofNat_of_zero_le (by omega : 0 ≤ a)
  rw [Int.tmod_eq_emod_of_nonneg (by omega)] at c2
  have he : k % 2 = 0 := by omega
  have hk : k + 1 < l.length := by omega
  refine H1.b2s ?_
  refine Sat.s2b (Sat.start (h := h1)) ?_
  intro c h2 hs
  have H2 := H1.ext (hs.was 0 rfl)
  refine H2.at (i := k) rfl (by omega) ?_
  rw [nat_succ64 (by omega)]
  refine H2.at (i := k + 1) rfl hk ?_
  obtain ⟨hi, lo, e1, e2, e3⟩ := word_bytes n0 n1
  refine hs.stB (k := k) (v := hi) 1 rfl rfl (by omega) e1 ?_
  intro h3 hs
  refine hs.stB (k := k + 1) (v := lo) 1 rfl rfl (by simpa using hk) e2 ?_
  intro h4 hs
  simp only [List.set_cons_succ, List.set_cons_zero, List.nil_append, List.cons_append] at hs
  have b1 := (l[k]'(by omega)).toNat_lt
  have b2 := (l[k + 1]'hk).toNat_lt
  have eo : IntKind.wrap .u16 ((IntKind.wrap .u16 ((IntKind.wrap .u16 (((l[k]'(by omega)).toNat : Nat) : Int)) * 256)) + (IntKind.wrap .u16 (((l[k + 1]'hk).toNat : Nat) : Int))) = ((256 * (l[k]'(by omega)).toNat + (l[k + 1]'hk).toNat : Nat) : Int) := by
    rw [wu16i (x := (((l[k]'(by omega)).toNat : Nat) : Int)) (by omega) (by omega), wu16i (x := (((l[k]'(by omega)).toNat : Nat) : Int) * 256) (by omega) (by omega), wu16i (x := (((l[k + 1]'hk).toNat : Nat) : Int)) (by omega) (by omega), wu16i (by omega) (by omega)]
    omega
  rw [eo]
  obtain ⟨t1, t2⟩ := turned_law hk he (n := n.toNat) (hi := hi) (lo := lo) e3 (by omega)
  have hl' : ((l.set k hi).set (k + 1) lo).length = l.length := by simp
  generalize (l.set k hi).set (k + 1) lo = m at hs t1 t2 hl'
  have hol : 256 * (l[k]'(by omega)).toNat + (l[k + 1]'hk).toNat < 65536 := by omega
  generalize 256 * (l[k]'(by omega)).toNat + (l[k + 1]'hk).toNat = o at t1 t2 hol
  have hs : Sat ([] ++ [Hw.was h1, Hw.byt 5 c m]) h4 := hs
  have hc := (hs.byt 1 rfl).rdb
  have hcn := hc.n
  unfold N14_l0
  refine loopP_inv (fun (x : Bool × Int) hc => hc = h4 ∧ ∃ i : Nat, x.2 = i ∧ i ≤ m.length ∧ (x.1 = true ↔ ∀ b ∈ m.take i, b = 0)) (fun x _ => m.length - x.2.toNat) ?_ ⟨rfl, 0, rfl, Nat.zero_le _, by simp⟩
  rintro ⟨z, x⟩ hq ⟨rfl, i, hx, hi2, hz⟩
  simp only at hx hz
  subst hx
  unfold N14_l0_B N14_l0_b
  dsimp only
  by_cases hlt : i < m.length
  · have : decide ((i : Int) < ((c.n : Nat) : Int)) = true := decide_eq_true (by omega)
    rw [this, cond_true]
    have et : m.take (i + 1) = m.take i ++ [m[i]] := (List.take_append_getElem hlt).symm
    cases z with
    | false =>
      simp only [cond_false]
      rw [nat_succ64 (by omega)]
      refine ⟨⟨trivial, i + 1, rfl, hlt, ?_⟩, by simp only [Int.toNat_natCast]; omega⟩
      rw [et]
      constructor
      · intro h; cases h
      · intro h; exact hz.2 (fun b hb => h b (List.mem_append.2 (.inl hb)))
    | true =>
      simp only [cond_true]
      refine hc.at (i := i) rfl hlt ?_
      rw [nat_succ64 (by omega)]
      refine ⟨⟨trivial, i + 1, rfl, hlt, ?_⟩, by simp only [Int.toNat_natCast]; omega⟩
      rw [et]
      have h0 := hz.1 rfl
      have hb : ((((m[i]'hlt).toNat : Nat) : Int) == 0) = true ↔ m[i] = 0 := by
        rw [beq_iff_eq]
        exact ⟨fun h => UInt8.toNat_inj.1 (by simp; omega), fun h => by rw [h]; rfl⟩
      rw [hb]
      constructor
      · intro h b hb
        rcases List.mem_append.1 hb with hb | hb
        · exact h0 b hb
        · simp at hb; rw [hb]; exact h
      · intro h; exact h _ (List.mem_append.2 (.inr (by simp)))
  · have : decide ((i : Int) < ((c.n : Nat) : Int)) = false := decide_eq_false (by omega)
    rw [this, cond_false]
    have : i = m.length := by omega
    subst this
    rw [List.take_length] at hz
    have X4 := x1.trans (hs.was 0 rfl)
    intro b2 e2
    have y2 : Ext none' hq (upd hq b2 (.cells ⟨[.slice s.p s.n s.c]⟩ 24 (0, 0))) := Ext.new e2
    have r2 := one_rdp (s := s) (b := b2) (h := upd hq b2 (.cells ⟨[.slice s.p s.n s.c]⟩ 24 (0, 0))) Blk.upd_same (H.ext (X4.trans y2))
    revert y2 r2
    generalize upd hq b2 _ = h5
    intro y2 r2
    refine c_sum r2 (by intro l' hl'; simp at hl'; rw [hl']; exact hl) (by simp; omega) (by simp) ?_
    have ef : [l].flatten = l := by simp
    rw [ef]
    intro b3 e3
    have y3 : Ext none' h5 (upd h5 b3 (.cells ⟨[.slice c.p c.n c.c]⟩ 24 (0, 0))) := Ext.new e3
    have r3 := one_rdp (s := c) (b := b3) (h := upd h5 b3 (.cells ⟨[.slice c.p c.n c.c]⟩ 24 (0, 0))) Blk.upd_same (hc.ext (y2.trans y3))
    revert y3 r3
    generalize upd h5 b3 _ = h6
    intro y3 r3
    refine c_sum r3 (by intro l' hl'; simp at hl'; rw [hl']; omega) (by simp; omega) (by simp) ?_
    have ef : [m].flatten = m := by simp
    rw [ef]
    have hsl := sum16_lt l
    refine c_turn (by omega) (by omega) (by omega) (by omega) n0 n1 ?_
    simp only [Int.toNat_natCast]
    have X6 := (X4.trans y2).trans y3
    by_cases hall : ∀ b ∈ m, b = 0
    · have : z = true := hz.2 hall
      subst this
      obtain ⟨g1, g2⟩ := t1 hall
      simp only [cond_true]
      rw [g1, g2]
      simp only [show ((((65535 : Nat) : Int)) == 65535) = true from rfl, cond_true]
      exact ⟨rfl, X6⟩
    · have : z = false := by cases z with | false => rfl | true => exact absurd (hz.1 rfl) hall
      subst this
      simp only [cond_false, cond_true]
      rw [t2 hall]
      exact ⟨by simp, X6⟩

set_option maxRecDepth 100000 in
theorem octetTurned_rw {H : Type} {enc : TypeId × Value → H} {W : World} {base : Nat} {args : Array Value} {ds : List (DataW H)} {p : List MemPlace}
    (hval : ∀ (j : Nat) t v, Tryd.f14.params[j]? = some t → args[j]? = some v → Value.okWide Tryd.prog W .any base t v)
    (hA : DataW.TrodAll enc Tryd.prog W 0 (fun _ => true) true Tryd.f14.params.toList args.toList ds p)
    (hwt : (DataW.weightsEach Tryd.prog Tryd.f14.params.toList ds).all (· ≤ reachBytes) = true)
    (hX : laidMetH Tryd.prog laidL W) (hsh : W.ShapedOpen Tryd.prog) :
    HCalls Tryd.prog 14 args (hpOf W) fun v h' => v = .bool true ∧ Ext none' (hpOf W) h' := by
  have ep : Tryd.f14.params = #[24, 3, 42] := by kernel_rfl
  rw [ep] at hA hval hwt
  obtain ⟨v0, r0, d0, s0, p0, q0, ea, rfl, rfl, h0, hA⟩ := trodAll_cons hA
  obtain ⟨v1, r1, d1, s1, p1, q1, rfl, rfl, rfl, h1, hA⟩ := trodAll_cons hA
  obtain ⟨v2, r2, d2, s2, p2, q2, rfl, rfl, rfl, h2, hA⟩ := trodAll_cons hA
  obtain ⟨rfl, rfl, rfl⟩ := trodAll_nil hA
  have ea : args = #[v0, v1, v2] := Array.toList_inj.1 ea
  subst ea
  obtain ⟨s, l, rfl, hr, hcap⟩ := bytes_open (e := 5) (by kernel_rfl) (by kernel_rfl) (by kernel_rfl) (hval 0 24 v0 rfl rfl) h0
  have hcl := cap_le (j := 0) (t := 24) (e := 5) hwt rfl rfl (by kernel_rfl) (by kernel_rfl) hcap
  obtain ⟨a, rfl, wa⟩ := int_open (k := .i64) (by kernel_rfl) (hval 1 3 v1 rfl rfl) h1
  obtain ⟨w, rfl, ww⟩ := int_open (k := .u16) (by kernel_rfl) (hval 2 42 v2 rfl rfl) h2
  have ww := wfb ww
  have hc := octetTurned_walk (s := s) (a := a) (n := w) (glob_of hX hsh) hr (by have := hr.n; have := hr.c; omega) ww.1 (by have := ww.2; simp [IntKind.max, IntKind.signed, IntKind.bits] at this; omega)
  refine HCalls.mono hc ?_
  intro v h' hv
  obtain ⟨x, hx, rfl, he⟩ := VT.on_some hv
  cases hx
  exact ⟨rfl, he⟩

set_option maxRecDepth 100000 in
theorem octetTurned_lifted (os : Os) (started : os.Started) (H : Type) (enc : TypeId × Value → H) :
    ReturnsInHanded {} Tryd.checked os 14 .any (fun w args => (Rows.octetTurnedSpec.pre enc Tryd.prog Tryd.f14 [] false w args ∧ laidMetH Tryd.prog laidL w) ∧ sizedMet enc Tryd.prog Tryd.f14 (OpenSpec.ofChange Rows.octetTurnedSpec) false w args)
      (Rows.octetTurnedSpec.post enc Tryd.prog Tryd.f14 false true false false) := by
  refine law_lift (C := Tryd.checked) (X := fun w => laidMetH Tryd.prog laidL w) (tb := 4) (fun _ _ hh h => h.of_heap hh) own_knob started (by kernel_rfl) Tryd.func14
    (ChangeSpec.witness_at (enc := enc) (C := Tryd.checked) (os := os) (X := fun w _ => laidMetH Tryd.prog laidL w) false (laidWorld os) #[.slice none 0 0, .int .i64 0, .int .u16 0] 8 rfl (by kernel_rfl) (by kernel_rfl) (by kernel_rfl) (by kernel_rfl) (by kernel_rfl) (laid_met os _))
    laid_out ?_ (by kernel_rfl) (by kernel_rfl) rfl ?_ ?_
  · have : (Tryd.f14.params.toList.all fun t => Tryd.prog.readableRec t && decide (t < Tryd.prog.types.size)) = true := by kernel_rfl
    intro t ht
    have := List.all_eq_true.1 this t ht
    rw [Bool.and_eq_true, decide_eq_true_eq] at this
    exact this
  · intro ds hl
    have hl : ds.length = 3 := hl
    match ds, hl with
    | [a0, a1, a2], _ => exact ⟨rfl, rfl, rfl⟩
  · intro W base args ds p hval hA hwt hX hsh
    exact octetTurned_rw hval hA hwt hX hsh

theorem octetTurned_row : Rows.OctetTurnedSaid :=
  OpenClaim.holds_of_wide 14 Tryd.f14 rfl rfl rfl rfl rfl rfl rfl ⟨rfl, rfl, rfl, rfl, rfl⟩ rfl rfl rfl rfl rfl (by kernel_rfl) Tryd.func14 (by kernel_rfl)
    (of_decide_eq_true (by kernel_rfl)) (by unfold Func.isWrapper; first | (rw [if_pos (by decide +kernel)]; kernel_rfl) | (rw [if_neg (by decide +kernel)]; exact ⟨rfl, rfl⟩))
    (fun os started H enc _ => octetTurned_lifted os started H enc)

/-- the statement -/
theorem octetTurned_card : Rows.OctetTurnedCardSaid :=
  Claim7.holds_tied_plain_at .later [] [.data, .data, .data, .data, .sentinel, .sentinel, .pinned] true (true, "56cb0fc03a3dfc1bfe4648d45d1533646674b9c7df771b5f79239cc7243cf7b8") true
    octetTurned_row (fun _ h => by cases h) (by kernel_rfl) (fun _ h => by cases h) octetTurned_row_tie rfl ⟨rfl, rfl⟩ (by kernel_rfl) rfl
    (fun f fn hf hfn => by
      obtain rfl : f = 14 := Option.some.inj ((show Tryd.prog.funcNamed "slipway/slipwaylaw01.OctetTurned" = some 14 by kernel_rfl).symm.trans hf) |>.symm
      obtain rfl : fn = Tryd.f14 := (Option.some.inj (Tryd.func14.symm.trans hfn)).symm
      have hall : (Tryd.f14.params.toList.all fun t => !(Tryd.prog.wantsStandIn t)) = true := by kernel_rfl
      refine ⟨by kernel_rfl, fun j t ht => ?_⟩
      have := List.all_eq_true.1 hall t (by rw [← Array.getElem?_toList] at ht; exact List.mem_of_getElem? ht)
      rw [Bool.not_eq_true'] at this
      exact this)
    (by kernel_rfl)
#print axioms octetTurned_card

end Go.Proofs.YtlioifgejijcoaaDoor
