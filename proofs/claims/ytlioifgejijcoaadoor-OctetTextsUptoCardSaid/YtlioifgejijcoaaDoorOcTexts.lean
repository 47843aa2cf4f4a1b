/-
  OctetTexts: for every number, every card address and every text (of bulk at most 1048576), the law's function slipwaylaw01.OctetTexts returns true and leaves all that was there as it was.
-/
import Derived.Test.YtlioifgejijcoaaDoorPf
set_option linter.unusedSimpArgs false
set_option linter.unusedVariables false
namespace Go.Proofs.YtlioifgejijcoaaDoor
open Go Go.Hw
open Go.ChangeShapes Go.WideShapes Go.ChangeAt Go.RowKit

theorem octetTexts_walk {n : Int} {s : ByteArray} {c0 c1 c2 c3 c4 c5 : UInt8} {h : Hp} (G : Glob h) (n0 : 0 ≤ n) (n1 : n < 4294967296) (hsz : s.size ≤ 1048576) :
    C9 n c0.toNat c1.toNat c2.toNat c3.toNat c4.toNat c5.toNat s h fun v h' => v = true ∧ Ext none' h h' := by
  apply S9; unfold N9
  intro b0 e0
  have hs : Sat ([] ++ [Hw.was h, row b0 49 (bc [c0, c1, c2, c3, c4, c5])]) _ := Sat.start.new e0 _
  have es : (upd h b0 (.cells ⟨[.int .u8 c0.toNat, .int .u8 c1.toNat, .int .u8 c2.toNat, .int .u8 c3.toNat, .int .u8 c4.toNat, .int .u8 c5.toNat]⟩ 49)) = upd h b0 (.cells ⟨bc [c0, c1, c2, c3, c4, c5]⟩ 49 (0, 0)) := rfl
  rw [es]
  revert hs
  generalize upd h b0 _ = h1
  intro hs
  obtain ⟨a, e, D⟩ := dotOf_ex s.data.toList
  obtain ⟨m0, m1, m2, m3, m4, m5, f, C⟩ := colOf_ex s.data.toList
  have GG := fun {h'} (x : Ext none' h h') => G.ext x
  refine c_live (GG (hs.was 0 rfl)) fun h2 x2 => ?_
  have hs := hs.ext x2
  refine d_undotted (GG (hs.was 0 rfl)) (by omega) D ?_
  intro h3 x3
  have hs := hs.ext x3
  refine d_Undotted D ?_
  intro h4 x4
  have hs := hs.ext x4
  refine d_uncolons (GG (hs.was 0 rfl)) (by omega) C ?_
  intro h5 x5
  have hs := hs.ext x5
  intro b2 e2
  refine macs hs e2 ?_
  intro h6 hs
  refine d_Uncolons C ?_
  intro h7 x7
  have hs := hs.ext x7
  intro b3 e3
  refine macs hs e3 ?_
  intro h8 hs
  have hs : Sat ([] ++ [Hw.was h, row b0 49 (bc [c0, c1, c2, c3, c4, c5]), row b2 49 (bc [m0, m1, m2, m3, m4, m5]), row b3 49 (bc [m0, m1, m2, m3, m4, m5])]) h8 := hs
  simp only [cond_true]
  refine c_dotted (GG (hs.was 0 rfl)) n0 n1 ?_
  intro h9 x9
  have hs := hs.ext x9
  refine c_Dotted n0 n1 ?_
  intro h10 x10
  have hs := hs.ext x10
  simp only [beq_self_eq_true, cond_true]
  have k1 : Blk h10 b0 49 (bc [c0, c1, c2, c3, c4, c5]) := hs.blk 1 rfl
  simp only [add_bk, k1.cell, bk, bc_cons, bc_nil, List.getElem?_cons_zero, List.getElem?_cons_succ, xI_some]
  refine c_colons ?_
  intro h11 x11
  have hs := hs.ext x11
  have k1 : Blk h11 b0 49 (bc [c0, c1, c2, c3, c4, c5]) := hs.blk 1 rfl
  simp only [add_bk, k1.cell, bk, bc_cons, bc_nil, List.getElem?_cons_zero, List.getElem?_cons_succ, xI_some]
  refine ⟨⟨rfl, rfl⟩, ?_⟩
  refine c_Colons ?_
  intro h12 x12
  have hs := hs.ext x12
  have k2 : Blk h12 b2 49 (bc [m0, m1, m2, m3, m4, m5]) := hs.blk 2 rfl
  have k3 : Blk h12 b3 49 (bc [m0, m1, m2, m3, m4, m5]) := hs.blk 3 rfl
  simp only [beq_self_eq_true, cond_true, add_bk, k2.cell, k3.cell, bk, bc_cons, bc_nil, List.getElem?_cons_zero, List.getElem?_cons_succ, xI_some, Bool.and_self]
  exact ⟨trivial, hs.was 0 rfl⟩

set_option maxRecDepth 100000 in
theorem octetTexts_rw {H : Type} {enc : TypeId × Value → H} {W : World} {base : Nat} {args : Array Value} {ds : List (DataW H)} {p : List MemPlace}
    (hval : ∀ (j : Nat) t v, Tryd.f9.params[j]? = some t → args[j]? = some v → Value.okWide Tryd.prog W .any base t v)
    (hA : DataW.TrodAll enc Tryd.prog W 0 (fun _ => true) true Tryd.f9.params.toList args.toList ds p)
    (hwt : (DataW.weightsEach Tryd.prog Tryd.f9.params.toList ds).all (· ≤ reachBytes) = true)
    (hk : Rows.uptoSmall H ds = true)
    (hX : laidMetH Tryd.prog laidL W) (hsh : W.ShapedOpen Tryd.prog) :
    HCalls Tryd.prog 9 args (hpOf W) fun v h' => v = .bool true ∧ Ext none' (hpOf W) h' := by
  have ep : Tryd.f9.params = #[47, 49, 9] := by kernel_rfl
  rw [ep] at hA hval hwt
  obtain ⟨v0, r0, d0, s0, p0, q0, ea, rfl, rfl, h0, hA⟩ := trodAll_cons hA
  obtain ⟨v1, r1, d1, s1, p1, q1, rfl, rfl, rfl, h1, hA⟩ := trodAll_cons hA
  obtain ⟨v2, r2, d2, s2, p2, q2, rfl, rfl, rfl, h2, hA⟩ := trodAll_cons hA
  obtain ⟨rfl, rfl, rfl⟩ := trodAll_nil hA
  have ea : args = #[v0, v1, v2] := Array.toList_inj.1 ea
  subst ea
  have hk2 := bulk_all hk (d := d2) (by simp)
  obtain ⟨n, rfl, wn⟩ := int_open (k := .u32) (by kernel_rfl) (hval 0 47 v0 rfl rfl) h0
  obtain ⟨l, hl, rfl⟩ := arr_open (n := 6) (e := 5) (by kernel_rfl) (by kernel_rfl) (by kernel_rfl) (by kernel_rfl) (hval 1 49 v1 rfl rfl) h1
  obtain ⟨s, rfl, rfl⟩ := str_open (by kernel_rfl) (hval 2 9 v2 rfl rfl) h2
  have hs : s.size ≤ 1048576 := by
    have h1 := bulk_str (H := H) s.data.toList
    have h3 := Nat.le_trans h1 hk2
    show s.data.size ≤ _
    rw [← Array.length_toList]; exact h3
  have wn := wfb wn
  match l, hl with
  | [c0, c1, c2, c3, c4, c5], _ =>
    have hc := octetTexts_walk (n := n) (s := s) (c0 := c0) (c1 := c1) (c2 := c2) (c3 := c3) (c4 := c4) (c5 := c5) (glob_of hX hsh) wn.1 (by have := wn.2; simp [IntKind.max, IntKind.signed, IntKind.bits] at this; omega) hs
    refine HCalls.mono hc ?_
    intro v h' hv
    obtain ⟨x, hx, rfl, he⟩ := VT.on_some hv
    cases hx
    exact ⟨rfl, he⟩

set_option maxRecDepth 100000 in
theorem octetTexts_reads (os : Os) {H : Type} (enc : TypeId × Value → H) : ∃ places, DataW.whole enc Tryd.prog ((laidWorld os).forCall (fun _ _ => 0) ⟨#[], #[.int .u32 0, .agg #[.int .u8 0, .int .u8 0, .int .u8 0, .int .u8 0, .int .u8 0, .int .u8 0], .string ⟨#[]⟩], []⟩).memory Tryd.f9.params.toList Rows.octetTextsSpec.vars false (#[.int .u32 0, .agg #[.int .u8 0, .int .u8 0, .int .u8 0, .int .u8 0, .int .u8 0, .int .u8 0], .string ⟨#[]⟩] : Array Value).toList 8 = some ([.lit (.int .u32 0), .agg [.lit (.int .u8 0), .lit (.int .u8 0), .lit (.int .u8 0), .lit (.int .u8 0), .lit (.int .u8 0), .lit (.int .u8 0)], .lit (.string [])], [], places) := ⟨[], by kernel_rfl⟩
set_option maxRecDepth 100000 in
theorem octetTexts_lifted (os : Os) (started : os.Started) (H : Type) (enc : TypeId × Value → H) (F : Stop.Interp) :
    ReturnsInHanded {} Tryd.checked os 9 .any ((Rows.OpenSpec.upto Rows.octetTextsSpec).preRow enc Tryd.prog Tryd.f9 [] false laidL) (((Rows.OpenSpec.upto Rows.octetTextsSpec).at F).post enc Tryd.prog Tryd.f9 false true false false) := by
  obtain ⟨places, hx⟩ := octetTexts_reads os enc
  refine law_lift_row (C := Tryd.checked) (s := Rows.octetTextsSpec) (s' := Rows.OpenSpec.upto Rows.octetTextsSpec) (tb := 4) own_knob started (by kernel_rfl) Tryd.func9
    (witness_row_at (enc := enc) (C := Tryd.checked) false (laidWorld os) #[.int .u32 0, .agg #[.int .u8 0, .int .u8 0, .int .u8 0, .int .u8 0, .int .u8 0, .int .u8 0], .string ⟨#[]⟩] rfl (by kernel_rfl) (by kernel_rfl) (by kernel_rfl)
      (OpenSpec.preRow_of_cond 8 hx (by kernel_rfl) (fun k hk => by cases hk; kernel_rfl) (by kernel_rfl) (laid_met os _)))
    laid_out ?_ (by kernel_rfl) (by kernel_rfl) rfl rfl rfl (by kernel_rfl) ?_ ?_
  · have : (Tryd.f9.params.toList.all fun t => Tryd.prog.readableRec t && decide (t < Tryd.prog.types.size)) = true := by kernel_rfl
    intro t ht
    have := List.all_eq_true.1 this t ht
    rw [Bool.and_eq_true, decide_eq_true_eq] at this
    exact this
  · intro ds hl
    have hl : ds.length = 3 := hl
    match ds, hl with
    | [a0, a1, a2], _ => exact ⟨rfl, rfl, rfl⟩
  · intro W base args ds p hval hA hwt hk hX hsh
    exact octetTexts_rw hval hA hwt (hk _ rfl) hX hsh

theorem octetTexts_row : Rows.OctetTextsUptoSaid :=
  OpenClaim.holds_of_cond 9 Tryd.f9 rfl rfl rfl rfl rfl rfl rfl ⟨rfl, rfl, rfl, rfl, rfl⟩ rfl rfl rfl rfl rfl (by kernel_rfl) Tryd.func9 (by kernel_rfl)
    (of_decide_eq_true (by kernel_rfl)) (by unfold Func.isWrapper; first | (rw [if_pos (by decide +kernel)]; kernel_rfl) | (rw [if_neg (by decide +kernel)]; exact ⟨rfl, rfl⟩))
    (fun os started H enc _ F => by rw [OpenClaim.pre_eq_preRow]; exact octetTexts_lifted os started H enc F)

/-- the statement -/
theorem octetTexts_card : Rows.OctetTextsUptoCardSaid :=
  Claim7.holds_tied_plain_at .later [] [.data, .data, .data, .data, .sentinel, .sentinel, .pinned] true (true, "56cb0fc03a3dfc1bfe4648d45d1533646674b9c7df771b5f79239cc7243cf7b8") true
    octetTexts_row (fun _ h => by cases h) (by kernel_rfl) (fun _ h => by cases h) octetTextsUpto_row_tie rfl ⟨rfl, rfl⟩ (by kernel_rfl) rfl
    (fun f fn hf hfn => by
      obtain rfl : f = 9 := Option.some.inj ((show Tryd.prog.funcNamed "slipway/slipwaylaw01.OctetTexts" = some 9 by kernel_rfl).symm.trans hf) |>.symm
      obtain rfl : fn = Tryd.f9 := (Option.some.inj (Tryd.func9.symm.trans hfn)).symm
      have hall : (Tryd.f9.params.toList.all fun t => !(Tryd.prog.wantsStandIn t)) = true := by kernel_rfl
      refine ⟨by kernel_rfl, fun j t ht => ?_⟩
      have := List.all_eq_true.1 hall t (by rw [← Array.getElem?_toList] at ht; exact List.mem_of_getElem? ht)
      rw [Bool.not_eq_true'] at this
      exact this)
    (by kernel_rfl)
#print axioms octetTexts_card

end Go.Proofs.YtlioifgejijcoaaDoor
