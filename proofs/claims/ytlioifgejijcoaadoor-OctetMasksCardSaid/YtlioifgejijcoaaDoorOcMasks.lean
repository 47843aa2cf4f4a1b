/-
  OctetMasks: for every number and every card address, the law's function slipwaylaw01.OctetMasks returns true and leaves all that was there as it was.
-/
import Derived.Test.YtlioifgejijcoaaDoorPf
set_option linter.unusedSimpArgs false
set_option linter.unusedVariables false
namespace Go.Proofs.YtlioifgejijcoaaDoor
open Go Go.Hw
open Go.ChangeShapes Go.WideShapes Go.ChangeAt Go.RowKit

theorem octetMasks_walk {m : Int} {c0 c1 c2 c3 c4 c5 : UInt8} {h : Hp} (G : Glob h) (m0 : 0 ≤ m) (m1 : m < 4294967296) :
    C12 m c0.toNat c1.toNat c2.toNat c3.toNat c4.toNat c5.toNat h fun v h' => v = true ∧ Ext none' h h' := by
  apply S12; unfold N12
  intro b0 e0
  have hs : Sat ([] ++ [Hw.was h, row b0 49 (bc [c0, c1, c2, c3, c4, c5])]) _ := Sat.start.new e0 _
  have es : (upd h b0 (.cells ⟨[.int .u8 c0.toNat, .int .u8 c1.toNat, .int .u8 c2.toNat, .int .u8 c3.toNat, .int .u8 c4.toNat, .int .u8 c5.toNat]⟩ 49)) = upd h b0 (.cells ⟨bc [c0, c1, c2, c3, c4, c5]⟩ 49 (0, 0)) := rfl
  rw [es]
  revert hs
  generalize upd h b0 _ = h1
  intro hs
  have X1 : Ext none' h h1 := hs.was 0 rfl
  refine c_live (G.ext X1) fun h2 x2 => ?_
  refine c_Ones m0 m1 ?_
  simp only [cond_true]
  refine c_ones m0 m1 ?_
  simp only [beq_self_eq_true, cond_true]
  refine c_isMask m0 m1 ?_
  simp only [beq_self_eq_true, cond_true]
  refine c_isHost ?_
  refine c_IsHost m0 m1 ?_
  simp only [beq_self_eq_true, cond_true]
  have hb : Blk h2 b0 49 (bc [c0, c1, c2, c3, c4, c5]) := x2.blk (hs.blk 1 rfl) (fun e => e)
  have X2 := X1.trans x2
  simp only [cond_true, add_bk, hb.cell, bk, bc_cons, bc_nil, List.getElem?_cons_zero, List.getElem?_cons_succ, xI_some]
  refine c_group (by omega) (by have := c0.toNat_lt; omega) ?_
  intro h3 x3
  have hb3 := x3.blk hb (fun e => e)
  simp only [cond_true, add_bk, hb3.cell, bk, bc_cons, bc_nil, List.getElem?_cons_zero, List.getElem?_cons_succ, xI_some]
  refine ⟨⟨rfl, rfl⟩, ?_⟩
  refine c_Group (by omega) ?_
  intro h4 x4
  exact ⟨by simp, (X2.trans x3).trans x4⟩

set_option maxRecDepth 100000 in
theorem octetMasks_rw {H : Type} {enc : TypeId × Value → H} {W : World} {base : Nat} {args : Array Value} {ds : List (DataW H)} {p : List MemPlace}
    (hval : ∀ (j : Nat) t v, Tryd.f12.params[j]? = some t → args[j]? = some v → Value.okWide Tryd.prog W .any base t v)
    (hA : DataW.TrodAll enc Tryd.prog W 0 (fun _ => true) true Tryd.f12.params.toList args.toList ds p)
    (hwt : (DataW.weightsEach Tryd.prog Tryd.f12.params.toList ds).all (· ≤ reachBytes) = true)
    (hX : laidMetH Tryd.prog laidL W) (hsh : W.ShapedOpen Tryd.prog) :
    HCalls Tryd.prog 12 args (hpOf W) fun v h' => v = .bool true ∧ Ext none' (hpOf W) h' := by
  have ep : Tryd.f12.params = #[47, 49] := by kernel_rfl
  rw [ep] at hA hval
  obtain ⟨v0, r0, d0, s0, p0, q0, ea, rfl, rfl, h0, hA⟩ := trodAll_cons hA
  obtain ⟨v1, r1, d1, s1, p1, q1, rfl, rfl, rfl, h1, hA⟩ := trodAll_cons hA
  obtain ⟨rfl, rfl, rfl⟩ := trodAll_nil hA
  have ea : args = #[v0, v1] := Array.toList_inj.1 ea
  subst ea
  obtain ⟨m, rfl, wm⟩ := int_open (k := .u32) (by kernel_rfl) (hval 0 47 v0 rfl rfl) h0
  obtain ⟨l, hl, rfl⟩ := arr_open (n := 6) (e := 5) (by kernel_rfl) (by kernel_rfl) (by kernel_rfl) (by kernel_rfl) (hval 1 49 v1 rfl rfl) h1
  have wm := wfb wm
  match l, hl with
  | [c0, c1, c2, c3, c4, c5], _ =>
    have hc := octetMasks_walk (m := m) (c0 := c0) (c1 := c1) (c2 := c2) (c3 := c3) (c4 := c4) (c5 := c5) (glob_of hX hsh) wm.1 (by have := wm.2; simp [IntKind.max, IntKind.signed, IntKind.bits] at this; omega)
    refine HCalls.mono hc ?_
    intro v h' hv
    obtain ⟨x, hx, rfl, he⟩ := VT.on_some hv
    cases hx
    exact ⟨rfl, he⟩

set_option maxRecDepth 100000 in
theorem octetMasks_lifted (os : Os) (started : os.Started) (H : Type) (enc : TypeId × Value → H) :
    ReturnsInHanded {} Tryd.checked os 12 .any (fun w args => (Rows.octetMasksSpec.pre enc Tryd.prog Tryd.f12 [] false w args ∧ laidMetH Tryd.prog laidL w) ∧ sizedMet enc Tryd.prog Tryd.f12 (OpenSpec.ofChange Rows.octetMasksSpec) false w args)
      (Rows.octetMasksSpec.post enc Tryd.prog Tryd.f12 false true false false) := by
  refine law_lift (C := Tryd.checked) (X := fun w => laidMetH Tryd.prog laidL w) (tb := 4) (fun _ _ hh h => h.of_heap hh) own_knob started (by kernel_rfl) Tryd.func12
    (ChangeSpec.witness_at (enc := enc) (C := Tryd.checked) (os := os) (X := fun w _ => laidMetH Tryd.prog laidL w) false (laidWorld os) #[.int .u32 0, .agg #[.int .u8 0, .int .u8 0, .int .u8 0, .int .u8 0, .int .u8 0, .int .u8 0]] 8 rfl (by kernel_rfl) (by kernel_rfl) (by kernel_rfl) (by kernel_rfl) (by kernel_rfl) (laid_met os _))
    laid_out ?_ (by kernel_rfl) (by kernel_rfl) rfl ?_ ?_
  · have : (Tryd.f12.params.toList.all fun t => Tryd.prog.readableRec t && decide (t < Tryd.prog.types.size)) = true := by kernel_rfl
    intro t ht
    have := List.all_eq_true.1 this t ht
    rw [Bool.and_eq_true, decide_eq_true_eq] at this
    exact this
  · intro ds hl
    have hl : ds.length = 2 := hl
    match ds, hl with
    | [a0, a1], _ => exact ⟨rfl, rfl, rfl⟩
  · intro W base args ds p hval hA hwt hX hsh
    exact octetMasks_rw hval hA hwt hX hsh

theorem octetMasks_row : Rows.OctetMasksSaid :=
  OpenClaim.holds_of_wide 12 Tryd.f12 rfl rfl rfl rfl rfl rfl rfl ⟨rfl, rfl, rfl, rfl, rfl⟩ rfl rfl rfl rfl rfl (by kernel_rfl) Tryd.func12 (by kernel_rfl)
    (of_decide_eq_true (by kernel_rfl)) (by unfold Func.isWrapper; first | (rw [if_pos (by decide +kernel)]; kernel_rfl) | (rw [if_neg (by decide +kernel)]; exact ⟨rfl, rfl⟩))
    (fun os started H enc _ => octetMasks_lifted os started H enc)

/-- the statement -/
theorem octetMasks_card : Rows.OctetMasksCardSaid :=
  Claim7.holds_tied_plain_at .later [] [.data, .data, .data, .data, .sentinel, .sentinel, .pinned] true (true, "56cb0fc03a3dfc1bfe4648d45d1533646674b9c7df771b5f79239cc7243cf7b8") true
    octetMasks_row (fun _ h => by cases h) (by kernel_rfl) (fun _ h => by cases h) octetMasks_row_tie rfl ⟨rfl, rfl⟩ (by kernel_rfl) rfl
    (fun f fn hf hfn => by
      obtain rfl : f = 12 := Option.some.inj ((show Tryd.prog.funcNamed "slipway/slipwaylaw01.OctetMasks" = some 12 by kernel_rfl).symm.trans hf) |>.symm
      obtain rfl : fn = Tryd.f12 := (Option.some.inj (Tryd.func12.symm.trans hfn)).symm
      have hall : (Tryd.f12.params.toList.all fun t => !(Tryd.prog.wantsStandIn t)) = true := by kernel_rfl
      refine ⟨by kernel_rfl, fun j t ht => ?_⟩
      have := List.all_eq_true.1 hall t (by rw [← Array.getElem?_toList] at ht; exact List.mem_of_getElem? ht)
      rw [Bool.not_eq_true'] at this
      exact this)
    (by kernel_rfl)
#print axioms octetMasks_card

end Go.Proofs.YtlioifgejijcoaaDoor
