/-
  OctetNumbers: the call slipwaylaw01.OctetNumbers() returns true and leaves all that was there as it was.
-/
import Derived.Test.YtlioifgejijcoaaDoorPf
set_option linter.unusedSimpArgs false
set_option linter.unusedVariables false
namespace Go.Proofs.YtlioifgejijcoaaDoor
open Go Go.Hw
open Go.ChangeShapes Go.WideShapes Go.ChangeAt Go.RowKit

theorem octetNumbers_walk {h : Hp} (G : Glob h) : C11 h fun v h' => v = true ∧ Ext none' h h' := by
  apply S11; unfold N11
  refine c_live G fun h1 e1 => ?_
  refine c_everyone fun h2 e2 => ?_
  intro b4 e4
  have hs : Sat ([] ++ [Hw.was h2, row b4 49 [.int .u8 0, .int .u8 0, .int .u8 0, .int .u8 0, .int .u8 0, .int .u8 0]]) _ := Sat.start.new e4 _
  revert hs
  generalize upd h2 b4 _ = h7
  intro hs
  simp only [add_bk]
  refine hs.st 1 rfl (by simp) rfl ?_
  intro h8 hs
  refine hs.st 1 rfl (by simp) rfl ?_
  intro h9 hs
  refine hs.st 1 rfl (by simp) rfl ?_
  intro h10 hs
  refine hs.st 1 rfl (by simp) rfl ?_
  intro h11 hs
  refine hs.st 1 rfl (by simp) rfl ?_
  intro h12 hs
  refine hs.st 1 rfl (by simp) rfl ?_
  intro h13 hs
  have hb : Blk h13 b4 49 (bc [255, 255, 255, 255, 255, 255]) := hs.blk 1 rfl
  have X := (e1.trans e2).trans (hs.was 0 rfl)
  simp only [cond_true, hb.cell, bk, bc_cons, bc_nil, List.getElem?_cons_zero, List.getElem?_cons_succ, xI_some]
  simp only [show ((((255 : UInt8).toNat : Nat) : Int) == 255) = true from rfl, Bool.and_self, cond_true]
  refine c_group (by decide) (by decide) ?_
  intro h14 x14
  simp only [show ((((255 : UInt8).toNat : Nat) : Int) % 2 == 1) = true from rfl, cond_true]
  exact ⟨trivial, X.trans x14⟩

set_option maxRecDepth 100000 in
theorem octetNumbers_rw {H : Type} {enc : TypeId × Value → H} {W : World} {base : Nat} {args : Array Value} {ds : List (DataW H)} {p : List MemPlace}
    (hval : ∀ (j : Nat) t v, Tryd.f11.params[j]? = some t → args[j]? = some v → Value.okWide Tryd.prog W .any base t v)
    (hA : DataW.TrodAll enc Tryd.prog W 0 (fun _ => true) true Tryd.f11.params.toList args.toList ds p)
    (hwt : (DataW.weightsEach Tryd.prog Tryd.f11.params.toList ds).all (· ≤ reachBytes) = true)
    (hX : laidMetH Tryd.prog laidL W) (hsh : W.ShapedOpen Tryd.prog) :
    HCalls Tryd.prog 11 args (hpOf W) fun v h' => v = .bool true ∧ Ext none' (hpOf W) h' := by
  have ep : Tryd.f11.params = #[] := by kernel_rfl
  rw [ep] at hA
  obtain ⟨rfl, rfl, rfl⟩ := trodAll_none hA
  have hc := octetNumbers_walk (glob_of hX hsh)
  refine HCalls.mono hc ?_
  intro v h' hv
  obtain ⟨x, hx, rfl, he⟩ := VT.on_some hv
  cases hx
  exact ⟨rfl, he⟩

set_option maxRecDepth 100000 in
theorem octetNumbers_lifted (os : Os) (started : os.Started) (H : Type) (enc : TypeId × Value → H) :
    ReturnsInHanded {} Tryd.checked os 11 .any (fun w args => (Rows.octetNumbersSpec.pre enc Tryd.prog Tryd.f11 [] false w args ∧ laidMetH Tryd.prog laidL w) ∧ sizedMet enc Tryd.prog Tryd.f11 (OpenSpec.ofChange Rows.octetNumbersSpec) false w args)
      (Rows.octetNumbersSpec.post enc Tryd.prog Tryd.f11 false true false false) := by
  refine law_lift (C := Tryd.checked) (X := fun w => laidMetH Tryd.prog laidL w) (tb := 4) (fun _ _ hh h => h.of_heap hh) own_knob started (by kernel_rfl) Tryd.func11
    (ChangeSpec.witness_at (enc := enc) (C := Tryd.checked) (os := os) (X := fun w _ => laidMetH Tryd.prog laidL w) false (laidWorld os) #[] 8 rfl (by kernel_rfl) (by kernel_rfl) (by kernel_rfl) (by kernel_rfl) (by kernel_rfl) (laid_met os _))
    laid_out ?_ (by kernel_rfl) (by kernel_rfl) rfl ?_ ?_
  · have : (Tryd.f11.params.toList.all fun t => Tryd.prog.readableRec t && decide (t < Tryd.prog.types.size)) = true := by kernel_rfl
    intro t ht
    have := List.all_eq_true.1 this t ht
    rw [Bool.and_eq_true, decide_eq_true_eq] at this
    exact this
  · intro ds hl
    have hl : ds.length = 0 := hl
    match ds, hl with
    | [], _ => exact ⟨rfl, rfl, rfl⟩
  · intro W base args ds p hval hA hwt hX hsh
    exact octetNumbers_rw hval hA hwt hX hsh

theorem octetNumbers_row : Rows.OctetNumbersSaid :=
  OpenClaim.holds_of_wide 11 Tryd.f11 rfl rfl rfl rfl rfl rfl rfl ⟨rfl, rfl, rfl, rfl, rfl⟩ rfl rfl rfl rfl rfl (by kernel_rfl) Tryd.func11 (by kernel_rfl)
    (of_decide_eq_true (by kernel_rfl)) (by unfold Func.isWrapper; first | (rw [if_pos (by decide +kernel)]; kernel_rfl) | (rw [if_neg (by decide +kernel)]; exact ⟨rfl, rfl⟩))
    (fun os started H enc _ => octetNumbers_lifted os started H enc)

/-- the statement -/
theorem octetNumbers_card : Rows.OctetNumbersCardSaid :=
  Claim7.holds_tied_plain_at .later [] [.data, .data, .data, .data, .sentinel, .sentinel, .pinned] true (true, "56cb0fc03a3dfc1bfe4648d45d1533646674b9c7df771b5f79239cc7243cf7b8") true
    octetNumbers_row (fun _ h => by cases h) (by kernel_rfl) (fun _ h => by cases h) octetNumbers_row_tie rfl ⟨rfl, rfl⟩ (by kernel_rfl) rfl
    (fun f fn hf hfn => by
      obtain rfl : f = 11 := Option.some.inj ((show Tryd.prog.funcNamed "slipway/slipwaylaw01.OctetNumbers" = some 11 by kernel_rfl).symm.trans hf) |>.symm
      obtain rfl : fn = Tryd.f11 := (Option.some.inj (Tryd.func11.symm.trans hfn)).symm
      have hall : (Tryd.f11.params.toList.all fun t => !(Tryd.prog.wantsStandIn t)) = true := by kernel_rfl
      refine ⟨by kernel_rfl, fun j t ht => ?_⟩
      have := List.all_eq_true.1 hall t (by rw [← Array.getElem?_toList] at ht; exact List.mem_of_getElem? ht)
      rw [Bool.not_eq_true'] at this
      exact this)
    (by kernel_rfl)
#print axioms octetNumbers_card

end Go.Proofs.YtlioifgejijcoaaDoor
