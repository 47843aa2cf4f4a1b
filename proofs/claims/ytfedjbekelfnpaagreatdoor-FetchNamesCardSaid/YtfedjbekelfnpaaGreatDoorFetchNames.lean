/-
  FetchNames: the call slipwaylaw21.FetchNames() returns true and leaves all that was there as it was.
-/
import Derived.Test.YtfedjbekelfnpaaGreatDoorPd
set_option linter.unusedSimpArgs false
set_option linter.unusedVariables false
namespace Go.Proofs.YtfedjbekelfnpaaGreatDoor
open Go Go.Hw Go.Ix
open Go.ChangeShapes Go.WideShapes Go.ChangeAt Go.RowKit

set_option maxRecDepth 100000 in
theorem fetchNames_reckoned : callX no Tryz.prog glN 1000000 1000 3 [] (H0 glN erN tabL) (fun y _ => CV.eq y (.bool true)) = true := by kernel_rfl

set_option maxRecDepth 100000 in
theorem fetchNames_rw {H : Type} {enc : TypeId × Value → H} {W : World} {base : Nat} {args : Array Value} {ds : List (DataW H)} {p : List MemPlace}
    (hval : ∀ (j : Nat) t v, Tryz.f3.params[j]? = some t → args[j]? = some v → Value.okWide Tryz.prog W .any base t v)
    (hA : DataW.TrodAll enc Tryz.prog W 0 (fun _ => true) true Tryz.f3.params.toList args.toList ds p)
    (hwt : (DataW.weightsEach Tryz.prog Tryz.f3.params.toList ds).all (· ≤ reachBytes) = true)
    (hX : laidMetH Tryz.prog laidL W) (hsh : W.ShapedOpen Tryz.prog) :
    HCalls Tryz.prog 3 args (hpOf W) fun v h' => v = .bool true ∧ Ext none' (hpOf W) h' := by
  have ep : Tryz.f3.params = #[] := by kernel_rfl
  rw [ep] at hA
  obtain ⟨rfl, rfl, rfl⟩ := trodAll_none hA
  obtain ⟨bs, hb, ht⟩ := tabs_of hX
  exact Ix.closed (bs := bs) follows_mixed (by kernel_rfl) fetchNames_reckoned hb ht fun h' he => ⟨rfl, he⟩

set_option maxRecDepth 100000 in
theorem fetchNames_lifted (os : Os) (started : os.Started) (H : Type) (enc : TypeId × Value → H) :
    ReturnsInHanded {} Tryz.checked os 3 .any (fun w args => (Rows.fetchNamesSpec.pre enc Tryz.prog Tryz.f3 [] false w args ∧ laidMetH Tryz.prog laidL w) ∧ sizedMet enc Tryz.prog Tryz.f3 (OpenSpec.ofChange Rows.fetchNamesSpec) false w args)
      (Rows.fetchNamesSpec.post enc Tryz.prog Tryz.f3 false true false false) := by
  refine law_lift (C := Tryz.checked) (X := fun w => laidMetH Tryz.prog laidL w) (tb := 4) (fun _ _ hh h => h.of_heap hh) own_knob started (by kernel_rfl) Tryz.func3
    (ChangeSpec.witness_at (enc := enc) (C := Tryz.checked) (os := os) (X := fun w _ => laidMetH Tryz.prog laidL w) false (laidWorld os) #[] 8 rfl (by kernel_rfl) (by kernel_rfl) (by kernel_rfl) (by kernel_rfl) (by kernel_rfl) (laid_met os _))
    laid_out ?_ (by kernel_rfl) (by kernel_rfl) rfl ?_ ?_
  · have : (Tryz.f3.params.toList.all fun t => Tryz.prog.readableRec t && decide (t < Tryz.prog.types.size)) = true := by kernel_rfl
    intro t ht
    have := List.all_eq_true.1 this t ht
    rw [Bool.and_eq_true, decide_eq_true_eq] at this
    exact this
  · intro ds hl
    have hl : ds.length = 0 := hl
    match ds, hl with
    | [], _ => exact ⟨rfl, rfl, rfl⟩
  · intro W base args ds p hval hA hwt hX hsh
    exact fetchNames_rw hval hA hwt hX hsh

theorem fetchNames_row : Rows.FetchNamesSaid :=
  OpenClaim.holds_of_wide 3 Tryz.f3 rfl rfl rfl rfl rfl rfl rfl ⟨rfl, rfl, rfl, rfl, rfl⟩ rfl rfl rfl rfl rfl (by kernel_rfl) Tryz.func3 (by kernel_rfl)
    (of_decide_eq_true (by kernel_rfl)) (by unfold Func.isWrapper; first | (rw [if_pos (by decide +kernel)]; kernel_rfl) | (rw [if_neg (by decide +kernel)]; exact ⟨rfl, rfl⟩))
    (fun os started H enc _ => fetchNames_lifted os started H enc)

/-- the statement -/
theorem fetchNames_card : Rows.FetchNamesCardSaid :=
  Claim7.holds_tied_plain_at .later [] [.data, .data, .data, .sentinel, .sentinel, .sentinel, .sentinel] true (true, "07b2a5efc8bf13ac9c53d73f6120ea57849f4ee7a03bd5d76484620bc13cc5b3") true
    fetchNames_row (fun _ h => by cases h) (by kernel_rfl) (fun _ h => by cases h) fetchNames_row_tie rfl ⟨rfl, rfl⟩ (by kernel_rfl) rfl
    (fun f fn hf hfn => by
      obtain rfl : f = 3 := Option.some.inj ((show Tryz.prog.funcNamed "slipway/slipwaylaw21.FetchNames" = some 3 by kernel_rfl).symm.trans hf) |>.symm
      obtain rfl : fn = Tryz.f3 := (Option.some.inj (Tryz.func3.symm.trans hfn)).symm
      have hall : (Tryz.f3.params.toList.all fun t => !(Tryz.prog.wantsStandIn t)) = true := by kernel_rfl
      refine ⟨by kernel_rfl, fun j t ht => ?_⟩
      have := List.all_eq_true.1 hall t (by rw [← Array.getElem?_toList] at ht; exact List.mem_of_getElem? ht)
      rw [Bool.not_eq_true'] at this
      exact this)
    (by kernel_rfl)
#print axioms fetchNames_card

end Go.Proofs.YtfedjbekelfnpaaGreatDoor
