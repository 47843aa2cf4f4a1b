/-
  PortNumbers: for every start, the law's function slipwaylaw13.PortNumbers returns true and leaves all that was there as it was. No condition.
-/
import Derived.Test.YtabihmedfopdcaaPc
import Derived.Test.YtabihmedfopdcaaPe
set_option linter.unusedVariables false
namespace Go.Proofs.Ytabihmedfopdcaa
open Go Go.Hw
open Go.ChangeShapes Go.WideShapes Go.ChangeAt Go.RowKit

set_option maxRecDepth 100000 in
theorem portNumbers_rw {H : Type} {enc : TypeId × Value → H} {W : World} {base : Nat} {args : Array Value} {ds : List (DataW H)} {p : List MemPlace}
    (hval : ∀ (j : Nat) t v, Try.f3.params[j]? = some t → args[j]? = some v → Value.okWide Try.prog W .any base t v)
    (hA : DataW.TrodAll enc Try.prog W 0 (fun _ => true) true Try.f3.params.toList args.toList ds p)
    (hwt : (DataW.weightsEach Try.prog Try.f3.params.toList ds).all (· ≤ reachBytes) = true)
    (hX : True) (hsh : W.ShapedOpen Try.prog) :
    HCalls Try.prog 3 args (hpOf W) fun v h' => v = .bool true ∧ Ext none' (hpOf W) h' := by
  have ep : Try.f3.params = #[] := by kernel_rfl
  rw [ep] at hA hval hwt
  obtain ⟨ea, rfl, rfl⟩ := trodAll_nil hA
  have ea : args = #[] := Array.toList_inj.1 ea
  subst ea
  have hc : C3 (hpOf W) fun b h' => b = true ∧ Ext none' (hpOf W) h' := c_portNumbers fun h' he => ⟨rfl, he⟩
  refine HCalls.mono hc ?_
  intro v h' hv
  obtain ⟨x, hx, rfl, he⟩ := VT.on_some hv
  cases hx
  exact ⟨rfl, he⟩

set_option maxRecDepth 100000 in
theorem portNumbers_lifted (os : Os) (started : os.Started) (H : Type) (enc : TypeId × Value → H) :
    ReturnsInHanded {} Try.checked os 3 .any (Rows.portNumbersSpec.pre6 enc Try.prog Try.f3 Rows.portNumbersRow.domain false) (Rows.portNumbersSpec.post enc Try.prog Try.f3 false true false false) := by
  refine law_lift_plain (C := Try.checked) (tb := 4) own_knob started (by kernel_rfl) Try.func3
    (ChangeSpec.witness6 (enc := enc) (C := Try.checked) false ⟨#[], #[], []⟩ 8 (by kernel_rfl) (by kernel_rfl) (by kernel_rfl) (by kernel_rfl))
    laid_out ?_ (by kernel_rfl) (by kernel_rfl) rfl ?_ ?_
  · have : (Try.f3.params.toList.all fun t => Try.prog.readableRec t && decide (t < Try.prog.types.size)) = true := by kernel_rfl
    intro t ht
    have := List.all_eq_true.1 this t ht
    rw [Bool.and_eq_true, decide_eq_true_eq] at this
    exact this
  · intro ds hl
    have hl : ds.length = 0 := hl
    match ds, hl with
    | [], _ => exact ⟨rfl, rfl, rfl⟩
  · intro W base args ds p hval hA hwt hX hsh
    exact portNumbers_rw hval hA hwt hX hsh

/-- the statement -/
theorem portNumbers_holds : Rows.PortNumbersSaid :=
  OpenClaim.holds_of_wide 3 Try.f3 rfl rfl rfl rfl rfl rfl rfl ⟨rfl, rfl, rfl, rfl, rfl⟩ rfl rfl rfl rfl rfl (by kernel_rfl) Try.func3 (by kernel_rfl)
    (of_decide_eq_true (by kernel_rfl)) (by unfold Func.isWrapper; first | (rw [if_pos (by decide +kernel)]; kernel_rfl) | (rw [if_neg (by decide +kernel)]; exact ⟨rfl, rfl⟩))
    (fun os started H enc _ => portNumbers_lifted os started H enc)

#print axioms portNumbers_holds

end Go.Proofs.Ytabihmedfopdcaa
