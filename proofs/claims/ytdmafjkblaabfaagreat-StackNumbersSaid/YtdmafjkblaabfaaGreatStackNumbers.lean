/-
  StackNumbers: for every start, the law's function slipwaylaw20.StackNumbers returns true and leaves all that was there as it was. No condition.
-/
import Derived.Test.YtdmafjkblaabfaaGreatRows
import Derived.Test.YtdmafjkblaabfaaGreatPc
import Derived.Test.YtdmafjkblaabfaaGreatPd
set_option linter.unusedVariables false
namespace Go.Proofs.YtdmafjkblaabfaaGreat
open Go Go.Hw Go.Ix
open Go.ChangeShapes Go.WideShapes Go.ChangeAt Go.RowKit

theorem own_knob : ownKnob Tryz.prog.godebug = none := by kernel_rfl
theorem follows_mixed : Tryz.prog.follows .mixedOrders = true := by kernel_rfl
set_option maxRecDepth 100000 in
theorem stackNumbers_reckoned : runC Tryz.prog 0 1000000 1000 3 [] (H0 0 0 []) (fun y _ => CV.eq y (.bool true)) = true := by kernel_rfl
theorem stackNumbers_walk (w : World) : Calls Tryz.prog 3 #[] w fun e w' => e = .returned (.bool true) ∧ w.keptBut w' (fun _ => False) := by
  have hc : HCalls Tryz.prog 3 ⟨[]⟩ (hpOf w) fun v h' => v = .bool true ∧ Ext none' (hpOf w) h' := Ix.closed follows_mixed (l := []) (bs := []) rfl stackNumbers_reckoned rfl (fun x hx => by cases hx) fun h' he => ⟨rfl, he⟩
  refine (hc w rfl).mono ?_
  rintro e w' ⟨v, rfl, ⟨rfl, he⟩, hp⟩
  exact ⟨rfl, kept_of hp he⟩

set_option maxRecDepth 100000 in
theorem stackNumbers_lifted (os : Os) (started : os.Started) (H : Type) (enc : TypeId × Value → H) :
    ReturnsInHanded {} Tryz.checked os 3 .any (Rows.stackNumbersSpec.pre6 enc Tryz.prog Tryz.f3 Rows.stackNumbersRow.domain false) (Rows.stackNumbersSpec.post enc Tryz.prog Tryz.f3 false true false false) := by
  refine returnsInHanded_of_change (C := Tryz.checked) own_knob started (by kernel_rfl) Tryz.func3
    (ChangeSpec.witness6 (enc := enc) (C := Tryz.checked) false ⟨#[], #[], []⟩ 8 (by kernel_rfl) (by kernel_rfl) (by kernel_rfl) (by kernel_rfl)) ?_
  intro W base args ds gs before hval0 hW hcnd _
  have hW' := hW
  obtain ⟨p, q, hA0, hV, rfl, hfz, hnd⟩ := hW
  have hA : DataW.TrodAll enc Tryz.prog W 0 (fun _ => true) true Tryz.f3.params.toList args.toList ds p := hA0
  rw [Tryz.params3] at hA
  obtain ⟨rfl, rfl, rfl⟩ := trodAll_none hA
  obtain ⟨rfl, rfl⟩ := trodVars_none hV
  clear hA0 hval0
  simp only [List.append_nil] at hW'
  refine (stackNumbers_walk W).mono fun e W' ⟨he, hg⟩ => ?_
  subst he
  exact ⟨_, rfl, post_of_kept (pa := []) (pv := []) hW' (fun _ _ _ => (trodAll_cons_mk (shut_bool Tryz.underlying4 _) trodAll_mk0)) (fun sp _ => rfl) (fun _ _ => rfl) rfl hg⟩

/-- the statement -/
theorem stackNumbers_holds : Rows.StackNumbersSaid :=
  OpenClaim.holds_of_wide 3 Tryz.f3 rfl rfl rfl rfl rfl rfl rfl ⟨rfl, rfl, rfl, rfl, rfl⟩ rfl rfl rfl rfl rfl (by kernel_rfl) Tryz.func3 (by kernel_rfl)
    (of_decide_eq_true (by kernel_rfl)) (by unfold Func.isWrapper; first | (rw [if_pos (by decide +kernel)]; kernel_rfl) | (rw [if_neg (by decide +kernel)]; exact ⟨rfl, rfl⟩))
    (fun os started H enc _ => stackNumbers_lifted os started H enc)
#print axioms stackNumbers_holds
end Go.Proofs.YtdmafjkblaabfaaGreat
