/-
  WheelOnce: for every list of calls, the law's function slipwaylaw07.WheelOnce returns true and leaves all that was there as it was. No condition.
-/
import Derived.Test.YtfnlldbaplakoaaWhd
set_option linter.unusedVariables false
namespace Go.Proofs.Ytfnlldbaplakoaa
open Go Go.Hw
open Go.ChangeShapes Go.WideShapes Go.ChangeAt Go.RowKit

theorem wheelOnce_walk {s0 : Sl} {script : List (Int × Int × Int)} (w : World) (h0 : Trips (hpOf w) s0 script) (hl0 : script.length ≤ 6000000000000) :
    Calls Try.prog 5 #[s0.v] w fun e w' => e = .returned (.bool true) ∧ Kp w w' ∧ Ext none' (hpOf w) (hpOf w') := by
  have hc : C5 s0 (hpOf w) fun b h' => b = true ∧ Ext none' (hpOf w) h' := c5' h0 hl0 fun h' he => ⟨rfl, he⟩
  refine (hc w rfl).mono ?_
  rintro e w' ⟨v, rfl, hv, hp⟩
  obtain ⟨b, hb, rfl, he⟩ := VT.on_some hv
  cases hb
  exact ⟨rfl, hp, he⟩

set_option maxRecDepth 100000 in
theorem wheelOnce_lifted (os : Os) (started : os.Started) (H : Type) (enc : TypeId × Value → H) :
    ReturnsInHanded {} Try.checked os 5 .any (Rows.wheelOnceSpec.pre6 enc Try.prog Try.f5 Rows.wheelOnceRow.domain false) (Rows.wheelOnceSpec.post enc Try.prog Try.f5 false true false false) := by
  refine returnsInHanded_of_change_sized (C := Try.checked) own_knob started (by kernel_rfl) Try.func5
    (ChangeSpec.witness6 (enc := enc) (C := Try.checked) false ⟨#[], #[.slice none 0 0], []⟩ 8 (by kernel_rfl) (by kernel_rfl) (by kernel_rfl) (by kernel_rfl)) ?_
  intro W base args ds gs before hval0 hW hcnd hsz _
  have hval : ∀ (j : Nat) t v, Try.f5.params[j]? = some t → args[j]? = some v → Value.okWide Try.prog W .any base t v := hval0
  have hW' := hW
  obtain ⟨p, q, hA0, hV, rfl, hfz, hnd⟩ := hW
  have hA : DataW.TrodAll enc Try.prog W 0 (fun _ => true) true Try.f5.params.toList args.toList ds p := hA0
  obtain ⟨rfl, rfl⟩ := trodVars_none hV
  rw [Try.params5] at hA hval
  obtain ⟨v0, d0, rfl, rfl, h0⟩ := trodAll_one hA
  obtain ⟨s0, css0, rfl, hle0, hs0, hr0, hc0⟩ := rows_open u23 (hval 0 23 v0 rfl rfl) h0
  rw [c34cells] at hr0
  obtain ⟨script, ha⟩ := trips_of hr0 (fun cs hcs => let ⟨n, y, h⟩ := hc0 cs hcs; ops_int h)
  have hsz' : (DataW.weightsEach Try.prog ([23] ++ Rows.wheelOnceSpec.plain.varTypes Try.prog) ([d0] ++ [])).all (· ≤ reachBytes) = true := hsz
  have l0 : script.length ≤ 6000000000000 := by
    rw [← ha.1]
    rcases hs0 with e | ⟨el, spr, rfl, e⟩
    · omega
    · have := sized_slice hsz' (j := 0) rfl rfl u23
      rw [b34] at this
      unfold reachBytes at this
      omega
  refine (wheelOnce_walk W ha l0).mono fun e W' ⟨he, hk, hx⟩ => ?_
  subst he
  exact ⟨_, rfl, law_post (tb := 4) laid_out (by rw [Try.params5]; decide +kernel) rfl Try.underlying4 hW' rfl rfl rfl rfl hk hx⟩

/-- the statement -/
theorem wheelOnce_holds : Rows.WheelOnceSaid :=
  OpenClaim.holds_of_wide 5 Try.f5 rfl rfl rfl rfl rfl rfl rfl ⟨rfl, rfl, rfl, rfl, rfl⟩ rfl rfl rfl rfl rfl (by kernel_rfl) Try.func5 (by kernel_rfl)
    (of_decide_eq_true (by kernel_rfl)) (by unfold Func.isWrapper; first | (rw [if_pos (by decide +kernel)]; kernel_rfl) | (rw [if_neg (by decide +kernel)]; exact ⟨rfl, rfl⟩))
    (fun os started H enc _ => wheelOnce_lifted os started H enc)
#print axioms wheelOnce_holds
end Go.Proofs.Ytfnlldbaplakoaa
