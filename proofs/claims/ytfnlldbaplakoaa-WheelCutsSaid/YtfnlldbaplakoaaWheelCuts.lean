/-
  WheelCuts: for every list of calls, every list of stops and every time, the law's function slipwaylaw07.WheelCuts returns true and leaves all that was there as it was. No condition.
-/
import Derived.Test.YtfnlldbaplakoaaWhc
import Derived.Test.YtfnlldbaplakoaaWhd
import Derived.SizedLaws
set_option linter.unusedVariables false
namespace Go.Proofs.Ytfnlldbaplakoaa
open Go Go.Hw
open Go.ChangeShapes Go.WideShapes Go.ChangeAt Go.RowKit

theorem own_knob : ownKnob Try.prog.godebug = none := by kernel_rfl
theorem laid_out : laidOutB Try.prog = true := by kernel_rfl
theorem u23 : Try.prog.underlying 23 = some (.slice 34) := by kernel_rfl
theorem u36 : Try.prog.underlying 36 = some (.slice 3) := by kernel_rfl
theorem c34cells : Try.prog.cellsOf 34 = 3 := by kernel_rfl
theorem c3cells : Try.prog.cellsOf 3 = 1 := by kernel_rfl
theorem b34 : Try.prog.bytesOf 34 = 24 := by kernel_rfl
theorem b3 : Try.prog.bytesOf 3 = 8 := by kernel_rfl
theorem ops_int {H : Type} {enc : TypeId × Value → H} {W : World} {sp : Nat → Bool} {held : Bool} {n : Nat} {cs : List Value} {y : DataW H × List MemPlace} (h : DataW.trod enc Try.prog W 0 sp held n 34 cs = some y) :
    ∃ a b c, cs = [.int .i64 a, .int .i64 b, .int .i64 c] := by
  have hu : ∃ f0 f1 f2, Try.prog.underlying 34 = some (.struct #[f0, f1, f2]) ∧ (f0.type = 3 ∧ f0.offset = 0) ∧ (f1.type = 3 ∧ f1.offset = 1) ∧ (f2.type = 3 ∧ f2.offset = 2) := ⟨⟨"Kind", 3, 0, false, "", "", 0⟩, ⟨"A", 3, 1, false, "", "", 8⟩, ⟨"Tag", 3, 2, false, "", "", 16⟩, by kernel_rfl, ⟨rfl, rfl⟩, ⟨rfl, rfl⟩, ⟨rfl, rfl⟩⟩
  obtain ⟨f0, f1, f2, hu, ⟨a0, a1⟩, ⟨b0, b1⟩, ⟨g0, g1⟩⟩ := hu
  exact three_ints (k := .i64) hu c34cells ⟨by rw [a0]; exact u3, a1, by rw [a0]; exact c3cells⟩ ⟨by rw [b0]; exact u3, b1, by rw [b0]; exact c3cells⟩ ⟨by rw [g0]; exact u3, g1, by rw [g0]; exact c3cells⟩ h

theorem wheelCuts_walk {s0 s1 : Sl} {ahead : List (Int × Int × Int)} {stops : List Int} {to : Int} (w : World) (h0 : Trips (hpOf w) s0 ahead) (h1 : Ints (hpOf w) s1 stops) (hl0 : ahead.length < 4611686018427387904) (hl1 : stops.length < 4611686018427387904) :
    Calls Try.prog 6 #[s0.v, s1.v, .int .i64 to] w fun e w' => e = .returned (.bool true) ∧ Kp w w' ∧ Ext none' (hpOf w) (hpOf w') := by
  have hc : C6 s0 s1 to (hpOf w) fun b h' => b = true ∧ Ext none' (hpOf w) h' := c6' h0 h1 hl0 hl1 fun h' he => ⟨rfl, he⟩
  refine (hc w rfl).mono ?_
  rintro e w' ⟨v, rfl, hv, hp⟩
  obtain ⟨b, hb, rfl, he⟩ := VT.on_some hv
  cases hb
  exact ⟨rfl, hp, he⟩

set_option maxRecDepth 100000 in
theorem wheelCuts_lifted (os : Os) (started : os.Started) (H : Type) (enc : TypeId × Value → H) :
    ReturnsInHanded {} Try.checked os 6 .any (Rows.wheelCutsSpec.pre6 enc Try.prog Try.f6 Rows.wheelCutsRow.domain false) (Rows.wheelCutsSpec.post enc Try.prog Try.f6 false true false false) := by
  refine returnsInHanded_of_change_sized (C := Try.checked) own_knob started (by kernel_rfl) Try.func6
    (ChangeSpec.witness6 (enc := enc) (C := Try.checked) false ⟨#[], #[.slice none 0 0, .slice none 0 0, .int .i64 0], []⟩ 8 (by kernel_rfl) (by kernel_rfl) (by kernel_rfl) (by kernel_rfl)) ?_
  intro W base args ds gs before hval0 hW hcnd hsz _
  have hval : ∀ (j : Nat) t v, Try.f6.params[j]? = some t → args[j]? = some v → Value.okWide Try.prog W .any base t v := hval0
  have hW' := hW
  obtain ⟨p, q, hA0, hV, rfl, hfz, hnd⟩ := hW
  have hA : DataW.TrodAll enc Try.prog W 0 (fun _ => true) true Try.f6.params.toList args.toList ds p := hA0
  obtain ⟨rfl, rfl⟩ := trodVars_none hV
  rw [Try.params6] at hA hval
  obtain ⟨v0, v1, v2, d0, d1, d2, p0, p1, p2, rfl, rfl, rfl, h0, h1, h2⟩ := trodAll_three hA
  obtain ⟨s0, css0, rfl, hle0, hs0, hr0, hc0⟩ := rows_open u23 (hval 0 23 v0 rfl rfl) h0
  obtain ⟨s1, css1, rfl, hle1, hs1, hr1, hc1⟩ := rows_open u36 (hval 1 36 v1 rfl rfl) h1
  obtain ⟨to, rfl, rfl, rfl, wa⟩ := open_int u3 (hval 2 3 v2 rfl rfl) h2
  rw [c34cells] at hr0
  rw [c3cells] at hr1
  obtain ⟨ahead, ha⟩ := trips_of hr0 (fun cs hcs => let ⟨n, y, h⟩ := hc0 cs hcs; ops_int h)
  obtain ⟨stops, hst⟩ := ints_of hr1 (fun cs hcs => let ⟨n, y, h⟩ := hc1 cs hcs; one_int u3 h)
  have hsz' : (DataW.weightsEach Try.prog ([23, 36, 3] ++ Rows.wheelCutsSpec.plain.varTypes Try.prog) ([d0, d1, .lit (.int .i64 to)] ++ [])).all (· ≤ reachBytes) = true := hsz
  have l0 : ahead.length < 4611686018427387904 := by
    rw [← ha.1]
    rcases hs0 with e | ⟨el, spr, rfl, e⟩
    · omega
    · have := sized_slice hsz' (j := 0) rfl rfl u23
      rw [b34] at this
      unfold reachBytes at this
      omega
  have l1 : stops.length < 4611686018427387904 := by
    rw [← hst.1]
    rcases hs1 with e | ⟨el, spr, rfl, e⟩
    · omega
    · have := sized_slice hsz' (j := 1) rfl rfl u36
      rw [b3] at this
      unfold reachBytes at this
      omega
  refine (wheelCuts_walk W ha hst l0 l1).mono fun e W' ⟨he, hk, hx⟩ => ?_
  subst he
  exact ⟨_, rfl, law_post (tb := 4) laid_out (by rw [Try.params6]; decide +kernel) rfl Try.underlying4 hW' rfl rfl rfl rfl hk hx⟩

/-- the statement -/
theorem wheelCuts_holds : Rows.WheelCutsSaid :=
  OpenClaim.holds_of_wide 6 Try.f6 rfl rfl rfl rfl rfl rfl rfl ⟨rfl, rfl, rfl, rfl, rfl⟩ rfl rfl rfl rfl rfl (by kernel_rfl) Try.func6 (by kernel_rfl)
    (of_decide_eq_true (by kernel_rfl)) (by unfold Func.isWrapper; first | (rw [if_pos (by decide +kernel)]; kernel_rfl) | (rw [if_neg (by decide +kernel)]; exact ⟨rfl, rfl⟩))
    (fun os started H enc _ => wheelCuts_lifted os started H enc)
#print axioms wheelCuts_holds
end Go.Proofs.Ytfnlldbaplakoaa
