/-
  WheelPlays: for every list of calls of bulk at most 1048576, the law's function slipwaylaw07.WheelPlays returns true and leaves all that was there as it was. Condition: the bound of the second form.
-/
import Derived.Test.YtfnlldbaplakoaaPc
import Derived.Test.YtfnlldbaplakoaaPe
set_option linter.unusedVariables false
namespace Go.Proofs.Ytfnlldbaplakoaa
open Go Go.Hw
open Go.ChangeShapes Go.WideShapes Go.ChangeAt Go.RowKit

theorem u23 : Try.prog.underlying 23 = some (.slice 34) := by kernel_rfl
theorem c34cells : Try.prog.cellsOf 34 = 3 := by kernel_rfl
theorem c3cells : Try.prog.cellsOf 3 = 1 := by kernel_rfl
theorem ops_int {H : Type} {enc : TypeId × Value → H} {W : World} {sp : Nat → Bool} {held : Bool} {n : Nat} {cs : List Value} {y : DataW H × List MemPlace} (h : DataW.trod enc Try.prog W 0 sp held n 34 cs = some y) :
    ∃ a b c, cs = [.int .i64 a, .int .i64 b, .int .i64 c] := by
  have hu : ∃ f0 f1 f2, Try.prog.underlying 34 = some (.struct #[f0, f1, f2]) ∧ (f0.type = 3 ∧ f0.offset = 0) ∧ (f1.type = 3 ∧ f1.offset = 1) ∧ (f2.type = 3 ∧ f2.offset = 2) := ⟨⟨"Kind", 3, 0, false, "", "", 0⟩, ⟨"A", 3, 1, false, "", "", 8⟩, ⟨"Tag", 3, 2, false, "", "", 16⟩, by kernel_rfl, ⟨rfl, rfl⟩, ⟨rfl, rfl⟩, ⟨rfl, rfl⟩⟩
  obtain ⟨f0, f1, f2, hu, ⟨a0, a1⟩, ⟨b0, b1⟩, ⟨g0, g1⟩⟩ := hu
  exact three_ints (k := .i64) hu c34cells ⟨by rw [a0]; exact u3, a1, by rw [a0]; exact c3cells⟩ ⟨by rw [b0]; exact u3, b1, by rw [b0]; exact c3cells⟩ ⟨by rw [g0]; exact u3, g1, by rw [g0]; exact c3cells⟩ h

set_option maxRecDepth 100000 in
theorem wheelPlays_rw {H : Type} {enc : TypeId × Value → H} {W : World} {base : Nat} {args : Array Value} {ds : List (DataW H)} {p : List MemPlace}
    (hval : ∀ (j : Nat) t v, Try.f4.params[j]? = some t → args[j]? = some v → Value.okWide Try.prog W .any base t v)
    (hA : DataW.TrodAll enc Try.prog W 0 (fun _ => true) true Try.f4.params.toList args.toList ds p)
    (hwt : (DataW.weightsEach Try.prog Try.f4.params.toList ds).all (· ≤ reachBytes) = true)
    (hk : Rows.uptoSmall H ds = true)
    (hX : laidMetH Try.prog laidL W) (hsh : W.ShapedOpen Try.prog) :
    HCalls Try.prog 4 args (hpOf W) fun v h' => v = .bool true ∧ Ext none' (hpOf W) h' := by
  have ep : Try.f4.params = #[23] := by kernel_rfl
  rw [ep] at hA hval hwt
  obtain ⟨v0, r0, d0, s0, p0, q0, ea, rfl, rfl, h0, hA⟩ := trodAll_cons hA
  obtain ⟨rfl, rfl, rfl⟩ := trodAll_nil hA
  have ea : args = #[v0] := Array.toList_inj.1 ea
  subst ea
  have hk0 := bulk_all hk (d := d0) (by simp)
  obtain ⟨s0, css0, rfl, hle0, hs0, hr0, hc0⟩ := rows_open u23 (hval 0 23 v0 rfl rfl) h0
  rw [c34cells] at hr0
  obtain ⟨script, ha⟩ := trips_of hr0 (fun cs hcs => let ⟨n, y, h⟩ := hc0 cs hcs; ops_int h)
  have l0 : script.length ≤ 1048576 := by
    rw [← ha.1]
    rcases hs0 with e | ⟨el, spr, rfl, e⟩
    · omega
    · have h1 := bulk_len el
      have h2 := bulk_len spr
      have hk0 : Rows.uptoBulkAll el + Rows.uptoBulkAll spr + 1 ≤ 1048576 := hk0
      omega
  have hc : C4 s0 (hpOf W) fun b h' => b = true ∧ Ext none' (hpOf W) h' := c4' ha (by omega) fun h' he => ⟨rfl, he⟩
  refine HCalls.mono hc ?_
  intro v h' hv
  obtain ⟨x, hx, rfl, he⟩ := VT.on_some hv
  cases hx
  exact ⟨rfl, he⟩

set_option maxRecDepth 100000 in
theorem wheelPlays_reads (os : Os) {H : Type} (enc : TypeId × Value → H) : ∃ places, DataW.whole enc Try.prog ((laidWorld os).forCall (fun _ _ => 0) ⟨#[], #[.slice none 0 0], []⟩).memory Try.f4.params.toList Rows.wheelPlaysSpec.vars false (#[.slice none 0 0] : Array Value).toList 8 = some ([.nil], [], places) := ⟨[], by kernel_rfl⟩
set_option maxRecDepth 100000 in
theorem wheelPlays_lifted (os : Os) (started : os.Started) (H : Type) (enc : TypeId × Value → H) (F : Stop.Interp) :
    ReturnsInHanded {} Try.checked os 4 .any ((Rows.OpenSpec.upto Rows.wheelPlaysSpec).preRow enc Try.prog Try.f4 [] false laidL) (((Rows.OpenSpec.upto Rows.wheelPlaysSpec).at F).post enc Try.prog Try.f4 false true false false) := by
  obtain ⟨places, hx⟩ := wheelPlays_reads os enc
  refine law_lift_row (C := Try.checked) (s := Rows.wheelPlaysSpec) (s' := Rows.OpenSpec.upto Rows.wheelPlaysSpec) (tb := 4) own_knob started (by kernel_rfl) Try.func4
    (witness_row_at (enc := enc) (C := Try.checked) false (laidWorld os) #[.slice none 0 0] rfl (by kernel_rfl) (by kernel_rfl) (by kernel_rfl)
      (OpenSpec.preRow_of_cond 8 hx (by kernel_rfl) (fun k hk => by cases hk; kernel_rfl) (by kernel_rfl) (laid_met os _)))
    laid_out ?_ (by kernel_rfl) (by kernel_rfl) rfl rfl rfl (by kernel_rfl) ?_ ?_
  · have : (Try.f4.params.toList.all fun t => Try.prog.readableRec t && decide (t < Try.prog.types.size)) = true := by kernel_rfl
    intro t ht
    have := List.all_eq_true.1 this t ht
    rw [Bool.and_eq_true, decide_eq_true_eq] at this
    exact this
  · intro ds hl
    have hl : ds.length = 1 := hl
    match ds, hl with
    | [a0], _ => exact ⟨rfl, rfl, rfl⟩
  · intro W base args ds p hval hA hwt hk hX hsh
    exact wheelPlays_rw hval hA hwt (hk _ rfl) hX hsh

/-- the statement -/
theorem wheelPlays_holds : Rows.WheelPlaysUptoSaid :=
  OpenClaim.holds_of_cond 4 Try.f4 rfl rfl rfl rfl rfl rfl rfl ⟨rfl, rfl, rfl, rfl, rfl⟩ rfl rfl rfl rfl rfl (by kernel_rfl) Try.func4 (by kernel_rfl)
    (of_decide_eq_true (by kernel_rfl)) (by unfold Func.isWrapper; first | (rw [if_pos (by decide +kernel)]; kernel_rfl) | (rw [if_neg (by decide +kernel)]; exact ⟨rfl, rfl⟩))
    (fun os started H enc _ F => by rw [OpenClaim.pre_eq_preRow]; exact wheelPlays_lifted os started H enc F)

#print axioms wheelPlays_holds

end Go.Proofs.Ytfnlldbaplakoaa
