/-
  NeighWaits: for any station, any number of entries and any list of calls of bulk at most 1048576, the law's function slipwaylaw11.NeighWaits returns true and leaves all that was there as it was. Condition: the bound of the second form.
-/
import Derived.Test.YtkfccpabigikkaaPg
import Derived.Test.YtkfccpabigikkaaPh
import Derived.Test.YtkfccpabigikkaaPf
set_option linter.unusedVariables false
namespace Go.Proofs.Ytkfccpabigikkaa
open Go Go.Hw
open Go.ChangeShapes Go.WideShapes Go.ChangeAt Go.RowKit

set_option maxRecDepth 100000 in
theorem neighWaits_rw {H : Type} {enc : TypeId × Value → H} {W : World} {base : Nat} {args : Array Value} {ds : List (DataW H)} {p : List MemPlace}
    (hval : ∀ (j : Nat) t v, Try.f5.params[j]? = some t → args[j]? = some v → Value.okWide Try.prog W .any base t v)
    (hA : DataW.TrodAll enc Try.prog W 0 (fun _ => true) true Try.f5.params.toList args.toList ds p)
    (hwt : (DataW.weightsEach Try.prog Try.f5.params.toList ds).all (· ≤ reachBytes) = true)
    (hk : Rows.uptoSmall H ds = true)
    (hX : laidMetH Try.prog laidL W) (hsh : W.ShapedOpen Try.prog) :
    HCalls Try.prog 5 args (hpOf W) fun v h' => v = .bool true ∧ Ext none' (hpOf W) h' := by
  have ep : Try.f5.params = #[24, 3, 25] := by kernel_rfl
  rw [ep] at hA hval hwt
  obtain ⟨v0, r0, d0, s0, p0, q0, ea, rfl, rfl, h0, hA⟩ := trodAll_cons hA
  obtain ⟨v1, r1, d1, s1, p1, q1, rfl, rfl, rfl, h1, hA⟩ := trodAll_cons hA
  obtain ⟨v2, r2, d2, s2, p2, q2, rfl, rfl, rfl, h2, hA⟩ := trodAll_cons hA
  obtain ⟨rfl, rfl, rfl⟩ := trodAll_nil hA
  have ea : args = #[v0, v1, v2] := Array.toList_inj.1 ea
  subst ea
  have k2 := bulk_all hk (d := d2) (by simp)
  obtain ⟨m, hm, rfl⟩ := mac_open (hval 0 24 v0 rfl rfl) h0
  obtain ⟨n1, rfl, _⟩ := int_open (k := .i64) (by kernel_rfl) (hval 1 3 v1 rfl rfl) h1
  obtain ⟨so, ops, rfl, R, hol, hop⟩ := ops_open k2 (hval 2 25 v2 rfl rfl) h2
  have hc : C5 m.a m.b m.c m.d m.e m.f n1 so (hpOf W) fun b h' => b = true ∧ Ext none' (hpOf W) h' := c_waits hm R hol hop fun h' he => ⟨rfl, he⟩
  refine HCalls.mono hc ?_
  intro v h' hv
  obtain ⟨x, hx, rfl, he⟩ := VT.on_some hv
  cases hx
  exact ⟨rfl, he⟩

set_option maxRecDepth 100000 in
theorem neighWaits_reads (os : Os) {H : Type} (enc : TypeId × Value → H) : ∃ places, DataW.whole enc Try.prog ((laidWorld os).forCall (fun _ _ => 0) ⟨#[], #[.agg #[.int .u8 0, .int .u8 0, .int .u8 0, .int .u8 0, .int .u8 0, .int .u8 0], .int .i64 0, .slice none 0 0], []⟩).memory Try.f5.params.toList Rows.neighWaitsSpec.vars false (#[.agg #[.int .u8 0, .int .u8 0, .int .u8 0, .int .u8 0, .int .u8 0, .int .u8 0], .int .i64 0, .slice none 0 0] : Array Value).toList 8 = some ([.agg [.lit (.int .u8 0), .lit (.int .u8 0), .lit (.int .u8 0), .lit (.int .u8 0), .lit (.int .u8 0), .lit (.int .u8 0)], .lit (.int .i64 0), .nil], [], places) := ⟨[], by kernel_rfl⟩
set_option maxRecDepth 100000 in
theorem neighWaits_lifted (os : Os) (started : os.Started) (H : Type) (enc : TypeId × Value → H) (F : Stop.Interp) :
    ReturnsInHanded {} Try.checked os 5 .any ((Rows.OpenSpec.upto Rows.neighWaitsSpec).preRow enc Try.prog Try.f5 [] false laidL) (((Rows.OpenSpec.upto Rows.neighWaitsSpec).at F).post enc Try.prog Try.f5 false true false false) := by
  obtain ⟨places, hx⟩ := neighWaits_reads os enc
  refine law_lift_row (C := Try.checked) (s := Rows.neighWaitsSpec) (s' := Rows.OpenSpec.upto Rows.neighWaitsSpec) (tb := 4) own_knob started (by kernel_rfl) Try.func5
    (witness_row_at (enc := enc) (C := Try.checked) false (laidWorld os) #[.agg #[.int .u8 0, .int .u8 0, .int .u8 0, .int .u8 0, .int .u8 0, .int .u8 0], .int .i64 0, .slice none 0 0] rfl (by kernel_rfl) (by kernel_rfl) (by kernel_rfl)
      (OpenSpec.preRow_of_cond 8 hx (by kernel_rfl) (fun k hk => by cases hk; kernel_rfl) (by kernel_rfl) (laid_met os _)))
    laid_out ?_ (by kernel_rfl) (by kernel_rfl) rfl rfl rfl (by kernel_rfl) ?_ ?_
  · have : (Try.f5.params.toList.all fun t => Try.prog.readableRec t && decide (t < Try.prog.types.size)) = true := by kernel_rfl
    intro t ht
    have := List.all_eq_true.1 this t ht
    rw [Bool.and_eq_true, decide_eq_true_eq] at this
    exact this
  · intro ds hl
    have hl : ds.length = 3 := hl
    match ds, hl with
    | [a0, a1, a2], _ => exact ⟨rfl, rfl, rfl⟩
  · intro W base args ds p hval hA hwt hk hX hsh
    exact neighWaits_rw hval hA hwt (hk _ rfl) hX hsh

/-- the statement -/
theorem neighWaits_holds : Rows.NeighWaitsUptoSaid :=
  OpenClaim.holds_of_cond 5 Try.f5 rfl rfl rfl rfl rfl rfl rfl ⟨rfl, rfl, rfl, rfl, rfl⟩ rfl rfl rfl rfl rfl (by kernel_rfl) Try.func5 (by kernel_rfl)
    (of_decide_eq_true (by kernel_rfl)) (by unfold Func.isWrapper; first | (rw [if_pos (by decide +kernel)]; kernel_rfl) | (rw [if_neg (by decide +kernel)]; exact ⟨rfl, rfl⟩))
    (fun os started H enc _ F => by rw [OpenClaim.pre_eq_preRow]; exact neighWaits_lifted os started H enc F)

#print axioms neighWaits_holds

end Go.Proofs.Ytkfccpabigikkaa
