/-
  PortMakes: for any two numbers, the law's function slipwaylaw13.PortMakes returns true and leaves all that was there as it was. No condition.
-/
import Derived.Test.YtabihmedfopdcaaPc
import Derived.Test.YtabihmedfopdcaaPe
set_option linter.unusedVariables false
namespace Go.Proofs.Ytabihmedfopdcaa
open Go Go.Hw
open Go.ChangeShapes Go.WideShapes Go.ChangeAt Go.RowKit

theorem c_portMakes {most depth : Int} {h : Hp} {K : Bool → Hp → Prop} (hK : ∀ h', Ext none' h h' → K true h') : C4 most depth h K := by
  apply S4; unfold N4
  refine p_live (L := []) (M := [Hw.was h]) Sat.start ?_
  intro h1 hs1
  have fin : ∀ (p0 : Option Addr) (may : Bool) (h2 : Hp), (p0 = none ∧ may = false ∧ Sat ([] ++ [Hw.was h]) h2 ∨ ∃ b, p0 = some (bk b) ∧ may = true ∧ Ok 0 ⟨most, depth, []⟩ ∧ Sat ([] ++ [Hw.was h, portsA b ⟨most, depth, []⟩]) h2) → N4_j0 true p0 may h2 fun b1 h2 => K b1 h2 := by
    intro p0 may h2 hc
    unfold N4_j0
    rcases hc with ⟨rfl, rfl, hs⟩ | ⟨b, rfl, rfl, ok, hs⟩
    · simp only [peq_none, Option.isNone_none, cond_true, Bool.not_false]
      exact hK h2 (hs.was 0 rfl)
    · simp only [peq_none, Option.isNone_some, cond_false, cond_true]
      refine p_look (Sat.csa (A := [Hw.was h]) hs) ok ?_
      intro s h3 hs3
      have hs3 : Sat ([] ++ [Hw.was h, portsA b ⟨most, depth, []⟩, Hw.own 72 3 s (sts [])]) h3 := Sat.asc hs3
      have sn : s.n = 0 := by have h1 : 0 = s.n * 3 := (hs3.own 2 rfl).1; omega
      rw [sn]
      exact hK h3 (hs3.was 0 rfl)
  refine p_new hs1 ?_ ?_
  · intro hn
    by_cases e1 : most ≥ 1
    · by_cases e2 : most ≤ 16
      · by_cases e3 : depth ≥ 1
        · simp only [e1, e2, e3, decide_true, cond_true]
          have : decide (depth ≤ 32) = false := by simp; omega
          exact fin none _ _ (.inl ⟨rfl, this, hs1⟩)
        · simp only [e1, e2, e3, decide_true, decide_false, cond_true, cond_false]
          exact fin none _ _ (.inl ⟨rfl, rfl, hs1⟩)
      · simp only [e1, e2, decide_true, decide_false, cond_true, cond_false]
        exact fin none _ _ (.inl ⟨rfl, rfl, hs1⟩)
    · simp only [e1, decide_false, cond_false]
      exact fin none _ _ (.inl ⟨rfl, rfl, hs1⟩)
  · intro hy b h2 hs2
    have e1 : most ≥ 1 := hy.1.1
    have e2 : most ≤ 16 := hy.1.2
    have e3 : depth ≥ 1 := hy.2.1
    have e4 : depth ≤ 32 := hy.2.2
    simp only [e1, e2, e3, e4, decide_true, cond_true]
    exact fin _ _ _ (.inr ⟨b, rfl, rfl, Ok0 hy, hs2⟩)

set_option maxRecDepth 100000 in
theorem portMakes_rw {H : Type} {enc : TypeId × Value → H} {W : World} {base : Nat} {args : Array Value} {ds : List (DataW H)} {p : List MemPlace}
    (hval : ∀ (j : Nat) t v, Try.f4.params[j]? = some t → args[j]? = some v → Value.okWide Try.prog W .any base t v)
    (hA : DataW.TrodAll enc Try.prog W 0 (fun _ => true) true Try.f4.params.toList args.toList ds p)
    (hwt : (DataW.weightsEach Try.prog Try.f4.params.toList ds).all (· ≤ reachBytes) = true)
    (hX : True) (hsh : W.ShapedOpen Try.prog) :
    HCalls Try.prog 4 args (hpOf W) fun v h' => v = .bool true ∧ Ext none' (hpOf W) h' := by
  have ep : Try.f4.params = #[3, 3] := by kernel_rfl
  rw [ep] at hA hval hwt
  obtain ⟨v0, r0, d0, s0, p0, q0, ea, rfl, rfl, h0, hA⟩ := trodAll_cons hA
  obtain ⟨v1, r1, d1, s1, p1, q1, rfl, rfl, rfl, h1, hA⟩ := trodAll_cons hA
  obtain ⟨rfl, rfl, rfl⟩ := trodAll_nil hA
  have ea : args = #[v0, v1] := Array.toList_inj.1 ea
  subst ea
  obtain ⟨n0, rfl, w0⟩ := int_open (k := .i64) (by kernel_rfl) (hval 0 3 v0 rfl rfl) h0
  obtain ⟨n1, rfl, w1⟩ := int_open (k := .i64) (by kernel_rfl) (hval 1 3 v1 rfl rfl) h1
  have hc : C4 n0 n1 (hpOf W) fun b h' => b = true ∧ Ext none' (hpOf W) h' := c_portMakes fun h' he => ⟨rfl, he⟩
  refine HCalls.mono hc ?_
  intro v h' hv
  obtain ⟨x, hx, rfl, he⟩ := VT.on_some hv
  cases hx
  exact ⟨rfl, he⟩

set_option maxRecDepth 100000 in
theorem portMakes_lifted (os : Os) (started : os.Started) (H : Type) (enc : TypeId × Value → H) :
    ReturnsInHanded {} Try.checked os 4 .any (Rows.portMakesSpec.pre6 enc Try.prog Try.f4 Rows.portMakesRow.domain false) (Rows.portMakesSpec.post enc Try.prog Try.f4 false true false false) := by
  refine law_lift_plain (C := Try.checked) (tb := 4) own_knob started (by kernel_rfl) Try.func4
    (ChangeSpec.witness6 (enc := enc) (C := Try.checked) false ⟨#[], #[.int .i64 0, .int .i64 0], []⟩ 8 (by kernel_rfl) (by kernel_rfl) (by kernel_rfl) (by kernel_rfl))
    laid_out ?_ (by kernel_rfl) (by kernel_rfl) rfl ?_ ?_
  · have : (Try.f4.params.toList.all fun t => Try.prog.readableRec t && decide (t < Try.prog.types.size)) = true := by kernel_rfl
    intro t ht
    have := List.all_eq_true.1 this t ht
    rw [Bool.and_eq_true, decide_eq_true_eq] at this
    exact this
  · intro ds hl
    have hl : ds.length = 2 := hl
    match ds, hl with
    | [a0, a1], _ => exact ⟨rfl, rfl, rfl⟩
  · intro W base args ds p hval hA hwt hX hsh
    exact portMakes_rw hval hA hwt hX hsh

/-- the statement -/
theorem portMakes_holds : Rows.PortMakesSaid :=
  OpenClaim.holds_of_wide 4 Try.f4 rfl rfl rfl rfl rfl rfl rfl ⟨rfl, rfl, rfl, rfl, rfl⟩ rfl rfl rfl rfl rfl (by kernel_rfl) Try.func4 (by kernel_rfl)
    (of_decide_eq_true (by kernel_rfl)) (by unfold Func.isWrapper; first | (rw [if_pos (by decide +kernel)]; kernel_rfl) | (rw [if_neg (by decide +kernel)]; exact ⟨rfl, rfl⟩))
    (fun os started H enc _ => portMakes_lifted os started H enc)

#print axioms portMakes_holds

end Go.Proofs.Ytabihmedfopdcaa
