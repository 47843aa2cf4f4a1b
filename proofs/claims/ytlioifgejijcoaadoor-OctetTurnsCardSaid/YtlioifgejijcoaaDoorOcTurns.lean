/-
  OctetTurns: for every three words, the law's function slipwaylaw01.OctetTurns returns true and leaves all that was there as it was.
-/
import Derived.Test.YtlioifgejijcoaaDoorPf
set_option linter.unusedSimpArgs false
set_option linter.unusedVariables false
namespace Go.Proofs.YtlioifgejijcoaaDoor
open Go Go.Hw
open Go.ChangeShapes Go.WideShapes Go.ChangeAt Go.RowKit

theorem octetTurns_walk {a b c : Int} {h : Hp} (G : Glob h) (a0 : 0 ≤ a) (a1 : a < 65536) (b0 : 0 ≤ b) (b1 : b < 65536) (c0 : 0 ≤ c) (c1 : c < 65536) :
    C13 a b c h fun v h' => v = true ∧ Ext none' h h' := by
  apply S13; unfold N13
  refine c_live G fun h1 e1 => ?_
  show C43 _ _ _ _ _
  refine c_turn a0 a1 b0 b1 c0 c1 ?_
  refine c_Turn a0 a1 b0 b1 c0 c1 ?_
  exact ⟨by simp, e1⟩

set_option maxRecDepth 100000 in
theorem octetTurns_open {H : Type} {enc : TypeId × Value → H} {W : World} {base : Nat} {args : Array Value} {ds : List (DataW H)} {p : List MemPlace}
    (hval : ∀ (j : Nat) t v, Tryd.f13.params[j]? = some t → args[j]? = some v → Value.okWide Tryd.prog W .any base t v)
    (hA : DataW.TrodAll enc Tryd.prog W 0 (fun _ => true) true Tryd.f13.params.toList args.toList ds p) :
    ∃ a b c : Int, args = #[.int .u16 a, .int .u16 b, .int .u16 c] ∧ 0 ≤ a ∧ a < 65536 ∧ 0 ≤ b ∧ b < 65536 ∧ 0 ≤ c ∧ c < 65536 := by
  have ep : Tryd.f13.params = #[42, 42, 42] := by kernel_rfl
  have eu : Tryd.prog.underlying 42 = some (.int .u16) := by kernel_rfl
  rw [ep] at hA hval
  obtain ⟨v0, r0, d0, s0, p0, q0, ea, rfl, rfl, h0, hA⟩ := trodAll_cons hA
  obtain ⟨v1, r1, d1, s1, p1, q1, rfl, rfl, rfl, h1, hA⟩ := trodAll_cons hA
  obtain ⟨v2, r2, d2, s2, p2, q2, rfl, rfl, rfl, h2, hA⟩ := trodAll_cons hA
  obtain ⟨rfl, rfl, rfl⟩ := trodAll_nil hA
  have ea : args = #[v0, v1, v2] := Array.toList_inj.1 ea
  subst ea
  obtain ⟨a, rfl, -, -, wa⟩ := open_int eu (hval 0 42 v0 rfl rfl) h0
  obtain ⟨b, rfl, -, -, wb⟩ := open_int eu (hval 1 42 v1 rfl rfl) h1
  obtain ⟨c, rfl, -, -, wc⟩ := open_int eu (hval 2 42 v2 rfl rfl) h2
  simp [Lit.wf, IntKind.min, IntKind.max, IntKind.signed, IntKind.bits] at wa wb wc
  exact ⟨a, b, c, rfl, by omega, by omega, by omega, by omega, by omega, by omega⟩

set_option maxRecDepth 100000 in
theorem octetTurns_rw {H : Type} {enc : TypeId × Value → H} {W : World} {base : Nat} {args : Array Value} {ds : List (DataW H)} {p : List MemPlace}
    (hval : ∀ (j : Nat) t v, Tryd.f13.params[j]? = some t → args[j]? = some v → Value.okWide Tryd.prog W .any base t v)
    (hA : DataW.TrodAll enc Tryd.prog W 0 (fun _ => true) true Tryd.f13.params.toList args.toList ds p)
    (hwt : (DataW.weightsEach Tryd.prog Tryd.f13.params.toList ds).all (· ≤ reachBytes) = true)
    (hX : laidMetH Tryd.prog laidL W) (hsh : W.ShapedOpen Tryd.prog) :
    HCalls Tryd.prog 13 args (hpOf W) fun v h' => v = .bool true ∧ Ext none' (hpOf W) h' := by
  obtain ⟨a, b, c, rfl, a0, a1, b0, b1, c0, c1⟩ := octetTurns_open hval hA
  have hc := octetTurns_walk (glob_of hX hsh) a0 a1 b0 b1 c0 c1
  refine HCalls.mono hc ?_
  intro v h' hv
  obtain ⟨x, hx, rfl, he⟩ := VT.on_some hv
  cases hx
  exact ⟨rfl, he⟩

set_option maxRecDepth 100000 in
theorem octetTurns_lifted (os : Os) (started : os.Started) (H : Type) (enc : TypeId × Value → H) :
    ReturnsInHanded {} Tryd.checked os 13 .any (fun w args => (Rows.octetTurnsSpec.pre enc Tryd.prog Tryd.f13 [] false w args ∧ laidMetH Tryd.prog laidL w) ∧ sizedMet enc Tryd.prog Tryd.f13 (OpenSpec.ofChange Rows.octetTurnsSpec) false w args)
      (Rows.octetTurnsSpec.post enc Tryd.prog Tryd.f13 false true false false) := by
  refine law_lift (C := Tryd.checked) (X := fun w => laidMetH Tryd.prog laidL w) (tb := 4) (fun _ _ hh h => h.of_heap hh) own_knob started (by kernel_rfl) Tryd.func13
    (ChangeSpec.witness_at (enc := enc) (C := Tryd.checked) (os := os) (X := fun w _ => laidMetH Tryd.prog laidL w) false (laidWorld os) #[.int .u16 0, .int .u16 0, .int .u16 0] 8 rfl (by kernel_rfl) (by kernel_rfl) (by kernel_rfl) (by kernel_rfl) (by kernel_rfl) (laid_met os _))
    laid_out ?_ (by kernel_rfl) (by kernel_rfl) rfl ?_ ?_
  · have : (Tryd.f13.params.toList.all fun t => Tryd.prog.readableRec t && decide (t < Tryd.prog.types.size)) = true := by kernel_rfl
    intro t ht
    have := List.all_eq_true.1 this t ht
    rw [Bool.and_eq_true, decide_eq_true_eq] at this
    exact this
  · intro ds hl
    have hl : ds.length = 3 := hl
    match ds, hl with
    | [a0, a1, a2], _ => exact ⟨rfl, rfl, rfl⟩
  · intro W base args ds p hval hA hwt hX hsh
    exact octetTurns_rw hval hA hwt hX hsh

theorem octetTurns_row : Rows.OctetTurnsSaid :=
  OpenClaim.holds_of_wide 13 Tryd.f13 rfl rfl rfl rfl rfl rfl rfl ⟨rfl, rfl, rfl, rfl, rfl⟩ rfl rfl rfl rfl rfl (by kernel_rfl) Tryd.func13 (by kernel_rfl)
    (of_decide_eq_true (by kernel_rfl)) (by unfold Func.isWrapper; first | (rw [if_pos (by decide +kernel)]; kernel_rfl) | (rw [if_neg (by decide +kernel)]; exact ⟨rfl, rfl⟩))
    (fun os started H enc _ => octetTurns_lifted os started H enc)

/-- the statement -/
theorem octetTurns_card : Rows.OctetTurnsCardSaid :=
  Claim7.holds_tied_plain_at .later [] [.data, .data, .data, .data, .sentinel, .sentinel, .pinned] true (true, "56cb0fc03a3dfc1bfe4648d45d1533646674b9c7df771b5f79239cc7243cf7b8") true
    octetTurns_row (fun _ h => by cases h) (by kernel_rfl) (fun _ h => by cases h) octetTurns_row_tie rfl ⟨rfl, rfl⟩ (by kernel_rfl) rfl
    (fun f fn hf hfn => by
      obtain rfl : f = 13 := Option.some.inj ((show Tryd.prog.funcNamed "slipway/slipwaylaw01.OctetTurns" = some 13 by kernel_rfl).symm.trans hf) |>.symm
      obtain rfl : fn = Tryd.f13 := (Option.some.inj (Tryd.func13.symm.trans hfn)).symm
      have hall : (Tryd.f13.params.toList.all fun t => !(Tryd.prog.wantsStandIn t)) = true := by kernel_rfl
      refine ⟨by kernel_rfl, fun j t ht => ?_⟩
      have := List.all_eq_true.1 hall t (by rw [← Array.getElem?_toList] at ht; exact List.mem_of_getElem? ht)
      rw [Bool.not_eq_true'] at this
      exact this)
    (by kernel_rfl)
#print axioms octetTurns_card

end Go.Proofs.YtlioifgejijcoaaDoor
