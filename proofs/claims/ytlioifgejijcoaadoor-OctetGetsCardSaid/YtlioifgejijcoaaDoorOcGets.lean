/-
  OctetGets: for every row of bytes, every place and every width, the law's function slipwaylaw01.OctetGets returns true and leaves all that was there as it was.
-/
import Derived.Test.YtlioifgejijcoaaDoorPf
set_option linter.unusedSimpArgs false
set_option linter.unusedVariables false
namespace Go.Proofs.YtlioifgejijcoaaDoor
open Go Go.Hw
open Go.ChangeShapes Go.WideShapes Go.ChangeAt Go.RowKit

theorem octetGets_walk {s : Sl} {l : List UInt8} {a w : Int} {h : Hp} (G : Glob h) (H : RdB h s l) (hl : l.length ≤ 140737488355328) : C4 s a w h fun v h' => v = true ∧ Ext none' h h' := by
  apply S4; unfold N4
  refine c_live G fun h1 x1 => ?_
  have H1 := H.ext x1
  refine c_lent H1 hl ?_
  intro h2 p no
  have hs : Sat ([] ++ [Hw.was h1, Hw.own 5 1 ⟨p, l.length + 2, l.length + 2⟩ (bc (l ++ [71, 72]))]) h2 := Sat.start.addNew no
  have H2 := H1.ext (hs.was 0 rfl)
  refine c_get (lent_rdb (hs.own 1 rfl)) hl ?_
  refine c_Get H2 hl ?_
  refine c_asLent hs 1 rfl H2 hl ?_
  intro h3 vs hs3
  simp only [cond_true, beq_self_eq_true]
  exact ⟨trivial, x1.trans (hs3.was 0 rfl)⟩

set_option maxRecDepth 100000 in
theorem octetGets_rw {H : Type} {enc : TypeId × Value → H} {W : World} {base : Nat} {args : Array Value} {ds : List (DataW H)} {p : List MemPlace}
    (hval : ∀ (j : Nat) t v, Tryd.f4.params[j]? = some t → args[j]? = some v → Value.okWide Tryd.prog W .any base t v)
    (hA : DataW.TrodAll enc Tryd.prog W 0 (fun _ => true) true Tryd.f4.params.toList args.toList ds p)
    (hwt : (DataW.weightsEach Tryd.prog Tryd.f4.params.toList ds).all (· ≤ reachBytes) = true)
    (hX : laidMetH Tryd.prog laidL W) (hsh : W.ShapedOpen Tryd.prog) :
    HCalls Tryd.prog 4 args (hpOf W) fun v h' => v = .bool true ∧ Ext none' (hpOf W) h' := by
  have ep : Tryd.f4.params = #[24, 3, 3] := by kernel_rfl
  rw [ep] at hA hval hwt
  obtain ⟨v0, r0, d0, s0, p0, q0, ea, rfl, rfl, h0, hA⟩ := trodAll_cons hA
  obtain ⟨v1, r1, d1, s1, p1, q1, rfl, rfl, rfl, h1, hA⟩ := trodAll_cons hA
  obtain ⟨v2, r2, d2, s2, p2, q2, rfl, rfl, rfl, h2, hA⟩ := trodAll_cons hA
  obtain ⟨rfl, rfl, rfl⟩ := trodAll_nil hA
  have ea : args = #[v0, v1, v2] := Array.toList_inj.1 ea
  subst ea
  obtain ⟨s, l, rfl, hr, hcap⟩ := bytes_open (e := 5) (by kernel_rfl) (by kernel_rfl) (by kernel_rfl) (hval 0 24 v0 rfl rfl) h0
  have hcl := cap_le (j := 0) (t := 24) (e := 5) hwt rfl rfl (by kernel_rfl) (by kernel_rfl) hcap
  obtain ⟨a, rfl, wa⟩ := int_open (k := .i64) (by kernel_rfl) (hval 1 3 v1 rfl rfl) h1
  obtain ⟨w, rfl, ww⟩ := int_open (k := .i64) (by kernel_rfl) (hval 2 3 v2 rfl rfl) h2
  have hc := octetGets_walk (s := s) (a := a) (w := w) (glob_of hX hsh) hr (by have := hr.n; have := hr.c; omega)
  refine HCalls.mono hc ?_
  intro v h' hv
  obtain ⟨x, hx, rfl, he⟩ := VT.on_some hv
  cases hx
  exact ⟨rfl, he⟩

set_option maxRecDepth 100000 in
theorem octetGets_lifted (os : Os) (started : os.Started) (H : Type) (enc : TypeId × Value → H) :
    ReturnsInHanded {} Tryd.checked os 4 .any (fun w args => (Rows.octetGetsSpec.pre enc Tryd.prog Tryd.f4 [] false w args ∧ laidMetH Tryd.prog laidL w) ∧ sizedMet enc Tryd.prog Tryd.f4 (OpenSpec.ofChange Rows.octetGetsSpec) false w args)
      (Rows.octetGetsSpec.post enc Tryd.prog Tryd.f4 false true false false) := by
  refine law_lift (C := Tryd.checked) (X := fun w => laidMetH Tryd.prog laidL w) (tb := 4) (fun _ _ hh h => h.of_heap hh) own_knob started (by kernel_rfl) Tryd.func4
    (ChangeSpec.witness_at (enc := enc) (C := Tryd.checked) (os := os) (X := fun w _ => laidMetH Tryd.prog laidL w) false (laidWorld os) #[.slice none 0 0, .int .i64 0, .int .i64 0] 8 rfl (by kernel_rfl) (by kernel_rfl) (by kernel_rfl) (by kernel_rfl) (by kernel_rfl) (laid_met os _))
    laid_out ?_ (by kernel_rfl) (by kernel_rfl) rfl ?_ ?_
  · have : (Tryd.f4.params.toList.all fun t => Tryd.prog.readableRec t && decide (t < Tryd.prog.types.size)) = true := by kernel_rfl
    intro t ht
    have := List.all_eq_true.1 this t ht
    rw [Bool.and_eq_true, decide_eq_true_eq] at this
    exact this
  · intro ds hl
    have hl : ds.length = 3 := hl
    match ds, hl with
    | [a0, a1, a2], _ => exact ⟨rfl, rfl, rfl⟩
  · intro W base args ds p hval hA hwt hX hsh
    exact octetGets_rw hval hA hwt hX hsh

theorem octetGets_row : Rows.OctetGetsSaid :=
  OpenClaim.holds_of_wide 4 Tryd.f4 rfl rfl rfl rfl rfl rfl rfl ⟨rfl, rfl, rfl, rfl, rfl⟩ rfl rfl rfl rfl rfl (by kernel_rfl) Tryd.func4 (by kernel_rfl)
    (of_decide_eq_true (by kernel_rfl)) (by unfold Func.isWrapper; first | (rw [if_pos (by decide +kernel)]; kernel_rfl) | (rw [if_neg (by decide +kernel)]; exact ⟨rfl, rfl⟩))
    (fun os started H enc _ => octetGets_lifted os started H enc)

/-- the statement -/
theorem octetGets_card : Rows.OctetGetsCardSaid :=
  Claim7.holds_tied_plain_at .later [] [.data, .data, .data, .data, .sentinel, .sentinel, .pinned] true (true, "56cb0fc03a3dfc1bfe4648d45d1533646674b9c7df771b5f79239cc7243cf7b8") true
    octetGets_row (fun _ h => by cases h) (by kernel_rfl) (fun _ h => by cases h) octetGets_row_tie rfl ⟨rfl, rfl⟩ (by kernel_rfl) rfl
    (fun f fn hf hfn => by
      obtain rfl : f = 4 := Option.some.inj ((show Tryd.prog.funcNamed "slipway/slipwaylaw01.OctetGets" = some 4 by kernel_rfl).symm.trans hf) |>.symm
      obtain rfl : fn = Tryd.f4 := (Option.some.inj (Tryd.func4.symm.trans hfn)).symm
      have hall : (Tryd.f4.params.toList.all fun t => !(Tryd.prog.wantsStandIn t)) = true := by kernel_rfl
      refine ⟨by kernel_rfl, fun j t ht => ?_⟩
      have := List.all_eq_true.1 hall t (by rw [← Array.getElem?_toList] at ht; exact List.mem_of_getElem? ht)
      rw [Bool.not_eq_true'] at this
      exact this)
    (by kernel_rfl)
#print axioms octetGets_card

end Go.Proofs.YtlioifgejijcoaaDoor
