/-
  OctetPuts: for every number and every width, the law's function slipwaylaw01.OctetPuts returns true and leaves all that was there as it was.
-/
import Derived.Test.YtlioifgejijcoaaDoorPf
set_option linter.unusedSimpArgs false
set_option linter.unusedVariables false
namespace Go.Proofs.YtlioifgejijcoaaDoor
open Go Go.Hw
open Go.ChangeShapes Go.WideShapes Go.ChangeAt Go.RowKit

theorem octetPuts_walk {n w : Int} {h : Hp} (G : Glob h) (n0 : 0 ≤ n) (n1 : n < 18446744073709551616) : C3 n w h fun v h' => v = true ∧ Ext none' h h' := by
  apply S3; unfold N3
  refine c_live G fun h1 x1 => ?_
  refine c_put n0 n1 ?_
  intro h2 s0 no0
  refine c_put n0 n1 ?_
  intro h3 s1 no1
  refine c_Put n0 n1 ?_
  intro h4 s2 no2
  have hlen := putL_len n.toNat w
  generalize hl : putL n.toNat w = l at no0 no1 no2 hlen
  have hs : Sat ([] ++ [Hw.was h1, Hw.own 5 1 s0 (bc l), Hw.own 5 1 s1 (bc l), Hw.own 5 1 s2 (bc l)]) h4 := ((Sat.start.addNew no0).addNew no1).addNew no2
  simp only [Bool.not_true, cond_false]
  refine (hs.own 1 rfl).rdb.b2s ?_
  refine (hs.own 3 rfl).rdb.b2s ?_
  simp only [beq_self_eq_true, Bool.not_true, cond_false]
  refine (hs.own 2 rfl).rdb.b2s ?_
  refine (hs.own 3 rfl).rdb.b2s ?_
  simp only [beq_self_eq_true, Bool.not_true, cond_false]
  intro b1 e1
  have hs := book_new hs e1
  revert hs
  generalize upd h4 b1 _ = h5
  intro hs
  have hs1 : Sat ([] ++ [Hw.was h1, Hw.own 5 1 s0 (bc l), Hw.own 5 1 s1 (bc l), Hw.own 5 1 s2 (bc l), bookA b1 []]) h5 := hs
  have hs2 : Sat ([Hw.was h1, Hw.own 5 1 s1 (bc l), Hw.own 5 1 s2 (bc l)] ++ [bookA b1 [], Hw.own 5 1 s0 (bc l)]) h5 := hs1.rot 1 rfl
  refine c_take hs2 (by simp) ?_
  intro h6 hs
  have hs1 : Sat ([] ++ [Hw.was h1, Hw.own 5 1 s1 (bc l), Hw.own 5 1 s2 (bc l), bookA b1 ([] ++ [(s0, l)])]) h6 := hs
  have hs2 : Sat ([Hw.was h1, Hw.own 5 1 s2 (bc l)] ++ [bookA b1 ([] ++ [(s0, l)]), Hw.own 5 1 s1 (bc l)]) h6 := hs1.rot 1 rfl
  refine c_take hs2 (by simp) ?_
  intro h7 hs
  refine c_owned hs (by simp) ?_ ?_
  · intro e he
    simp at he
    rcases he with rfl | rfl <;> (show l.length ≤ _; omega)
  · intro h8 hs
    have hs8 : Sat ([] ++ [Hw.was h1, Hw.own 5 1 s2 (bc l)]) h8 := hs
    refine c_put n0 n1 ?_
    intro h9 s7 no7
    rw [hl] at no7
    have hs9 := hs8.addNew no7
    simp only [cond_true]
    refine (hs9.own 2 rfl).rdb.b2s ?_
    refine (hs9.own 1 rfl).rdb.b2s ?_
    exact ⟨by simp, x1.trans (hs9.was 0 rfl)⟩

set_option maxRecDepth 100000 in
theorem octetPuts_rw {H : Type} {enc : TypeId × Value → H} {W : World} {base : Nat} {args : Array Value} {ds : List (DataW H)} {p : List MemPlace}
    (hval : ∀ (j : Nat) t v, Tryd.f3.params[j]? = some t → args[j]? = some v → Value.okWide Tryd.prog W .any base t v)
    (hA : DataW.TrodAll enc Tryd.prog W 0 (fun _ => true) true Tryd.f3.params.toList args.toList ds p)
    (hwt : (DataW.weightsEach Tryd.prog Tryd.f3.params.toList ds).all (· ≤ reachBytes) = true)
    (hX : laidMetH Tryd.prog laidL W) (hsh : W.ShapedOpen Tryd.prog) :
    HCalls Tryd.prog 3 args (hpOf W) fun v h' => v = .bool true ∧ Ext none' (hpOf W) h' := by
  have ep : Tryd.f3.params = #[22, 3] := by kernel_rfl
  rw [ep] at hA hval
  obtain ⟨v0, r0, d0, s0, p0, q0, ea, rfl, rfl, h0, hA⟩ := trodAll_cons hA
  obtain ⟨v1, r1, d1, s1, p1, q1, rfl, rfl, rfl, h1, hA⟩ := trodAll_cons hA
  obtain ⟨rfl, rfl, rfl⟩ := trodAll_nil hA
  have ea : args = #[v0, v1] := Array.toList_inj.1 ea
  subst ea
  obtain ⟨n, rfl, wn⟩ := int_open (k := .u64) (by kernel_rfl) (hval 0 22 v0 rfl rfl) h0
  obtain ⟨w, rfl, ww⟩ := int_open (k := .i64) (by kernel_rfl) (hval 1 3 v1 rfl rfl) h1
  have wn := wfb wn
  have hc := octetPuts_walk (n := n) (w := w) (glob_of hX hsh) wn.1 (by have := wn.2; simp [IntKind.max, IntKind.signed, IntKind.bits] at this; omega)
  refine HCalls.mono hc ?_
  intro v h' hv
  obtain ⟨x, hx, rfl, he⟩ := VT.on_some hv
  cases hx
  exact ⟨rfl, he⟩

set_option maxRecDepth 100000 in
theorem octetPuts_lifted (os : Os) (started : os.Started) (H : Type) (enc : TypeId × Value → H) :
    ReturnsInHanded {} Tryd.checked os 3 .any (fun w args => (Rows.octetPutsSpec.pre enc Tryd.prog Tryd.f3 [] false w args ∧ laidMetH Tryd.prog laidL w) ∧ sizedMet enc Tryd.prog Tryd.f3 (OpenSpec.ofChange Rows.octetPutsSpec) false w args)
      (Rows.octetPutsSpec.post enc Tryd.prog Tryd.f3 false true false false) := by
  refine law_lift (C := Tryd.checked) (X := fun w => laidMetH Tryd.prog laidL w) (tb := 4) (fun _ _ hh h => h.of_heap hh) own_knob started (by kernel_rfl) Tryd.func3
    (ChangeSpec.witness_at (enc := enc) (C := Tryd.checked) (os := os) (X := fun w _ => laidMetH Tryd.prog laidL w) false (laidWorld os) #[.int .u64 0, .int .i64 0] 8 rfl (by kernel_rfl) (by kernel_rfl) (by kernel_rfl) (by kernel_rfl) (by kernel_rfl) (laid_met os _))
    laid_out ?_ (by kernel_rfl) (by kernel_rfl) rfl ?_ ?_
  · have : (Tryd.f3.params.toList.all fun t => Tryd.prog.readableRec t && decide (t < Tryd.prog.types.size)) = true := by kernel_rfl
    intro t ht
    have := List.all_eq_true.1 this t ht
    rw [Bool.and_eq_true, decide_eq_true_eq] at this
    exact this
  · intro ds hl
    have hl : ds.length = 2 := hl
    match ds, hl with
    | [a0, a1], _ => exact ⟨rfl, rfl, rfl⟩
  · intro W base args ds p hval hA hwt hX hsh
    exact octetPuts_rw hval hA hwt hX hsh

theorem octetPuts_row : Rows.OctetPutsSaid :=
  OpenClaim.holds_of_wide 3 Tryd.f3 rfl rfl rfl rfl rfl rfl rfl ⟨rfl, rfl, rfl, rfl, rfl⟩ rfl rfl rfl rfl rfl (by kernel_rfl) Tryd.func3 (by kernel_rfl)
    (of_decide_eq_true (by kernel_rfl)) (by unfold Func.isWrapper; first | (rw [if_pos (by decide +kernel)]; kernel_rfl) | (rw [if_neg (by decide +kernel)]; exact ⟨rfl, rfl⟩))
    (fun os started H enc _ => octetPuts_lifted os started H enc)

/-- the statement -/
theorem octetPuts_card : Rows.OctetPutsCardSaid :=
  Claim7.holds_tied_plain_at .later [] [.data, .data, .data, .data, .sentinel, .sentinel, .pinned] true (true, "56cb0fc03a3dfc1bfe4648d45d1533646674b9c7df771b5f79239cc7243cf7b8") true
    octetPuts_row (fun _ h => by cases h) (by kernel_rfl) (fun _ h => by cases h) octetPuts_row_tie rfl ⟨rfl, rfl⟩ (by kernel_rfl) rfl
    (fun f fn hf hfn => by
      obtain rfl : f = 3 := Option.some.inj ((show Tryd.prog.funcNamed "slipway/slipwaylaw01.OctetPuts" = some 3 by kernel_rfl).symm.trans hf) |>.symm
      obtain rfl : fn = Tryd.f3 := (Option.some.inj (Tryd.func3.symm.trans hfn)).symm
      have hall : (Tryd.f3.params.toList.all fun t => !(Tryd.prog.wantsStandIn t)) = true := by kernel_rfl
      refine ⟨by kernel_rfl, fun j t ht => ?_⟩
      have := List.all_eq_true.1 hall t (by rw [← Array.getElem?_toList] at ht; exact List.mem_of_getElem? ht)
      rw [Bool.not_eq_true'] at this
      exact this)
    (by kernel_rfl)
#print axioms octetPuts_card

end Go.Proofs.YtlioifgejijcoaaDoor
