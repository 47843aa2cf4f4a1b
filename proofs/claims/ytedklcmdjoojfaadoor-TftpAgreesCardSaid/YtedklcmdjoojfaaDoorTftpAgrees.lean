/-
  TftpAgrees: for any choices asked for, any answer, any server and client, the law's function slipwaylaw17.TftpAgrees returns true and leaves all that was there as it was. Condition: the laid variables.
-/
import Derived.Test.YtedklcmdjoojfaaDoorPe
import Derived.Test.YtedklcmdjoojfaaDoorPg
set_option linter.unusedSimpArgs false
set_option linter.unusedVariables false
namespace Go.Proofs.YtedklcmdjoojfaaDoor
open Go Go.Hw
open Go.ChangeShapes Go.WideShapes Go.ChangeAt Go.RowKit

set_option maxHeartbeats 2000000 in
theorem agrees_walk {s t : Sl} {os rs : List Opt} {bl wi si mo : Int} {nm : ByteArray} {h : Hp} {K : Bool → Hp → Prop} (Ld : Laid h) (Ho : RdO h s os) (Hr : RdO h t rs) (hl : os.length ≤ 5864062014635) (hm : rs.length ≤ 5864062014635) (hK : ∀ h', Ext none' h h' → K true h') : C6 s t bl wi si mo nm h K := by
  apply S6; unfold N6
  intro b0 e0
  have hs : Sat ([] ++ [Hw.was h, row b0 46 [.int .i64 bl, .int .i64 wi, .int .i64 si, .int .i64 mo, .string nm]]) _ := Sat.start.new e0 _
  revert hs
  generalize upd h b0 _ = h1
  intro hs
  have wasOf : ∀ {X : List Asn} {h' : Hp}, Sat (Hw.was h :: X) h' → Ext none' h h' := fun g => Sat.was (L := []) g 0 rfl
  refine c_live (Ld.ext (wasOf hs)) fun h2 x2 => ?_
  rw [Bool.not_true, cond_false]
  have hs := hs.ext x2
  refine c_lentC (Ho.ext (wasOf hs)) (by omega) fun h3 p no => ?_
  have hs := hs.addNew no
  refine c_lentC (Hr.ext (wasOf hs)) (by omega) fun h4 q no2 => ?_
  have hs : Sat ([] ++ [Hw.was h, row b0 46 [.int .i64 bl, .int .i64 wi, .int .i64 si, .int .i64 mo, .string nm], Hw.own 56 2 ⟨p, os.length + 2, os.length + 2⟩ ((os ++ [bhO, bhO]).flatMap oc), Hw.own 56 2 ⟨q, rs.length + 2, rs.length + 2⟩ ((rs ++ [bhO, bhO]).flatMap oc)]) h4 := hs.addNew no2
  simp only [add_bk]
  refine hs.lS 1 rfl rfl ?_
  refine c_want (own_rdo (hs.own 2 rfl)) (by omega) fun h5 x5 => ?_
  have hs := hs.ext x5
  refine hs.lI 1 rfl rfl ?_
  refine hs.lI 1 rfl rfl ?_
  refine hs.lI 1 rfl rfl ?_
  refine c_agree (own_rdo (hs.own 2 rfl)) (by omega) fun s3 h6 no3 => ?_
  have hs := hs.addNew no3
  refine hs.lI 1 rfl rfl ?_
  refine c_accept (own_rdo (hs.own 2 rfl)) (own_rdo (hs.own 3 rfl)) (by omega) (by omega) fun h7 x7 => ?_
  have hs := hs.ext x7
  refine hs.lI 1 rfl rfl ?_
  refine hs.lI 1 rfl rfl ?_
  refine hs.lI 1 rfl rfl ?_
  refine c_agree (own_rdo (hs.own 2 rfl)) (by omega) fun s4 h8 no4 => ?_
  have hs := hs.addNew no4
  refine c_keptC hs 2 rfl (Ho.ext (wasOf hs)) (by omega) fun h9 vs hs => ?_
  refine c_keptC hs 3 rfl (Hr.ext (wasOf hs)) (by omega) fun h10 vs2 hs => ?_
  have hs : Sat ([] ++ [Hw.was h, row b0 46 [.int .i64 bl, .int .i64 wi, .int .i64 si, .int .i64 mo, .string nm], Hw.own 56 2 ⟨p, os.length + 2, os.length + 2⟩ vs, Hw.own 56 2 ⟨q, rs.length + 2, rs.length + 2⟩ vs2, Hw.own 56 2 s3 ((agO bl wi si os).2.2.flatMap oc), Hw.own 56 2 s4 ((agO bl wi si os).2.2.flatMap oc)]) h10 := hs
  refine hs.lS 1 rfl rfl ?_
  refine c_Want (Ho.ext (wasOf hs)) (by omega) ?_
  refine hs.lI 1 rfl rfl ?_
  refine hs.lI 1 rfl rfl ?_
  refine hs.lI 1 rfl rfl ?_
  refine c_Agree (Ho.ext (wasOf hs)) (by omega) fun s6 h11 no6 => ?_
  have hs := hs.addNew no6
  refine hs.lI 1 rfl rfl ?_
  refine c_Accept (Ho.ext (wasOf hs)) (Hr.ext (wasOf hs)) (by omega) (by omega) fun h12 x12 => ?_
  have hs := hs.ext x12
  have hal := ag_len bl wi si os
  generalize (agO bl wi si os).2.2 = al at hs hal
  refine c_SameC (rdo_own (hs.own 4 rfl)) (rdo_own (hs.own 6 rfl)) (by omega) ?_
  refine c_SameC (rdo_own (hs.own 5 rfl)) (rdo_own (hs.own 6 rfl)) (by omega) ?_
  simp only [Bool.not_true, cond_false, bne_self_eq_false, beq_self_eq_true]
  intro b8 e8
  have hs : Sat ([] ++ ([Hw.was h, row b0 46 [.int .i64 bl, .int .i64 wi, .int .i64 si, .int .i64 mo, .string nm], Hw.own 56 2 ⟨p, os.length + 2, os.length + 2⟩ vs, Hw.own 56 2 ⟨q, rs.length + 2, rs.length + 2⟩ vs2, Hw.own 56 2 s3 (al.flatMap oc), Hw.own 56 2 s4 (al.flatMap oc), Hw.own 56 2 s6 (al.flatMap oc)] ++ [Hw.own 23 1 ⟨some (bk b8), 2, 2⟩ [s3.v, s4.v]])) (upd h12 b8 (.cells ⟨[s3.v, s4.v]⟩ 23 (0, 0))) := Sat.addOwn hs (Ext.new e8) ⟨rfl, Nat.le_refl _, rfl, _, upd_same, rfl, rfl⟩ (fun b hb => by
    simp only [Option.some.injEq] at hb
    have : b8 = b := congrArg Addr.block hb
    subst this; exact e8)
  revert hs
  show Sat _ (upd h12 b8 (.cells ⟨[.slice s3.p s3.n s3.c, .slice s4.p s4.n s4.c]⟩ 23 (0, 0))) → _
  generalize upd h12 b8 _ = h13
  intro hs
  have g1 : Sat (([Hw.was h] ++ [Hw.own 23 1 ⟨some (bk b8), 2, 2⟩ [s3.v, s4.v]]) ++ [ownS (s3, al), ownS (s4, al)]) h13 := Sat.csa (L := [Hw.was h]) (Sat.sel (L := []) (M' := [Hw.was h, Hw.own 23 1 ⟨some (bk b8), 2, 2⟩ [s3.v, s4.v], ownS (s3, al), ownS (s4, al)]) hs [0, 7, 4, 5] (by decide) rfl)
  have g2 : Sat ([Hw.was h] ++ [Hw.own 23 1 ⟨some (bk b8), 2, 2⟩ (([(s3, al), (s4, al)] : List (Sl × List Opt)).map fun e => e.1.v), star (([(s3, al), (s4, al)] : List (Sl × List Opt)).map ownS)]) h13 := Sat.asc g1.close
  refine c_ownedC g2 (by simp) ?_ fun h14 hs7 => hK h14 (wasOf (X := []) hs7)
  intro e he
  simp at he
  rcases he with rfl | rfl <;> (dsimp only; omega)

set_option maxRecDepth 100000 in
theorem tftpAgrees_rw {H : Type} {enc : TypeId × Value → H} {W : World} {base : Nat} {args : Array Value} {ds : List (DataW H)} {p : List MemPlace}
    (hval : ∀ (j : Nat) t v, Tryd.f6.params[j]? = some t → args[j]? = some v → Value.okWide Tryd.prog W .any base t v)
    (hA : DataW.TrodAll enc Tryd.prog W 0 (fun _ => true) true Tryd.f6.params.toList args.toList ds p)
    (hwt : (DataW.weightsEach Tryd.prog Tryd.f6.params.toList ds).all (· ≤ reachBytes) = true)
    (hX : laidMetH Tryd.prog laidL W) (hsh : W.ShapedOpen Tryd.prog) :
    HCalls Tryd.prog 6 args (hpOf W) fun v h' => v = .bool true ∧ Ext none' (hpOf W) h' := by
  have ep : Tryd.f6.params = #[23, 23, 46] := by kernel_rfl
  rw [ep] at hA hval hwt
  obtain ⟨v0, r0, d0, s0, p0, q0, ea, rfl, rfl, h0, hA⟩ := trodAll_cons hA
  obtain ⟨v1, r1, d1, s1, p1, q1, rfl, rfl, rfl, h1, hA⟩ := trodAll_cons hA
  obtain ⟨v2, r2, d2, s2, p2, q2, rfl, rfl, rfl, h2, hA⟩ := trodAll_cons hA
  obtain ⟨rfl, rfl, rfl⟩ := trodAll_nil hA
  have ea : args = #[v0, v1, v2] := Array.toList_inj.1 ea
  subst ea
  have hw0 := weighs (j := 0) hwt rfl rfl
  have hw1 := weighs (j := 1) hwt rfl rfl
  obtain ⟨s, os, rfl, ho, k0⟩ := choices_open hw0 (hval 0 23 v0 rfl rfl) h0
  obtain ⟨t, rs, rfl, hr, k1⟩ := choices_open hw1 (hval 1 23 v1 rfl rfl) h1
  obtain ⟨bl, wi, si, mo, nm, rfl⟩ := offer_open (hval 2 46 v2 rfl rfl) h2
  have hc : C6 s t bl wi si mo nm (hpOf W) fun b h' => b = true ∧ Ext none' (hpOf W) h' := agrees_walk (laid_of hX) ho hr k0 k1 fun h' he => ⟨rfl, he⟩
  refine HCalls.mono hc ?_
  intro v h' hv
  obtain ⟨x, hx, rfl, he⟩ := VT.on_some hv
  cases hx
  exact ⟨rfl, he⟩

set_option maxRecDepth 100000 in
theorem tftpAgrees_lifted (os : Os) (started : os.Started) (H : Type) (enc : TypeId × Value → H) :
    ReturnsInHanded {} Tryd.checked os 6 .any (fun w args => (Rows.tftpAgreesSpec.pre enc Tryd.prog Tryd.f6 [] false w args ∧ laidMetH Tryd.prog laidL w) ∧ sizedMet enc Tryd.prog Tryd.f6 (OpenSpec.ofChange Rows.tftpAgreesSpec) false w args)
      (Rows.tftpAgreesSpec.post enc Tryd.prog Tryd.f6 false true false false) := by
  refine law_lift (C := Tryd.checked) (X := fun w => laidMetH Tryd.prog laidL w) (tb := 4) (fun _ _ hh h => h.of_heap hh) own_knob started (by kernel_rfl) Tryd.func6
    (ChangeSpec.witness_at (enc := enc) (C := Tryd.checked) (os := os) (X := fun w _ => laidMetH Tryd.prog laidL w) false (laidWorld os) #[.slice none 0 0, .slice none 0 0, .agg #[.int .i64 0, .int .i64 0, .int .i64 0, .int .i64 0, .string ⟨#[]⟩]] 8 rfl (by kernel_rfl) (by kernel_rfl) (by kernel_rfl) (by kernel_rfl) (by kernel_rfl) (laid_met os _))
    laid_out ?_ (by kernel_rfl) (by kernel_rfl) rfl ?_ ?_
  · have : (Tryd.f6.params.toList.all fun t => Tryd.prog.readableRec t && decide (t < Tryd.prog.types.size)) = true := by kernel_rfl
    intro t ht
    have := List.all_eq_true.1 this t ht
    rw [Bool.and_eq_true, decide_eq_true_eq] at this
    exact this
  · intro ds hl
    have hl : ds.length = 3 := hl
    match ds, hl with
    | [a0, a1, a2], _ => exact ⟨rfl, rfl, rfl⟩
  · intro W base args ds p hval hA hwt hX hsh
    exact tftpAgrees_rw hval hA hwt hX hsh

theorem tftpAgrees_row : Rows.TftpAgreesSaid :=
  OpenClaim.holds_of_wide 6 Tryd.f6 rfl rfl rfl rfl rfl rfl rfl ⟨rfl, rfl, rfl, rfl, rfl⟩ rfl rfl rfl rfl rfl (by kernel_rfl) Tryd.func6 (by kernel_rfl)
    (of_decide_eq_true (by kernel_rfl)) (by unfold Func.isWrapper; first | (rw [if_pos (by decide +kernel)]; kernel_rfl) | (rw [if_neg (by decide +kernel)]; exact ⟨rfl, rfl⟩))
    (fun os started H enc _ => tftpAgrees_lifted os started H enc)

/-- the statement -/
theorem tftpAgrees_card : Rows.TftpAgreesCardSaid :=
  Claim7.holds_tied_plain_at .later [] [.data, .data, .data, .sentinel, .sentinel] true (true, "57917abc3043b30326b73d3c41ae8754757e9b53f33011c05b618fb3e5176772") true
    tftpAgrees_row (fun _ h => by cases h) (by kernel_rfl) (fun _ h => by cases h) tftpAgrees_row_tie rfl ⟨rfl, rfl⟩ (by kernel_rfl) rfl
    (fun f fn hf hfn => by
      obtain rfl : f = 6 := Option.some.inj ((show Tryd.prog.funcNamed "slipway/slipwaylaw17.TftpAgrees" = some 6 by kernel_rfl).symm.trans hf) |>.symm
      obtain rfl : fn = Tryd.f6 := (Option.some.inj (Tryd.func6.symm.trans hfn)).symm
      have hall : (Tryd.f6.params.toList.all fun t => !(Tryd.prog.wantsStandIn t)) = true := by kernel_rfl
      refine ⟨by kernel_rfl, fun j t ht => ?_⟩
      have := List.all_eq_true.1 hall t (by rw [← Array.getElem?_toList] at ht; exact List.mem_of_getElem? ht)
      rw [Bool.not_eq_true'] at this
      exact this)
    (by kernel_rfl)
#print axioms tftpAgrees_card

end Go.Proofs.YtedklcmdjoojfaaDoor
