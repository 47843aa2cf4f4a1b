/-
  OctetRead: for every number, every card address and every text (of bulk at most 1048576), the law's function slipwaylaw01.OctetRead returns true and leaves all that was there as it was.
-/
import Derived.Test.YtlioifgejijcoaaDoorPf
set_option linter.unusedSimpArgs false
set_option linter.unusedVariables false
namespace Go.Proofs.YtlioifgejijcoaaDoor
open Go Go.Hw
open Go.ChangeShapes Go.WideShapes Go.ChangeAt Go.RowKit

theorem octetRead_walk {n : Int} {s : ByteArray} {c0 c1 c2 c3 c4 c5 : UInt8} {h : Hp} (G : Glob h) (n0 : 0 ≤ n) (n1 : n < 4294967296) (hsz : s.size ≤ 1048576) :
    C10 n c0.toNat c1.toNat c2.toNat c3.toNat c4.toNat c5.toNat s h fun v h' => v = true ∧ Ext none' h h' := by
  apply S10; unfold N10
  intro b0 e0
  have hs : Sat ([] ++ [Hw.was h, row b0 49 (bc [c0, c1, c2, c3, c4, c5])]) _ := Sat.start.new e0 _
  have es : (upd h b0 (.cells ⟨[.int .u8 c0.toNat, .int .u8 c1.toNat, .int .u8 c2.toNat, .int .u8 c3.toNat, .int .u8 c4.toNat, .int .u8 c5.toNat]⟩ 49)) = upd h b0 (.cells ⟨bc [c0, c1, c2, c3, c4, c5]⟩ 49 (0, 0)) := rfl
  rw [es]
  revert hs
  generalize upd h b0 _ = h1
  intro hs
  obtain ⟨a, e, D⟩ := dotOf_ex s.data.toList
  obtain ⟨m0, m1, m2, m3, m4, m5, f, C⟩ := colOf_ex s.data.toList
  have GG := fun {h'} (x : Ext none' h h') => G.ext x
  refine c_live (GG (hs.was 0 rfl)) fun h2 x2 => ?_
  have hs := hs.ext x2
  refine c_dotted (GG (hs.was 0 rfl)) n0 n1 ?_
  intro h3 x3
  have hs := hs.ext x3
  have D0 : DotOf (dotted n.toNat) n.toNat 0 := .inl ⟨by omega, rfl, rfl⟩
  have hdl := dotted_len n.toNat
  refine d_undotted (s := ⟨⟨dotted n.toNat⟩⟩) (GG (hs.was 0 rfl)) (by show (dotted n.toNat).length ≤ _; omega) D0 ?_
  intro h4 x4
  have hs := hs.ext x4
  have k1 : Blk h4 b0 49 (bc [c0, c1, c2, c3, c4, c5]) := hs.blk 1 rfl
  simp only [add_bk, k1.cell, bk, bc_cons, bc_nil, List.getElem?_cons_zero, List.getElem?_cons_succ, xI_some]
  refine c_colons ?_
  intro h5 x5
  have hs := hs.ext x5
  have C0 : ColOf (colons [c0, c1, c2, c3, c4, c5]) c0 c1 c2 c3 c4 c5 0 := .inl ⟨rfl, rfl⟩
  refine d_uncolons (s := ⟨⟨colons [c0, c1, c2, c3, c4, c5]⟩⟩) (GG (hs.was 0 rfl)) (by show (colons [c0, c1, c2, c3, c4, c5]).length ≤ _; rw [colons_len]; omega) C0 ?_
  intro h6 x6
  have hs := hs.ext x6
  intro b2 e2
  refine macs hs e2 ?_
  intro h7 hs
  refine d_undotted (GG (hs.was 0 rfl)) (by omega) D ?_
  intro h8 x8
  have hs := hs.ext x8
  refine d_uncolons (GG (hs.was 0 rfl)) (by omega) C ?_
  intro h9 x9
  have hs := hs.ext x9
  intro b3 e3
  refine macs hs e3 ?_
  intro h10 hs
  have hs : Sat ([] ++ [Hw.was h, row b0 49 (bc [c0, c1, c2, c3, c4, c5]), row b2 49 (bc [c0, c1, c2, c3, c4, c5]), row b3 49 (bc [m0, m1, m2, m3, m4, m5])]) h10 := hs
  -- the last look
  have j1 : ∀ h', Sat ([] ++ [Hw.was h, row b0 49 (bc [c0, c1, c2, c3, c4, c5]), row b2 49 (bc [c0, c1, c2, c3, c4, c5]), row b3 49 (bc [m0, m1, m2, m3, m4, m5])]) h' →
      N10_j1 n (some (bk b0)) true (n.toNat : Nat) 0 (some (bk b2)) 0 true true h' (fun v h' => v = true ∧ Ext none' h h') := by
    intro h' hs
    unfold N10_j1
    have k1 : Blk h' b0 49 (bc [c0, c1, c2, c3, c4, c5]) := hs.blk 1 rfl
    have k2 : Blk h' b2 49 (bc [c0, c1, c2, c3, c4, c5]) := hs.blk 2 rfl
    have en : (((n.toNat : Nat) : Int) == n) = true := by rw [beq_iff_eq]; omega
    simp only [en, nn_some', beq_self_eq_true, cond_true, add_bk, k1.cell, k2.cell, bk, bc_cons, bc_nil, List.getElem?_cons_zero, List.getElem?_cons_succ, xI_some, Bool.and_self]
    exact ⟨trivial, hs.was 0 rfl⟩
  have j0 : ∀ h', Sat ([] ++ [Hw.was h, row b0 49 (bc [c0, c1, c2, c3, c4, c5]), row b2 49 (bc [c0, c1, c2, c3, c4, c5]), row b3 49 (bc [m0, m1, m2, m3, m4, m5])]) h' →
      N10_j0 n s (some (bk b0)) true (n.toNat : Nat) 0 (some (bk b2)) 0 (some (bk b3)) f true h' (fun v h' => v = true ∧ Ext none' h h') := by
    intro h' hs
    unfold N10_j0
    have k3 : Blk h' b3 49 (bc [m0, m1, m2, m3, m4, m5]) := hs.blk 3 rfl
    rcases C with ⟨h1, rfl⟩ | ⟨_, h2, rfl⟩
    · simp only [show ((0 : Int) == 10) = false from rfl, cond_false, beq_self_eq_true, cond_true, nn_some', add_bk, k3.cell, bk, bc_cons, bc_nil, List.getElem?_cons_zero, List.getElem?_cons_succ, xI_some]
      refine c_colons ?_
      intro h'' x
      have hs := hs.ext x
      have es : ((⟨⟨colons [m0, m1, m2, m3, m4, m5]⟩⟩ : ByteArray).toList == s.toList) = true := by
        rw [beq_iff_eq]
        have : s = ⟨⟨colons [m0, m1, m2, m3, m4, m5]⟩⟩ := by
          obtain ⟨⟨l⟩⟩ := s
          have h1 : l = colons [m0, m1, m2, m3, m4, m5] := h1
          rw [h1]
        rw [this]
      rw [es]
      exact j1 _ hs
    · simp only [List.cons.injEq, and_true] at h2
      obtain ⟨rfl, rfl, rfl, rfl, rfl, rfl⟩ := h2
      simp only [beq_self_eq_true, cond_true, nn_some', add_bk, k3.cell, bk, bc_cons, bc_nil, List.getElem?_cons_zero, List.getElem?_cons_succ, xI_some]
      simp only [show ((((0 : UInt8).toNat : Nat) : Int) == 0) = true from rfl, Bool.and_self, cond_true]
      exact j1 _ hs
  rcases D with ⟨h1, h2, rfl⟩ | ⟨_, rfl, rfl⟩
  · simp only [show ((0 : Int) == 10) = false from rfl, cond_false, beq_self_eq_true, cond_true]
    refine c_dotted (GG (hs.was 0 rfl)) (by omega) (by omega) ?_
    intro h11 x11
    have hs := hs.ext x11
    have es : ((⟨⟨dotted (((a : Nat) : Int)).toNat⟩⟩ : ByteArray).toList == s.toList) = true := by
      rw [beq_iff_eq]
      have : s = ⟨⟨dotted (((a : Nat) : Int)).toNat⟩⟩ := by
        obtain ⟨⟨l⟩⟩ := s
        have h2 : l = dotted a := h2
        rw [h2]; rfl
      rw [this]
    rw [es]
    exact j0 _ hs
  · simp only [show ((10 : Int) == 10) = true from rfl, show ((((0 : Nat) : Int)) == 0) = true from rfl, cond_true]
    exact j0 _ hs

set_option maxRecDepth 100000 in
theorem octetRead_rw {H : Type} {enc : TypeId × Value → H} {W : World} {base : Nat} {args : Array Value} {ds : List (DataW H)} {p : List MemPlace}
    (hval : ∀ (j : Nat) t v, Tryd.f10.params[j]? = some t → args[j]? = some v → Value.okWide Tryd.prog W .any base t v)
    (hA : DataW.TrodAll enc Tryd.prog W 0 (fun _ => true) true Tryd.f10.params.toList args.toList ds p)
    (hwt : (DataW.weightsEach Tryd.prog Tryd.f10.params.toList ds).all (· ≤ reachBytes) = true)
    (hk : Rows.uptoSmall H ds = true)
    (hX : laidMetH Tryd.prog laidL W) (hsh : W.ShapedOpen Tryd.prog) :
    HCalls Tryd.prog 10 args (hpOf W) fun v h' => v = .bool true ∧ Ext none' (hpOf W) h' := by
  have ep : Tryd.f10.params = #[47, 49, 9] := by kernel_rfl
  rw [ep] at hA hval hwt
  obtain ⟨v0, r0, d0, s0, p0, q0, ea, rfl, rfl, h0, hA⟩ := trodAll_cons hA
  obtain ⟨v1, r1, d1, s1, p1, q1, rfl, rfl, rfl, h1, hA⟩ := trodAll_cons hA
  obtain ⟨v2, r2, d2, s2, p2, q2, rfl, rfl, rfl, h2, hA⟩ := trodAll_cons hA
  obtain ⟨rfl, rfl, rfl⟩ := trodAll_nil hA
  have ea : args = #[v0, v1, v2] := Array.toList_inj.1 ea
  subst ea
  have hk2 := bulk_all hk (d := d2) (by simp)
  obtain ⟨n, rfl, wn⟩ := int_open (k := .u32) (by kernel_rfl) (hval 0 47 v0 rfl rfl) h0
  obtain ⟨l, hl, rfl⟩ := arr_open (n := 6) (e := 5) (by kernel_rfl) (by kernel_rfl) (by kernel_rfl) (by kernel_rfl) (hval 1 49 v1 rfl rfl) h1
  obtain ⟨s, rfl, rfl⟩ := str_open (by kernel_rfl) (hval 2 9 v2 rfl rfl) h2
  have hs : s.size ≤ 1048576 := by
    have h1 := bulk_str (H := H) s.data.toList
    have h3 := Nat.le_trans h1 hk2
    show s.data.size ≤ _
    rw [← Array.length_toList]; exact h3
  have wn := wfb wn
  match l, hl with
  | [c0, c1, c2, c3, c4, c5], _ =>
    have hc := octetRead_walk (n := n) (s := s) (c0 := c0) (c1 := c1) (c2 := c2) (c3 := c3) (c4 := c4) (c5 := c5) (glob_of hX hsh) wn.1 (by have := wn.2; simp [IntKind.max, IntKind.signed, IntKind.bits] at this; omega) hs
    refine HCalls.mono hc ?_
    intro v h' hv
    obtain ⟨x, hx, rfl, he⟩ := VT.on_some hv
    cases hx
    exact ⟨rfl, he⟩

set_option maxRecDepth 100000 in
theorem octetRead_reads (os : Os) {H : Type} (enc : TypeId × Value → H) : ∃ places, DataW.whole enc Tryd.prog ((laidWorld os).forCall (fun _ _ => 0) ⟨#[], #[.int .u32 0, .agg #[.int .u8 0, .int .u8 0, .int .u8 0, .int .u8 0, .int .u8 0, .int .u8 0], .string ⟨#[]⟩], []⟩).memory Tryd.f10.params.toList Rows.octetReadSpec.vars false (#[.int .u32 0, .agg #[.int .u8 0, .int .u8 0, .int .u8 0, .int .u8 0, .int .u8 0, .int .u8 0], .string ⟨#[]⟩] : Array Value).toList 8 = some ([.lit (.int .u32 0), .agg [.lit (.int .u8 0), .lit (.int .u8 0), .lit (.int .u8 0), .lit (.int .u8 0), .lit (.int .u8 0), .lit (.int .u8 0)], .lit (.string [])], [], places) := ⟨[], by kernel_rfl⟩
set_option maxRecDepth 100000 in
theorem octetRead_lifted (os : Os) (started : os.Started) (H : Type) (enc : TypeId × Value → H) (F : Stop.Interp) :
    ReturnsInHanded {} Tryd.checked os 10 .any ((Rows.OpenSpec.upto Rows.octetReadSpec).preRow enc Tryd.prog Tryd.f10 [] false laidL) (((Rows.OpenSpec.upto Rows.octetReadSpec).at F).post enc Tryd.prog Tryd.f10 false true false false) := by
  obtain ⟨places, hx⟩ := octetRead_reads os enc
  refine law_lift_row (C := Tryd.checked) (s := Rows.octetReadSpec) (s' := Rows.OpenSpec.upto Rows.octetReadSpec) (tb := 4) own_knob started (by kernel_rfl) Tryd.func10
    (witness_row_at (enc := enc) (C := Tryd.checked) false (laidWorld os) #[.int .u32 0, .agg #[.int .u8 0, .int .u8 0, .int .u8 0, .int .u8 0, .int .u8 0, .int .u8 0], .string ⟨#[]⟩] rfl (by kernel_rfl) (by kernel_rfl) (by kernel_rfl)
      (OpenSpec.preRow_of_cond 8 hx (by kernel_rfl) (fun k hk => by cases hk; kernel_rfl) (by kernel_rfl) (laid_met os _)))
    laid_out ?_ (by kernel_rfl) (by kernel_rfl) rfl rfl rfl (by kernel_rfl) ?_ ?_
  · have : (Tryd.f10.params.toList.all fun t => Tryd.prog.readableRec t && decide (t < Tryd.prog.types.size)) = true := by kernel_rfl
    intro t ht
    have := List.all_eq_true.1 this t ht
    rw [Bool.and_eq_true, decide_eq_true_eq] at this
    exact this
  · intro ds hl
    have hl : ds.length = 3 := hl
    match ds, hl with
    | [a0, a1, a2], _ => exact ⟨rfl, rfl, rfl⟩
  · intro W base args ds p hval hA hwt hk hX hsh
    exact octetRead_rw hval hA hwt (hk _ rfl) hX hsh

theorem octetRead_row : Rows.OctetReadUptoSaid :=
  OpenClaim.holds_of_cond 10 Tryd.f10 rfl rfl rfl rfl rfl rfl rfl ⟨rfl, rfl, rfl, rfl, rfl⟩ rfl rfl rfl rfl rfl (by kernel_rfl) Tryd.func10 (by kernel_rfl)
    (of_decide_eq_true (by kernel_rfl)) (by unfold Func.isWrapper; first | (rw [if_pos (by decide +kernel)]; kernel_rfl) | (rw [if_neg (by decide +kernel)]; exact ⟨rfl, rfl⟩))
    (fun os started H enc _ F => by rw [OpenClaim.pre_eq_preRow]; exact octetRead_lifted os started H enc F)

/-- the statement -/
theorem octetRead_card : Rows.OctetReadUptoCardSaid :=
  Claim7.holds_tied_plain_at .later [] [.data, .data, .data, .data, .sentinel, .sentinel, .pinned] true (true, "56cb0fc03a3dfc1bfe4648d45d1533646674b9c7df771b5f79239cc7243cf7b8") true
    octetRead_row (fun _ h => by cases h) (by kernel_rfl) (fun _ h => by cases h) octetReadUpto_row_tie rfl ⟨rfl, rfl⟩ (by kernel_rfl) rfl
    (fun f fn hf hfn => by
      obtain rfl : f = 10 := Option.some.inj ((show Tryd.prog.funcNamed "slipway/slipwaylaw01.OctetRead" = some 10 by kernel_rfl).symm.trans hf) |>.symm
      obtain rfl : fn = Tryd.f10 := (Option.some.inj (Tryd.func10.symm.trans hfn)).symm
      have hall : (Tryd.f10.params.toList.all fun t => !(Tryd.prog.wantsStandIn t)) = true := by kernel_rfl
      refine ⟨by kernel_rfl, fun j t ht => ?_⟩
      have := List.all_eq_true.1 hall t (by rw [← Array.getElem?_toList] at ht; exact List.mem_of_getElem? ht)
      rw [Bool.not_eq_true'] at this
      exact this)
    (by kernel_rfl)
#print axioms octetRead_card

end Go.Proofs.YtlioifgejijcoaaDoor
