/-
  OctetSums: for every row of rows of bytes, the law's function slipwaylaw01.OctetSums returns true and leaves all that was there as it was.
-/
import Derived.Test.YtlioifgejijcoaaDoorPf
set_option linter.unusedSimpArgs false
set_option linter.unusedVariables false
namespace Go.Proofs.YtlioifgejijcoaaDoor
open Go Go.Hw
open Go.ChangeShapes Go.WideShapes Go.ChangeAt Go.RowKit

/-- a lent list: where it lies, what it reads -/
abbrev Lnt := Option Addr × List UInt8
def lentS (e : Lnt) : Sl := ⟨e.1, e.2.length, e.2.length + 2⟩
def lentA (e : Lnt) : Asn := Hw.own 5 1 ⟨e.1, e.2.length + 2, e.2.length + 2⟩ (bc (e.2 ++ [71, 72]))

theorem lent_rdp {L : List Asn} {h : Hp} {q : Sl} {E : List Lnt} (hs : Sat (L ++ [Hw.own 24 1 q (E.map fun e => (lentS e).v), star (E.map lentA)]) h) : RdP h q (E.map lentS) (E.map (·.2)) := by
  have ho := hs.own 0 rfl
  refine ⟨?_, by simp, ?_, ?_⟩
  · have := ho.1; simp at this ⊢; omega
  · have := ho.rdc
    rwa [List.map_map]
  · intro i t l h1 h2
    simp only [List.getElem?_map, Option.map_eq_some_iff] at h1 h2
    obtain ⟨e, he, rfl⟩ := h1
    obtain ⟨e', he', rfl⟩ := h2
    have : e = e' := Option.some.inj (he.symm.trans he')
    subst this
    have hs2 : Sat ((L ++ [Hw.own 24 1 q (E.map fun e => (lentS e).v)]) ++ [star (E.map lentA)]) h := by simpa using hs
    have hs3 := hs2.open
    exact lent_rdb (hs3.own i (by rw [List.getElem?_map, he]; rfl))

theorem octetSums_walk {s : Sl} {ts : List Sl} {ps : List (List UInt8)} {h : Hp} (G : Glob h) (H : RdP h s ts ps) (hl : ∀ l ∈ ps, l.length ≤ 140737488355328) (hsn : s.n * 24 ≤ 140737488351232) : C6 s h fun v h' => v = true ∧ Ext none' h h' := by
  apply S6; unfold N6 N6_l0
  refine c_beyond H hl ?_
  intro b hb
  cases b with
  | true => simp only [cond_true]; exact ⟨trivial, Ext.refl⟩
  | false =>
  simp only [cond_false]
  have hbd := hb rfl
  refine c_live G fun h1 x1 => ?_
  have H1 := H.ext x1
  have sn := H.n
  have sl := H.len
  refine loopP_inv (fun (x : Sl × Int) hc => ∃ (i : Nat) (E : List Lnt), x.2 = i ∧ i ≤ ps.length ∧ E.map (·.2) = ps.take i ∧ Sat ([] ++ [Hw.was h1, Hw.own 24 1 x.1 (E.map fun e => (lentS e).v), star (E.map lentA)]) hc) (fun x _ => ps.length - x.2.toNat) ?_
    ⟨0, [], rfl, Nat.zero_le _, rfl, Sat.close (L := [Hw.was h1, Hw.own 24 1 ⟨none, 0, 0⟩ []]) (M := []) (by have := (Sat.start (h := h1)).addNil 24 1; simpa using this)⟩
  rintro ⟨q, x⟩ hc ⟨i, E, hx, hi, hE, hs⟩
  simp only at hx
  subst hx
  unfold N6_l0_B N6_l0_b
  dsimp only
  have hEl : E.length = i := by have := congrArg List.length hE; simp at this; omega
  have H2 := H1.ext (hs.was 0 rfl)
  have qn : q.n = E.length := by have := (hs.own 1 rfl).1; simpa using this.symm
  by_cases hlt : i < ps.length
  · have : decide ((i : Int) < ((s.n : Nat) : Int)) = true := by simp; omega
    rw [this, cond_true]
    refine H2.at rfl hlt ?_
    intro t ht hr
    refine c_lent hr (hl _ (List.getElem_mem hlt)) ?_
    intro h2 p no
    have hs2 := hs.addNew no
    refine hs2.push 1 rfl (k := 1) (ns := [(lentS (p, ps[i])).v]) yl_a yl_z rfl (by intro v hv; simp at hv; subst hv; rfl) (by rw [yl_b]; omega) ?_
    intro q' h3 hs3 qn'
    rw [nat_succ64 (by omega)]
    refine ⟨⟨i + 1, E ++ [(p, ps[i])], rfl, hlt, by rw [List.map_append, hE, List.map_cons, List.map_nil, List.take_append_getElem hlt], ?_⟩, by simp only [Int.toNat_natCast]; omega⟩
    have hs4 : Sat ([Hw.was h1, Hw.own 24 1 q' (E.map (fun e => (lentS e).v) ++ [(lentS (p, ps[i])).v])] ++ [star (E.map lentA), lentA (p, ps[i])]) h3 := hs3
    have hs5 := hs4.into
    rw [List.map_append, List.map_append]
    exact hs5
  · have : decide ((i : Int) < ((s.n : Nat) : Int)) = false := by simp; omega
    rw [this, cond_false]
    have : i = ps.length := by omega
    subst this
    rw [List.take_length] at hE
    have hp := lent_rdp (L := [Hw.was h1]) hs
    rw [hE] at hp
    refine c_sum hp hl (by omega) (by omega) ?_
    refine c_Sum H2 hl (by omega) ?_
    unfold N6_l1
    refine loopP_inv (fun (x : Int) hc2 => ∃ (i : Nat) (M : List Asn), x = i ∧ i ≤ ps.length ∧ M.length = E.length ∧ (∀ (k : Nat) e, i ≤ k → E[k]? = some e → M[k]? = some (lentA e)) ∧ Sat ([] ++ [Hw.was h1, Hw.own 24 1 q (E.map fun e => (lentS e).v), star M]) hc2) (fun x _ => ps.length - x.toNat) ?_
      ⟨0, E.map lentA, rfl, Nat.zero_le _, by simp, fun k e _ he => by rw [List.getElem?_map, he]; rfl, hs⟩
    rintro x hc2 ⟨i, M, rfl, hi, hM, hMe, hs⟩
    unfold N6_l1_B N6_l1_b
    dsimp only
    have H3 := H1.ext (hs.was 0 rfl)
    by_cases hlt : i < ps.length
    · have : decide ((i : Int) < ((q.n : Nat) : Int)) = true := by simp; omega
      rw [this, cond_true]
      have hei : i < E.length := by omega
      obtain ⟨a, ha, hcell⟩ := (hs.own 1 rfl).rdc i (lentS E[i]).v (by rw [List.getElem?_map, List.getElem?_eq_getElem hei]; rfl)
      refine idx_of (by omega) (by omega) ?_
      rw [ha]
      have hcell' : cell hc2 (a.add (((i : Nat) : Int).toNat * 1)) = some (lentS E[i]).v := by rw [Nat.mul_one, Int.toNat_natCast]; exact hcell
      simp only [nn_some', hcell', xL_v]
      refine H3.at rfl hlt ?_
      intro t ht hr
      have e2 : E[i].2 = ps[i] := by
        have := congrArg (fun l => l[i]?) hE
        simp only [List.getElem?_map, List.getElem?_eq_getElem hei, List.getElem?_eq_getElem hlt, Option.map_some, Option.some.injEq] at this
        exact this
      have hs2 : Sat ([Hw.was h1, Hw.own 24 1 q (E.map fun e => (lentS e).v)] ++ [star M]) hc2 := hs
      have hs3 := hs2.open
      rw [← e2] at hr
      refine c_asLent hs3 i (hMe i _ (Nat.le_refl _) (List.getElem?_eq_getElem hei)) hr (by rw [e2]; exact hl _ (List.getElem_mem hlt)) ?_
      intro h5 vs hs5
      have hs6 := hs5.close
      simp only [Bool.not_true, cond_false]
      rw [nat_succ64 (by omega)]
      refine ⟨⟨i + 1, _, rfl, hlt, by rw [List.length_set]; exact hM, ?_, hs6⟩, by simp only [Int.toNat_natCast]; omega⟩
      intro k e hk he
      rw [List.getElem?_set_ne (by omega)]
      exact hMe k e (by omega) he
    · have : decide ((i : Int) < ((q.n : Nat) : Int)) = false := by simp; omega
      rw [this, cond_false]
      simp only [cond_true, beq_self_eq_true]
      exact ⟨trivial, x1.trans (hs.was 0 rfl)⟩

set_option maxRecDepth 100000 in
theorem octetSums_rw {H : Type} {enc : TypeId × Value → H} {W : World} {base : Nat} {args : Array Value} {ds : List (DataW H)} {p : List MemPlace}
    (hval : ∀ (j : Nat) t v, Tryd.f6.params[j]? = some t → args[j]? = some v → Value.okWide Tryd.prog W .any base t v)
    (hA : DataW.TrodAll enc Tryd.prog W 0 (fun _ => true) true Tryd.f6.params.toList args.toList ds p)
    (hwt : (DataW.weightsEach Tryd.prog Tryd.f6.params.toList ds).all (· ≤ reachBytes) = true)
    (hX : laidMetH Tryd.prog laidL W) (hsh : W.ShapedOpen Tryd.prog) :
    HCalls Tryd.prog 6 args (hpOf W) fun v h' => v = .bool true ∧ Ext none' (hpOf W) h' := by
  have ep : Tryd.f6.params = #[27] := by kernel_rfl
  rw [ep] at hA hval hwt
  obtain ⟨v0, r0, d0, s0, p0, q0, ea, rfl, rfl, h0, hA⟩ := trodAll_cons hA
  obtain ⟨rfl, rfl, rfl⟩ := trodAll_nil hA
  have ea : args = #[v0] := Array.toList_inj.1 ea
  subst ea
  have hw0 := weighs (j := 0) hwt rfl rfl
  obtain ⟨s, ts, ps, rfl, h1, h2, h3, h4, h5, h6, h7⟩ := parts_open (e := 24) (u := 5) (by kernel_rfl) (by kernel_rfl) (by kernel_rfl) (by kernel_rfl) (by kernel_rfl) (by kernel_rfl) hw0 (hval 0 27 v0 rfl rfl) h0
  rw [show Tryd.prog.bytesOf 24 = 24 by kernel_rfl] at h7
  have hc := octetSums_walk (s := s) (glob_of hX hsh) ⟨h1, h3, h4, h5⟩ (fun l hl => by have := h6 l hl; omega) (by omega)
  refine HCalls.mono hc ?_
  intro v h' hv
  obtain ⟨x, hx, rfl, he⟩ := VT.on_some hv
  cases hx
  exact ⟨rfl, he⟩

set_option maxRecDepth 100000 in
theorem octetSums_lifted (os : Os) (started : os.Started) (H : Type) (enc : TypeId × Value → H) :
    ReturnsInHanded {} Tryd.checked os 6 .any (fun w args => (Rows.octetSumsSpec.pre enc Tryd.prog Tryd.f6 [] false w args ∧ laidMetH Tryd.prog laidL w) ∧ sizedMet enc Tryd.prog Tryd.f6 (OpenSpec.ofChange Rows.octetSumsSpec) false w args)
      (Rows.octetSumsSpec.post enc Tryd.prog Tryd.f6 false true false false) := by
  refine law_lift (C := Tryd.checked) (X := fun w => laidMetH Tryd.prog laidL w) (tb := 4) (fun _ _ hh h => h.of_heap hh) own_knob started (by kernel_rfl) Tryd.func6
    (ChangeSpec.witness_at (enc := enc) (C := Tryd.checked) (os := os) (X := fun w _ => laidMetH Tryd.prog laidL w) false (laidWorld os) #[.slice none 0 0] 8 rfl (by kernel_rfl) (by kernel_rfl) (by kernel_rfl) (by kernel_rfl) (by kernel_rfl) (laid_met os _))
    laid_out ?_ (by kernel_rfl) (by kernel_rfl) rfl ?_ ?_
  · have : (Tryd.f6.params.toList.all fun t => Tryd.prog.readableRec t && decide (t < Tryd.prog.types.size)) = true := by kernel_rfl
    intro t ht
    have := List.all_eq_true.1 this t ht
    rw [Bool.and_eq_true, decide_eq_true_eq] at this
    exact this
  · intro ds hl
    have hl : ds.length = 1 := hl
    match ds, hl with
    | [a0], _ => exact ⟨rfl, rfl, rfl⟩
  · intro W base args ds p hval hA hwt hX hsh
    exact octetSums_rw hval hA hwt hX hsh

theorem octetSums_row : Rows.OctetSumsSaid :=
  OpenClaim.holds_of_wide 6 Tryd.f6 rfl rfl rfl rfl rfl rfl rfl ⟨rfl, rfl, rfl, rfl, rfl⟩ rfl rfl rfl rfl rfl (by kernel_rfl) Tryd.func6 (by kernel_rfl)
    (of_decide_eq_true (by kernel_rfl)) (by unfold Func.isWrapper; first | (rw [if_pos (by decide +kernel)]; kernel_rfl) | (rw [if_neg (by decide +kernel)]; exact ⟨rfl, rfl⟩))
    (fun os started H enc _ => octetSums_lifted os started H enc)

/-- the statement -/
theorem octetSums_card : Rows.OctetSumsCardSaid :=
  Claim7.holds_tied_plain_at .later [] [.data, .data, .data, .data, .sentinel, .sentinel, .pinned] true (true, "56cb0fc03a3dfc1bfe4648d45d1533646674b9c7df771b5f79239cc7243cf7b8") true
    octetSums_row (fun _ h => by cases h) (by kernel_rfl) (fun _ h => by cases h) octetSums_row_tie rfl ⟨rfl, rfl⟩ (by kernel_rfl) rfl
    (fun f fn hf hfn => by
      obtain rfl : f = 6 := Option.some.inj ((show Tryd.prog.funcNamed "slipway/slipwaylaw01.OctetSums" = some 6 by kernel_rfl).symm.trans hf) |>.symm
      obtain rfl : fn = Tryd.f6 := (Option.some.inj (Tryd.func6.symm.trans hfn)).symm
      have hall : (Tryd.f6.params.toList.all fun t => !(Tryd.prog.wantsStandIn t)) = true := by kernel_rfl
      refine ⟨by kernel_rfl, fun j t ht => ?_⟩
      have := List.all_eq_true.1 hall t (by rw [← Array.getElem?_toList] at ht; exact List.mem_of_getElem? ht)
      rw [Bool.not_eq_true'] at this
      exact this)
    (by kernel_rfl)
#print axioms octetSums_card

end Go.Proofs.YtlioifgejijcoaaDoor
