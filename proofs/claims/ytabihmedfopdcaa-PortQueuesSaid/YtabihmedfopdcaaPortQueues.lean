/-
  PortQueues: for any depth, any drawn numbers and any list of calls, the law's function slipwaylaw13.PortQueues returns true and leaves all that was there as it was. No condition.
-/
import Derived.Test.YtabihmedfopdcaaPf
set_option linter.unusedSimpArgs false
set_option linter.unusedVariables false
namespace Go.Proofs.Ytabihmedfopdcaa
open Go Go.Hw
open Go.ChangeShapes Go.WideShapes Go.ChangeAt Go.RowKit

abbrev three : List PS := [newP 100, newP 101, newP 102]
abbrev E0 : List Wl := [(⟨none, 0, 0⟩, []), (⟨none, 0, 0⟩, []), (⟨none, 0, 0⟩, [])]
theorem three_nod : ∀ i : Nat, NodN (three.take i)
  | 0 => by simp [NodN]
  | 1 => by simp [NodN, three]
  | 2 => by simp [NodN, three, newP]
  | i + 3 => by simp [NodN, three, newP]
theorem three_open {depth : Int} : ∀ i : Nat, i < 3 → openT ⟨8, depth, three.take i⟩ (100 + (i : Int)) = (0, ⟨8, depth, three.take (i + 1)⟩)
  | 0, _ => by simp [openT, three, findP, addP, newP]
  | 1, _ => by simp [openT, three, findP, addP, newP]
  | 2, _ => by simp [openT, three, findP, addP, newP]
  | i + 3, h => by omega
theorem three_ok {depth : Int} (h1 : 1 ≤ depth) (h2 : depth ≤ 32) : Ok 0 ⟨8, depth, three⟩ := by
  refine ⟨by simp [three, newP], ?_, by simp [three], ?_, by simp, ⟨h1, h2⟩⟩
  · intro p hp
    simp only [three, List.mem_cons, List.not_mem_nil, or_false] at hp
    rcases hp with rfl | rfl | rfl <;> simp [newP]
  · intro p hp
    simp only [three, List.mem_cons, List.not_mem_nil, or_false] at hp
    rcases hp with rfl | rfl | rfl <;> simp [newP]
theorem three_qok {depth : Int} : QOk ⟨8, depth, three⟩ := by
  refine ⟨?_, by simp [three]⟩
  intro p hp
  simp only [three, List.mem_cons, List.not_mem_nil, or_false] at hp
  rcases hp with rfl | rfl | rfl <;> simp [newP]
theorem three_mir {depth : Int} : Mir ⟨8, depth, three⟩ E0 [0, 0, 0] := by
  refine ⟨rfl, rfl, fun j hj => ?_⟩
  match j, hj with
  | 0, _ => exact ⟨newP 100, ⟨none, 0, 0⟩, by simp [findP, three, newP], rfl, rfl⟩
  | 1, _ => exact ⟨newP 101, ⟨none, 0, 0⟩, by simp [findP, three, newP], rfl, rfl⟩
  | 2, _ => exact ⟨newP 102, ⟨none, 0, 0⟩, by simp [findP, three, newP], rfl, rfl⟩
theorem inside_of {n : Int} (h : IntKind.wrap .i64 (n - 100) ≥ 0) (h3 : IntKind.wrap .i64 (n - 100) < 3) (h0 : -9223372036854775808 ≤ n) (h1 : n ≤ 9223372036854775807) : ∃ j : Nat, j < 3 ∧ IntKind.wrap .i64 (n - 100) = j ∧ n = 100 + j := by
  have e := wrap_i64 (n - 100)
  refine ⟨(IntKind.wrap .i64 (n - 100)).toNat, by omega, by omega, ?_⟩
  rw [e] at h h3 ⊢
  split at h <;> rename_i q
  · rw [if_pos q] at h3 ⊢; omega
  · rw [if_neg q] at h3 ⊢; omega
theorem outside_of {n : Int} (h : ¬ (IntKind.wrap .i64 (n - 100) ≥ 0 ∧ IntKind.wrap .i64 (n - 100) < 3)) : ∀ j : Nat, j < 3 → n ≠ 100 + j := by
  intro j hj e
  rw [wrap64 (by omega) (by omega)] at h
  omega

theorem q_zl1 : (zc Try.prog 45).length = 1 := by kernel_rfl
theorem q_zl2 : (zc Try.prog 3).length = 1 := by kernel_rfl
theorem q_b1 : Try.prog.bytesOf 45 = 24 := by kernel_rfl
theorem q_b2 : Try.prog.bytesOf 3 = 8 := by kernel_rfl
theorem q_by1 : (Try.prog.bytesOf 45 : Int) * 3 ≤ 2 ^ 48 := by rw [q_b1]; omega
theorem q_by2 : (Try.prog.bytesOf 3 : Int) * 3 ≤ 2 ^ 48 := by rw [q_b2]; omega
theorem q_z1 : (zeros Try.prog 45 (3 : Int).toNat).toList = wsv E0 := by kernel_rfl
theorem q_z2 : (zeros Try.prog 3 (3 : Int).toNat).toList = ints [0, 0, 0] := by kernel_rfl
theorem c_queues {depth : Int} {sd so : Sl} {draws : List Int} {ops : List Opd} {h : Hp} {K : Bool → Hp → Prop} (hd : RdU h sd draws) (hu : U32s draws) (hdl : draws.length ≤ 35184372087808) (H : OpsR h so ops) (hl : ops.length ≤ 2513169434843) (hb : ∀ o ∈ ops, o.d.data.length ≤ 140737488351232)
    (hn : ∀ o ∈ ops, -9223372036854775808 ≤ o.n ∧ o.n ≤ 9223372036854775807) (hK : ∀ h', Ext none' h h' → K true h') : C5 depth sd so h K := by
  apply S5; unfold N5
  refine p_live (L := []) (M := [Hw.was h]) Sat.start ?_
  intro h1 hs1
  refine p_new hs1 ?_ ?_
  · intro hno
    have hs1 : Sat ([Hw.was h] ++ []) h1 := hs1
    refine c_diceNew hs1 (hd.ext (Sat.was (L := []) (M := [Hw.was h] ++ _) hs1 0 rfl)) hdl ?_
    intro k h2 hs2
    simp only [Bool.not_true, cond_false, peq_none, Option.isNone_none, cond_true]
    unfold N5_j0
    simp only [peq_none, Option.isNone_some, Bool.not_false, cond_true]
    have he : Ext none' h h2 := Sat.was (L := []) (M := [Hw.was h] ++ _) hs2 0 rfl
    by_cases d1 : depth < 1
    · simp only [d1, decide_true, cond_true]; exact hK h2 he
    · simp only [d1, decide_false, cond_false]
      rw [show decide (depth > 32) = true by simp; omega]
      exact hK h2 he
  · intro hy b h2 hs2
    obtain ⟨_, y1, y2⟩ := hy
    have hs2 : Sat ([Hw.was h] ++ [portsA b ⟨8, depth, []⟩]) h2 := hs2
    refine c_diceNew hs2 (hd.ext (Sat.was (L := []) (M := [Hw.was h] ++ _) hs2 0 rfl)) hdl ?_
    intro k h3 hs3
    simp only [Bool.not_true, cond_false, peq_none, Option.isNone_some]
    unfold N5_j0
    rw [cond_false]
    unfold N5_j1 N5_l2
    have hs3 : Sat (([Hw.was h] ++ [diceA 88 k draws]) ++ [portsA b ⟨8, depth, three.take 0⟩]) h3 := Sat.csa (hs3.sel [1, 0] (by decide) rfl)
    refine loopP_inv (fun (x : Int) hc => ∃ i : Nat, x = 100 + (i : Int) ∧ i ≤ 3 ∧ Sat (([Hw.was h] ++ [diceA 88 k draws]) ++ [portsA b ⟨8, depth, three.take i⟩]) hc) (fun x _ => (103 - x).toNat) ?_ ⟨0, rfl, by omega, hs3⟩
    clear hs3
    rintro x hc ⟨i, rfl, hi, hs⟩
    unfold N5_l2_B N5_l2_b
    by_cases hlt : i < 3
    · rw [show decide ((100 : Int) + (i : Int) < 103) = true by simp; omega, cond_true]
      refine p_open hs (three_nod i) ?_
      intro h4 hs4
      rw [three_open i hlt] at hs4 ⊢
      simp only [bne_self_eq_false, cond_false]
      rw [wrap64 (by omega) (by omega)]
      exact ⟨⟨i + 1, by omega, hlt, hs4⟩, by omega⟩
    · rw [show decide ((100 : Int) + (i : Int) < 103) = false by simp; omega]
      generalize e3 : (3 : Int) = n3
      simp only [cond_false]
      have : i = 3 := by omega
      subst this
      have hs : Sat ([Hw.was h] ++ [diceA 88 k draws, portsA b ⟨8, depth, three⟩]) hc := Sat.asc hs
      refine Sat.mk (sz := 1) hs q_zl1 (by omega) (by omega) (by rw [← e3]; exact q_by1) (by omega) ?_
      intro sw h4 _ _ hs4
      rw [← e3, q_z1] at hs4
      refine Sat.mk (sz := 1) hs4 q_zl2 (by omega) (by omega) (by rw [← e3]; exact q_by2) (by omega) ?_
      intro sd h5 _ _ hs5
      rw [← e3, q_z2] at hs5
      have g1 := ((hs5.addNilT 9 1 none).addNilT 9 1 none).addNilT 9 1 none
      have g2 : Sat ((([Hw.was h] ++ [diceA 88 k draws, portsA b ⟨8, depth, three⟩, Hw.own 45 1 sw (wsv E0), Hw.own 3 1 sd (ints [0, 0, 0])])) ++ E0.map wtA) h5 := Sat.csa (A := [_, _, _, _]) g1
      have g2 : Sat ((([Hw.was h] ++ [diceA 88 k draws, portsA b ⟨8, depth, three⟩, Hw.own 45 1 sw (wsv E0), Hw.own 3 1 sd (ints [0, 0, 0])]) ++ E0.map wtA) ++ []) h5 := by rw [List.append_nil]; exact g2
      have g3 : Sat ([Hw.was h] ++ stq b k sw sd ⟨8, depth, three⟩ draws E0 [0, 0, 0]) h5 := by
        have g4 : Sat ([Hw.was h] ++ [diceA 88 k draws, portsA b ⟨8, depth, three⟩, Hw.own 45 1 sw (wsv E0), Hw.own 3 1 sd (ints [0, 0, 0]), star (E0.map wtA)]) h5 := Sat.asc (by
          have := g2
          rw [List.append_nil] at this
          exact this.close)
        exact g4.sel [1, 0, 2, 3, 4] (by decide) rfl
      unfold N5_l3
      refine loopP_inv (fun (x : Int) hc => ∃ (i : Nat) (t : Tb) (l : List Int) (E : List Wl) (D : List Int), x = i ∧ i ≤ ops.length ∧ Sat ([Hw.was h] ++ stq b k sw sd t l E D) hc ∧ Ok i t ∧ QOk t ∧ U32s l ∧ Mir t E D ∧ t.depth = depth ∧ t.most = 8) (fun x _ => ops.length - x.toNat) ?_
        ⟨0, ⟨8, depth, three⟩, draws, E0, [0, 0, 0], rfl, Nat.zero_le _, g3, three_ok y1 y2, three_qok, hu, three_mir, rfl, rfl⟩
      clear g1 g2 g3 hs4 hs5 hs
      rintro x hc ⟨i, t, l, E, D, rfl, hi, hs, o1, o2, o3, o4, o5, o6⟩
      unfold N5_l3_B N5_l3_b
      have sn := H.1
      by_cases hlt : i < ops.length
      · rw [dec_lt (by omega), cond_true]
        have hoi : ops[i]? = some ops[i] := List.getElem?_eq_getElem hlt
        have hob := hb _ (List.getElem_mem hlt)
        have hon := hn _ (List.getElem_mem hlt)
        generalize ops[i] = o at hoi hob hon
        obtain ⟨a, hp, c0, c1, c2, c3, c4, c5, c6⟩ := (H.ext (Sat.was (L := []) (M := [Hw.was h] ++ _) hs 0 rfl)).at hoi
        have hro := (H.2 i o hoi).2
        refine idx_of (by omega) (by omega) ?_
        rw [hp]
        simp only [nn_some', Int.toNat_natCast, c0, c1, c2, c3, c4, c5, c6, xI_some, xL_v, add_bk]
        intro bo e0
        have hs := hs.new e0 (.cells ⟨[.int .i64 0, .int .i64 0, .int .u32 0, .int .u32 0, .int .i64 0, .int .i64 0, .slice none 0 0]⟩ 41 (0, 0))
        revert hs
        generalize upd hc bo _ = h7
        intro hs
        have hs : Sat ([Hw.was h] ++ [portsA b t, diceA 88 k l, Hw.own 45 1 sw (wsv E), Hw.own 3 1 sd (ints D), star (E.map wtA), row bo 41 [.int .i64 0, .int .i64 0, .int .u32 0, .int .u32 0, .int .i64 0, .int .i64 0, .slice none 0 0]]) h7 := hs
        refine hs.st 5 rfl (by simp) rfl ?_
        intro _ hs
        refine hs.st 5 rfl (by simp) rfl ?_
        intro _ hs
        refine hs.st 5 rfl (by simp) rfl ?_
        intro _ hs
        refine hs.st 5 rfl (by simp) rfl ?_
        intro _ hs
        refine hs.st 5 rfl (by simp) rfl ?_
        intro _ hs
        refine hs.st 5 rfl (by simp) rfl ?_
        intro _ hs
        refine hs.st 5 rfl (by simp) rfl ?_
        intro h8 hs
        have hs : Sat ([Hw.was h] ++ [portsA b t, diceA 88 k l, Hw.own 45 1 sw (wsv E), Hw.own 3 1 sd (ints D), star (E.map wtA), row bo 41 (opc o)]) h8 := hs
        refine hs.lI 5 rfl rfl ?_
        have g1 : Sat ([Hw.was h] ++ [row bo 41 (opc o), portsA b t, diceA 88 k l, Hw.own 45 1 sw (wsv E), Hw.own 3 1 sd (ints D), star (E.map wtA)]) h8 := hs.sel [5, 0, 1, 2, 3, 4] (by decide) rfl
        have step : ∀ inside : Bool, ((inside = true ∧ ∃ j : Nat, j < 3 ∧ IntKind.wrap .i64 (o.n - 100) = j ∧ o.n = 100 + j) ∨ (inside = false ∧ ∀ j : Nat, j < 3 → o.n ≠ 100 + j)) →
            ∀ (K1 : Hp → Prop) (K2 : Bool → Hp → Prop), (∀ h', (∃ (i' : Nat) (t : Tb) (l : List Int) (E : List Wl) (D : List Int), i + 1 = i' ∧ i' ≤ ops.length ∧ Sat ([Hw.was h] ++ stq b k sw sd t l E D) h' ∧ Ok i' t ∧ QOk t ∧ U32s l ∧ Mir t E D ∧ t.depth = depth ∧ t.most = 8) → K1 h') →
            N5_j4 depth so (some (bk b)) (some (bk k)) sw sd (i : Int) (some (bk bo)) (IntKind.wrap .i64 (o.n - 100)) inside h8 K1 K2 := by
          intro inside hat K1 K2 hK1
          refine q_step (M := i) g1 o1 (by omega) o2 o3 o4 o5 (fun h' hs' => hro.ext (Sat.was (L := []) hs' 0 rfl)) hob hat ?_
          intro h' t' l' E' D' hs' b1 b2 b3 b4 b5 b6
          exact hK1 h' ⟨i + 1, t', l', E', D', rfl, hlt, hs', b1, b2, b3, b4, by rw [b5, o5], by rw [b6, o6]⟩
        have fin : ∀ h', (∃ (i' : Nat) (t : Tb) (l : List Int) (E : List Wl) (D : List Int), i + 1 = i' ∧ i' ≤ ops.length ∧ Sat ([Hw.was h] ++ stq b k sw sd t l E D) h' ∧ Ok i' t ∧ QOk t ∧ U32s l ∧ Mir t E D ∧ t.depth = depth ∧ t.most = 8) →
            (∃ (i' : Nat) (t : Tb) (l : List Int) (E : List Wl) (D : List Int), IntKind.wrap .i64 ((i : Int) + 1) = (i' : Int) ∧ i' ≤ ops.length ∧ Sat ([Hw.was h] ++ stq b k sw sd t l E D) h' ∧ Ok i' t ∧ QOk t ∧ U32s l ∧ Mir t E D ∧ t.depth = depth ∧ t.most = 8) ∧ ops.length - (IntKind.wrap .i64 ((i : Int) + 1)).toNat < ops.length - i := by
          rintro h' ⟨i', t', l', E', D', rfl, q⟩
          rw [nat_succ64 (by omega)]
          exact ⟨⟨i + 1, t', l', E', D', rfl, q⟩, by omega⟩
        by_cases a1 : IntKind.wrap .i64 (o.n - 100) ≥ 0
        · rw [show decide (IntKind.wrap .i64 (o.n - 100) ≥ 0) = true from decide_eq_true a1, cond_true]
          by_cases a2 : IntKind.wrap .i64 (o.n - 100) < 3
          · rw [show decide (IntKind.wrap .i64 (o.n - 100) < 3) = true from decide_eq_true a2]
            exact step true (.inl ⟨rfl, inside_of a1 a2 hon.1 hon.2⟩) _ _ fin
          · rw [show decide (IntKind.wrap .i64 (o.n - 100) < 3) = false from decide_eq_false a2]
            exact step false (.inr ⟨rfl, outside_of fun e => a2 e.2⟩) _ _ fin
        · rw [show decide (IntKind.wrap .i64 (o.n - 100) ≥ 0) = false from decide_eq_false a1, cond_false]
          exact step false (.inr ⟨rfl, outside_of fun e => a1 e.1⟩) _ _ fin
      · rw [dec_ge (by omega), cond_false]
        have g1 : Sat (([Hw.was h] ++ [diceA 88 k l, Hw.own 45 1 sw (wsv E), Hw.own 3 1 sd (ints D), star (E.map wtA)]) ++ [portsA b t]) hc := Sat.csa (hs.sel [1, 2, 3, 4, 0] (by decide) rfl)
        refine p_look g1 o1 ?_
        intro s h6 hs6
        have g2 : Sat (([Hw.was h] ++ [diceA 88 k l, portsA b t]) ++ [Hw.own 72 3 s (sts t.ps), Hw.own 45 1 sw (wsv E), Hw.own 3 1 sd (ints D), star (E.map wtA)]) h6 := Sat.csa ((Sat.asc hs6).sel [0, 4, 5, 1, 2, 3] (by decide) rfl)
        refine c_looked g2 o1 o4 (by have := o2.len; omega) ?_
        exact hK h6 (Sat.was (L := []) (M := [Hw.was h] ++ _) (Sat.asc hs6) 0 rfl)

set_option maxRecDepth 100000 in
theorem portQueues_rw {H : Type} {enc : TypeId × Value → H} {W : World} {base : Nat} {args : Array Value} {ds : List (DataW H)} {p : List MemPlace}
    (hval : ∀ (j : Nat) t v, Try.f5.params[j]? = some t → args[j]? = some v → Value.okWide Try.prog W .any base t v)
    (hA : DataW.TrodAll enc Try.prog W 0 (fun _ => true) true Try.f5.params.toList args.toList ds p)
    (hwt : (DataW.weightsEach Try.prog Try.f5.params.toList ds).all (· ≤ reachBytes) = true)
    (hX : True) (hsh : W.ShapedOpen Try.prog) :
    HCalls Try.prog 5 args (hpOf W) fun v h' => v = .bool true ∧ Ext none' (hpOf W) h' := by
  have ep : Try.f5.params = #[3, 28, 29] := by kernel_rfl
  rw [ep] at hA hval hwt
  obtain ⟨v0, r0, d0, s0, p0, q0, ea, rfl, rfl, h0, hA⟩ := trodAll_cons hA
  obtain ⟨v1, r1, d1, s1, p1, q1, rfl, rfl, rfl, h1, hA⟩ := trodAll_cons hA
  obtain ⟨v2, r2, d2, s2, p2, q2, rfl, rfl, rfl, h2, hA⟩ := trodAll_cons hA
  obtain ⟨rfl, rfl, rfl⟩ := trodAll_nil hA
  have ea : args = #[v0, v1, v2] := Array.toList_inj.1 ea
  subst ea
  have w1 := weighs (j := 1) hwt rfl rfl
  have w2 := weighs (j := 2) hwt rfl rfl
  obtain ⟨n0, rfl, _⟩ := int_open (k := .i64) (by kernel_rfl) (hval 0 3 v0 rfl rfl) h0
  obtain ⟨s, l, rfl, hr, hu, _, hl⟩ := draws_open w1 (hval 1 28 v1 rfl rfl) h1
  obtain ⟨so, ops, rfl, H, _, _, hol, hob, hon⟩ := ops_open w2 (hval 2 29 v2 rfl rfl) h2
  have hc : C5 n0 s so (hpOf W) fun b h' => b = true ∧ Ext none' (hpOf W) h' :=
    c_queues hr hu hl H hol hob (fun o ho => (hon o ho).1) fun h' he => ⟨rfl, he⟩
  refine HCalls.mono hc ?_
  intro v h' hv
  obtain ⟨x, hx, rfl, he⟩ := VT.on_some hv
  cases hx
  exact ⟨rfl, he⟩

set_option maxRecDepth 100000 in
theorem portQueues_lifted (os : Os) (started : os.Started) (H : Type) (enc : TypeId × Value → H) :
    ReturnsInHanded {} Try.checked os 5 .any (Rows.portQueuesSpec.pre6 enc Try.prog Try.f5 Rows.portQueuesRow.domain false) (Rows.portQueuesSpec.post enc Try.prog Try.f5 false true false false) := by
  refine law_lift_plain (C := Try.checked) (tb := 4) own_knob started (by kernel_rfl) Try.func5
    (ChangeSpec.witness6 (enc := enc) (C := Try.checked) false ⟨#[], #[.int .i64 0, .slice none 0 0, .slice none 0 0], []⟩ 8 (by kernel_rfl) (by kernel_rfl) (by kernel_rfl) (by kernel_rfl))
    laid_out ?_ (by kernel_rfl) (by kernel_rfl) rfl ?_ ?_
  · have : (Try.f5.params.toList.all fun t => Try.prog.readableRec t && decide (t < Try.prog.types.size)) = true := by kernel_rfl
    intro t ht
    have := List.all_eq_true.1 this t ht
    rw [Bool.and_eq_true, decide_eq_true_eq] at this
    exact this
  · intro ds hl
    have hl : ds.length = 3 := hl
    match ds, hl with
    | [a0, a1, a2], _ => exact ⟨rfl, rfl, rfl⟩
  · intro W base args ds p hval hA hwt hX hsh
    exact portQueues_rw hval hA hwt hX hsh

/-- the statement -/
theorem portQueues_holds : Rows.PortQueuesSaid :=
  OpenClaim.holds_of_wide 5 Try.f5 rfl rfl rfl rfl rfl rfl rfl ⟨rfl, rfl, rfl, rfl, rfl⟩ rfl rfl rfl rfl rfl (by kernel_rfl) Try.func5 (by kernel_rfl)
    (of_decide_eq_true (by kernel_rfl)) (by unfold Func.isWrapper; first | (rw [if_pos (by decide +kernel)]; kernel_rfl) | (rw [if_neg (by decide +kernel)]; exact ⟨rfl, rfl⟩))
    (fun os started H enc _ => portQueues_lifted os started H enc)

#print axioms portQueues_holds

end Go.Proofs.Ytabihmedfopdcaa
