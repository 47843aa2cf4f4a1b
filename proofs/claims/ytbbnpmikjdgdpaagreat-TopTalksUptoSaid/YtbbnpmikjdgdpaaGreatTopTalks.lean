/-
  TopTalks: for any list of datagrams and any time, of bulk at most 1048576, the law's function slipwaytop.TopTalks returns true and leaves all that was there as it was. Condition: the bound of the second form.
-/
import Derived.Test.YtbbnpmikjdgdpaaGreatPi
set_option linter.unusedSimpArgs false
set_option linter.unusedVariables false
set_option maxRecDepth 20000
namespace Go.Proofs.YtbbnpmikjdgdpaaGreat
open Go Go.Hw
open Go.ChangeShapes Go.WideShapes Go.ChangeAt Go.RowKit

theorem talks_j0 {h0 h : Hp} {ma ca ba mb_ cb bb : Nat} {now : Int} {s : Sl} {QA : List UdE} {K : Bool → Hp → Prop} (hs : Sat ([Hw.was h0] ++ [mch ma ca ba, mch mb_ cb bb, stackA ba ca (gA 0 c0A [] []), stackA bb cb (gB c0B [] [] [])]) h) (hn : 0 ≤ now ∧ now + 600 ≤ maxT)
    (R : RdE h0 s utC QA) (hQ : ∀ e ∈ QA, RdB h0 e.s e.data ∧ e.data.length ≤ 1048576) (hl : QA.length ≤ 1048576) (hK : ∀ h', Ext none' h0 h' → K true h') : N3_j0 s now (some (bk ma)) (some (bk mb_)) h K := by
  unfold N3_j0
  refine lit1 (c := 120) hs fun bx h1 g1 => ?_
  refine rowOwn (T := 34) (w := 3) (k := 1) g1 rfl fun b1 h2 g2 => ?_
  have g3 : Sat ([Hw.was h0] ++ [mch ma ca ba, mch mb_ cb bb, stackA ba ca (gA 0 c0A [] []), stackA bb cb (gB c0B [] [] []), byt 5 ⟨some (bk bx), 1, 1⟩ [120], Hw.own 34 3 ⟨some (bk b1), 1, 1⟩ (utC ⟨8, 1, [120], ⟨some (bk bx), 1, 1⟩⟩)]) h2 := g2
  have R2 := R.ext (g3.left.was (L := []) (M := [Hw.was h0]) 0 rfl)
  have sn := R.n
  refine g3.ap 5 rfl ut_a ut_z (n := s.n) (ns := QA.flatMap utC) (fun _ => rfl) (fun G hG => rde_src R2 utC_w hG) (by rw [flat_len utC_w, sn]) ?_ ?_ ?_
  · intro v hv
    obtain ⟨e, _, he⟩ := List.mem_flatMap.1 hv
    exact utC_plain v he
  · have : (1 + s.n) * 2 * Tryz.prog.bytesOf 34 ≤ (1 + s.n) * 2 * 64 := Nat.mul_le_mul_left _ ut_b
    show (1 + s.n) * 2 * Tryz.prog.bytesOf 34 ≤ 2 ^ 48
    omega
  intro s0 h3 g4 n4
  have n4 : s0.n = 1 + s.n := n4
  refine lit1 (c := 121) g4 fun by_ h4 g5 => ?_
  refine lit1 (c := 122) g5 fun bz h5 g6 => ?_
  have g7 : Sat ([Hw.was h0] ++ [mch ma ca ba, mch mb_ cb bb, stackA ba ca (gA 0 c0A [] []), stackA bb cb (gB c0B [] [] []), byt 5 ⟨some (bk bx), 1, 1⟩ [120], Hw.own 34 3 s0 (utC ⟨8, 1, [120], ⟨some (bk bx), 1, 1⟩⟩ ++ QA.flatMap utC), byt 5 ⟨some (bk by_), 1, 1⟩ [121], byt 5 ⟨some (bk bz), 1, 1⟩ [122]]) h5 := g6
  refine g7.push 5 rfl (k := 2) (ns := utC ⟨9, 0, [121], ⟨some (bk by_), 1, 1⟩⟩ ++ utC ⟨9, 1, [122], ⟨some (bk bz), 1, 1⟩⟩) ut_a ut_z rfl ?_ ?_ ?_
  · intro v hv
    rcases List.mem_append.1 hv with hv | hv
    · exact utC_plain v hv
    · exact utC_plain v hv
  · have : (s0.n + 2) * 2 * Tryz.prog.bytesOf 34 ≤ (s0.n + 2) * 2 * 64 := Nat.mul_le_mul_left _ ut_b
    omega
  intro sl h6 g8 n8
  generalize hq : ((⟨8, 1, [120], ⟨some (bk bx), 1, 1⟩⟩ : UdE) :: (QA ++ [⟨9, 0, [121], ⟨some (bk by_), 1, 1⟩⟩, ⟨9, 1, [122], ⟨some (bk bz), 1, 1⟩⟩])) = Q
  have eQ : utC ⟨8, 1, [120], ⟨some (bk bx), 1, 1⟩⟩ ++ QA.flatMap utC ++ (utC ⟨9, 0, [121], ⟨some (bk by_), 1, 1⟩⟩ ++ utC ⟨9, 1, [122], ⟨some (bk bz), 1, 1⟩⟩) = Q.flatMap utC := by
    rw [← hq]
    simp only [List.flatMap_cons, List.flatMap_append, List.flatMap_nil, List.append_nil, List.append_assoc]
  have g9 : Sat ([Hw.was h0] ++ [mch ma ca ba, mch mb_ cb bb, stackA ba ca (gA 0 c0A [] []), stackA bb cb (gB c0B [] [] []), byt 5 ⟨some (bk bx), 1, 1⟩ [120], Hw.own 34 3 sl (Q.flatMap utC), byt 5 ⟨some (bk by_), 1, 1⟩ [121], byt 5 ⟨some (bk bz), 1, 1⟩ [122]]) h6 := by
    rw [← eQ]; exact g8
  have g10 : Sat (([Hw.was h0] ++ [byt 5 ⟨some (bk bx), 1, 1⟩ [120], byt 5 ⟨some (bk by_), 1, 1⟩ [121], byt 5 ⟨some (bk bz), 1, 1⟩ [122]]) ++ [Hw.own 34 3 sl (Q.flatMap utC), mch ma ca ba, mch mb_ cb bb, stackA ba ca (gA 0 c0A [] []), stackA bb cb (gB c0B [] [] [])]) h6 := g9.part [4, 6, 7, 5, 0, 1, 2, 3] (by decide) rfl
  refine talks_l1 (Q := Q) (e0 := ⟨8, 1, [120], ⟨some (bk bx), 1, 1⟩⟩) (Q0 := QA ++ [⟨9, 0, [121], ⟨some (bk by_), 1, 1⟩⟩, ⟨9, 1, [122], ⟨some (bk bz), 1, 1⟩⟩]) g10 hn ?_ ?_ hq.symm ⟨rfl, rfl⟩ ?_
  · intro e he
    rw [← hq] at he
    simp only [List.mem_cons, List.mem_append, List.not_mem_nil, or_false] at he
    rcases he with rfl | he | rfl | rfl
    · exact ⟨fun h' g => (g.byt 0 rfl).rdb, by show (1 : Nat) ≤ _; omega⟩
    · exact ⟨fun h' g => (hQ e he).1.ext (g.left.was (L := []) (M := [Hw.was h0]) 0 rfl), by have := (hQ e he).2; omega⟩
    · exact ⟨fun h' g => (g.byt 1 rfl).rdb, by show (1 : Nat) ≤ _; omega⟩
    · exact ⟨fun h' g => (g.byt 2 rfl).rdb, by show (1 : Nat) ≤ _; omega⟩
  · rw [← hq]
    simp only [List.length_cons, List.length_append, List.length_nil]
    omega
  · intro h' _ g
    exact hK h' (g.left.was (L := []) (M := [Hw.was h0]) 0 rfl)
theorem c_talks {h0 : Hp} {now : Int} {s : Sl} {QA : List UdE} {K : Bool → Hp → Prop}
    (R : RdE h0 s utC QA) (hQ : ∀ e ∈ QA, RdB h0 e.s e.data ∧ e.data.length ≤ 1048576) (hl : QA.length ≤ 1048576) (hK : ∀ h', Ext none' h0 h' → K true h') : C3 s now h0 K := by
  apply S3; unfold N3
  have hs0 : Sat ([Hw.was h0] ++ []) h0 := Sat.start
  refine c_made hs0 (by decide) addr_A fun ma ca ba h1 g1 => ?_
  refine c_made g1 (by decide) addr_B fun mb_ cb bb h2 g2 => ?_
  simp only [peq_none, Option.isNone_some, cond_false, nn_some', add_bk]
  have g2 : Sat ([Hw.was h0] ++ [row ma 30 [.pointer (some (bk ca)), .pointer (some (bk ba))], stackA ba ca ⟨⟨mcA, 64, [], 64, []⟩, netA, c0A, ⟨16, 32, []⟩, 0, 0, [], []⟩, row mb_ 30 [.pointer (some (bk cb)), .pointer (some (bk bb))], stackA bb cb ⟨⟨mcB, 64, [], 64, []⟩, netB, c0B, ⟨16, 32, []⟩, 0, 0, [], []⟩]) h2 := g2
  refine g2.lP 2 (k := 1) rfl rfl ?_
  refine c_sopen (g2.part [0, 1, 2, 3] (by decide) rfl (M1 := [row ma 30 [.pointer (some (bk ca)), .pointer (some (bk ba))], stackA ba ca ⟨⟨mcA, 64, [], 64, []⟩, netA, c0A, ⟨16, 32, []⟩, 0, 0, [], []⟩, row mb_ 30 [.pointer (some (bk cb)), .pointer (some (bk bb))]])) (by simp [NodN]) fun h3 g3 => ?_
  rw [show (StS.mk ⟨mcB, 64, [], 64, []⟩ netB c0B ⟨16, 32, []⟩ 0 0 [] []).tb = ⟨16, 32, []⟩ from rfl, open_B] at g3 ⊢
  rw [show ((0 : Int) != 0) = false from rfl, cond_false]
  have g4 : Sat ([Hw.was h0] ++ [row ma 30 [.pointer (some (bk ca)), .pointer (some (bk ba))], stackA ba ca ⟨⟨mcA, 64, [], 64, []⟩, netA, c0A, ⟨16, 32, []⟩, 0, 0, [], []⟩, row mb_ 30 [.pointer (some (bk cb)), .pointer (some (bk bb))], stackA bb cb (gB c0B [] [] [])]) h3 := Sat.asc g3
  refine g4.lP 0 (k := 1) rfl rfl ?_
  refine c_sopen (g4.part [0, 2, 3, 1] (by decide) rfl (M1 := [row ma 30 [.pointer (some (bk ca)), .pointer (some (bk ba))], row mb_ 30 [.pointer (some (bk cb)), .pointer (some (bk bb))], stackA bb cb (gB c0B [] [] [])])) (by simp [NodN]) fun h4 g5 => ?_
  rw [show (StS.mk ⟨mcA, 64, [], 64, []⟩ netA c0A ⟨16, 32, []⟩ 0 0 [] []).tb = ⟨16, 32, []⟩ from rfl, open_A] at g5 ⊢
  rw [show ((0 : Int) != 0) = false from rfl, cond_false]
  have g6 : Sat ([Hw.was h0] ++ [mch ma ca ba, mch mb_ cb bb, stackA ba ca (gA 0 c0A [] []), stackA bb cb (gB c0B [] [] [])]) h4 := (Sat.asc g5).sel [0, 1, 3, 2] (by decide) rfl
  by_cases k1 : now < 0
  · rw [decide_eq_true k1, cond_true]
    exact talks_j0 g6 (by decide) R hQ hl hK
  · rw [decide_eq_false k1, cond_false]
    by_cases k2 : now > 562949953421312
    · rw [decide_eq_true k2, cond_true]
      exact talks_j0 g6 (by decide) R hQ hl hK
    · rw [decide_eq_false k2, cond_false]
      exact talks_j0 g6 (by simp only [maxT]; omega) R hQ hl hK

/-! ### the arguments -/
theorem meas {H : Type} : Meas (H := H) Rows.uptoBulk where
  sl es rest := ⟨bulk_slice es rest, fun e he => by have := bulk_in he; simp only [Rows.uptoBulk]; omega⟩
  ag es e he := by have := bulk_in he; simp only [Rows.uptoBulk]; omega
  st l := bulk_str l
def utSh : List Sh := [.int .i64, .int .i64, .row [.int .u8]]
set_option maxRecDepth 100000 in
theorem ut_sh : shOf Tryz.prog 5 22 = some [.row utSh] := by kernel_rfl
theorem ut_one {h : Hp} {B : Nat} {cs : List Value} (hc : All2 (CellOk h B 4) utSh cs) : ∃ e : UdE, cs = utC e ∧ RdB h e.s e.data ∧ e.data.length ≤ B := by
  unfold utSh at hc
  obtain ⟨v0, r0, rfl, c0, hc0⟩ := all2_cons hc
  obtain ⟨a0, rfl, w0⟩ := ok_int (n := 3) c0
  obtain ⟨v1, r1, rfl, c1, hc1⟩ := all2_cons hc0
  obtain ⟨a1, rfl, w1⟩ := ok_int (n := 3) c1
  obtain ⟨v2, r2, rfl, c2, hc2⟩ := all2_cons hc1
  obtain ⟨s, l, rfl, hr, hl⟩ := RdB.ofRow (n := 2) c2
  have e3 := all2_nil hc2
  subst e3
  exact ⟨⟨a0, a1, l, s⟩, rfl, hr, hl⟩
section
variable {H : Type} {enc : TypeId × Value → H}
set_option maxRecDepth 100000 in
theorem uts_open {r : Reach} {W : World} {b0 : Nat} {v : Value} {d : DataW H} {ps : List MemPlace} (hk : Rows.uptoBulk d ≤ 1048576) (hval : Value.okWide Tryz.prog W r b0 22 v) (hd : DataW.Trod enc Tryz.prog W 0 (fun _ => true) true 22 v d ps) :
    ∃ (s : Sl) (Q : List UdE), v = s.v ∧ RdE (hpOf W) s utC Q ∧ Q.length ≤ 1048576 ∧ ∀ e ∈ Q, RdB (hpOf W) e.s e.data ∧ e.data.length ≤ 1048576 := by
  have ht : Tryz.prog.underlying 22 = some (.slice 34) := by kernel_rfl
  obtain ⟨p, n, c, rfl⟩ := Hw.okWide_slice ht hval
  obtain ⟨fuel, hf⟩ := hd
  have hcs : (Value.slice p n c).cells.toList = [.slice p n c] := rfl
  rw [hcs] at hf
  have h1 := (trod_sh meas 5 fuel _ _ _ _ ut_sh hf hk).1
  obtain ⟨s, Q, q1, q2, q3, q4, q5⟩ := RdE.ofRow (g := utC) (p := fun e => RdB (hpOf W) e.s e.data ∧ e.data.length ≤ 1048576) h1 fun cs hcs => ut_one hcs
  exact ⟨s, Q, q1, q2, q4, q5⟩
end
set_option maxRecDepth 100000 in
theorem topTalks_rw {H : Type} {enc : TypeId × Value → H} {W : World} {base : Nat} {args : Array Value} {ds : List (DataW H)} {p : List MemPlace}
    (hval : ∀ (j : Nat) t v, Tryz.f3.params[j]? = some t → args[j]? = some v → Value.okWide Tryz.prog W .any base t v)
    (hA : DataW.TrodAll enc Tryz.prog W 0 (fun _ => true) true Tryz.f3.params.toList args.toList ds p)
    (hwt : (DataW.weightsEach Tryz.prog Tryz.f3.params.toList ds).all (· ≤ reachBytes) = true)
    (hk : Rows.uptoSmall H ds = true)
    (hX : laidMetH Tryz.prog laidL W) (hsh : W.ShapedOpen Tryz.prog) :
    HCalls Tryz.prog 3 args (hpOf W) fun v h' => v = .bool true ∧ Ext none' (hpOf W) h' := by
  have ep : Tryz.f3.params = #[22, 3] := by kernel_rfl
  rw [ep] at hA hval hwt
  obtain ⟨v0, r0, d0, s0, p0, q0, ea, rfl, rfl, h0, hA⟩ := trodAll_cons hA
  obtain ⟨v1, r1, d1, s1, p1, q1, rfl, rfl, rfl, h1, hA⟩ := trodAll_cons hA
  obtain ⟨rfl, rfl, rfl⟩ := trodAll_nil hA
  have ea : args = #[v0, v1] := Array.toList_inj.1 ea
  subst ea
  have k0 := bulk_all hk (d := d0) (by simp)
  obtain ⟨s, Q, rfl, R, hl, hQ⟩ := uts_open k0 (hval 0 22 v0 rfl rfl) h0
  obtain ⟨n1, rfl, _⟩ := int_open (k := .i64) (by kernel_rfl) (hval 1 3 v1 rfl rfl) h1
  have hc : C3 s n1 (hpOf W) fun b h' => b = true ∧ Ext none' (hpOf W) h' := c_talks R hQ hl fun h' he => ⟨rfl, he⟩
  refine HCalls.mono hc ?_
  intro v h' hv
  obtain ⟨x, hx, rfl, he⟩ := VT.on_some hv
  cases hx
  exact ⟨rfl, he⟩

set_option maxRecDepth 100000 in
theorem topTalks_reads (os : Os) {H : Type} (enc : TypeId × Value → H) : ∃ places, DataW.whole enc Tryz.prog ((laidWorld os).forCall (fun _ _ => 0) ⟨#[], #[.slice none 0 0, .int .i64 0], []⟩).memory Tryz.f3.params.toList Rows.topTalksSpec.vars false (#[.slice none 0 0, .int .i64 0] : Array Value).toList 8 = some ([.nil, .lit (.int .i64 0)], [], places) := ⟨[], by kernel_rfl⟩
set_option maxRecDepth 100000 in
theorem topTalks_lifted (os : Os) (started : os.Started) (H : Type) (enc : TypeId × Value → H) (F : Stop.Interp) :
    ReturnsInHanded {} Tryz.checked os 3 .any ((Rows.OpenSpec.upto Rows.topTalksSpec).preRow enc Tryz.prog Tryz.f3 [] false laidL) (((Rows.OpenSpec.upto Rows.topTalksSpec).at F).post enc Tryz.prog Tryz.f3 false true false false) := by
  obtain ⟨places, hx⟩ := topTalks_reads os enc
  refine law_lift_row (C := Tryz.checked) (s := Rows.topTalksSpec) (s' := Rows.OpenSpec.upto Rows.topTalksSpec) (tb := 4) own_knob started (by kernel_rfl) Tryz.func3
    (witness_row_at (enc := enc) (C := Tryz.checked) false (laidWorld os) #[.slice none 0 0, .int .i64 0] rfl (by kernel_rfl) (by kernel_rfl) (by kernel_rfl)
      (OpenSpec.preRow_of_cond 8 hx (by kernel_rfl) (fun k hk => by cases hk; kernel_rfl) (by kernel_rfl) (laid_met os _)))
    laid_out ?_ (by kernel_rfl) (by kernel_rfl) rfl rfl rfl (by kernel_rfl) ?_ ?_
  · have : (Tryz.f3.params.toList.all fun t => Tryz.prog.readableRec t && decide (t < Tryz.prog.types.size)) = true := by kernel_rfl
    intro t ht
    have := List.all_eq_true.1 this t ht
    rw [Bool.and_eq_true, decide_eq_true_eq] at this
    exact this
  · intro ds hl
    have hl : ds.length = 2 := hl
    match ds, hl with
    | [a0, a1], _ => exact ⟨rfl, rfl, rfl⟩
  · intro W base args ds p hval hA hwt hk hX hsh
    exact topTalks_rw hval hA hwt (hk _ rfl) hX hsh

/-- the statement -/
theorem topTalks_holds : Rows.TopTalksUptoSaid :=
  OpenClaim.holds_of_cond 3 Tryz.f3 rfl rfl rfl rfl rfl rfl rfl ⟨rfl, rfl, rfl, rfl, rfl⟩ rfl rfl rfl rfl rfl (by kernel_rfl) Tryz.func3 (by kernel_rfl)
    (of_decide_eq_true (by kernel_rfl)) (by unfold Func.isWrapper; first | (rw [if_pos (by decide +kernel)]; kernel_rfl) | (rw [if_neg (by decide +kernel)]; exact ⟨rfl, rfl⟩))
    (fun os started H enc _ F => by rw [OpenClaim.pre_eq_preRow]; exact topTalks_lifted os started H enc F)

#print axioms topTalks_holds

end Go.Proofs.YtbbnpmikjdgdpaaGreat
