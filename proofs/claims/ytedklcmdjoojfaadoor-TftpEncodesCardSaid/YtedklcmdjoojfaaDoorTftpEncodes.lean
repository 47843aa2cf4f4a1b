/-
  TftpEncodes: for every two packets, the law's function slipwaylaw17.TftpEncodes returns true and leaves all that was there as it was.
-/
import Derived.Test.YtedklcmdjoojfaaDoorPh
set_option linter.unusedSimpArgs false
set_option linter.unusedVariables false
namespace Go.Proofs.YtedklcmdjoojfaaDoor
open Go Go.Hw
open Go.ChangeShapes Go.WideShapes Go.ChangeAt Go.RowKit

theorem tftpEncodes_walk {op op2 : Int} {file file2 mode mode2 : ByteArray} {x3 y3 : Sl} {block block2 : Int} {x5 y5 : Sl} {code code2 : Int} {text text2 : ByteArray} {os os2 : List Opt} {data data2 : List UInt8} {h : Hp}
    (G : Glob h) (L : Laid h) (H : RdO h x3 os) (D : RdB h x5 data) (H2 : RdO h y3 os2) (D2 : RdB h y5 data2)
    (hl : os.length ≤ 5864062014635) (hdl : data.length ≤ 140737488351232) (hfs : file.size ≤ 140737488351232) (hts : text.size ≤ 140737488351232)
    (hl2 : os2.length ≤ 5864062014635) (hdl2 : data2.length ≤ 140737488351232) (hfs2 : file2.size ≤ 140737488351232) (hts2 : text2.size ≤ 140737488351232) :
    C4 op file mode x3 block x5 code text op2 file2 mode2 y3 block2 y5 code2 text2 h fun v h' => v = true ∧ Ext none' h h' := by
  apply S4; unfold N4
  intro b0 e0
  have hs : Sat ([] ++ [Hw.was h, row b0 26 (pkL op file mode x3 block x5 code text)]) (upd h b0 (.cells ⟨pkL op file mode x3 block x5 code text⟩ 26 (0, 0))) := Sat.start.new e0 _
  have es : (upd h b0 (.cells ⟨[.int .i64 op, .string file, .string mode, .slice x3.p x3.n x3.c, .int .i64 block, .slice x5.p x5.n x5.c, .int .i64 code, .string text]⟩ 26)) = upd h b0 (.cells ⟨pkL op file mode x3 block x5 code text⟩ 26 (0, 0)) := rfl
  rw [es]
  revert hs
  generalize upd h b0 _ = h0
  intro hs b1 e1
  replace hs : Sat ([] ++ [Hw.was h, row b0 26 (pkL op file mode x3 block x5 code text), row b1 26 (pkL op2 file2 mode2 y3 block2 y5 code2 text2)]) (upd h0 b1 (.cells ⟨pkL op2 file2 mode2 y3 block2 y5 code2 text2⟩ 26 (0, 0))) := hs.new e1 _
  have es : (upd h0 b1 (.cells ⟨[.int .i64 op2, .string file2, .string mode2, .slice y3.p y3.n y3.c, .int .i64 block2, .slice y5.p y5.n y5.c, .int .i64 code2, .string text2]⟩ 26)) = upd h0 b1 (.cells ⟨pkL op2 file2 mode2 y3 block2 y5 code2 text2⟩ 26 (0, 0)) := rfl
  rw [es]
  revert hs
  generalize upd h0 b1 _ = h1
  intro hs
  refine c_live (L.ext (hs.was 0 rfl)) fun h2 x2 => ?_
  replace hs := hs.ext x2
  simp only [Bool.not_true, cond_false]
  obtain ⟨c0, c1, c2, c3, c4, c5, c6, c7⟩ := pkC_of (hs.blk 1 rfl)
  simp only [c0, c1, c2, c3, c4, c5, c6, c7, xI_some, xS_some, xL_v]
  clear c0 c1 c2 c3 c4 c5 c6 c7
  intro b3 e3
  replace hs : Sat ([] ++ [Hw.was h, row b0 26 (pkL op file mode x3 block x5 code text), row b1 26 (pkL op2 file2 mode2 y3 block2 y5 code2 text2), row b3 26 [.int .i64 0, .string (⟨⟨[]⟩⟩ : ByteArray), .string (⟨⟨[]⟩⟩ : ByteArray), .slice none 0 0, .int .i64 0, .slice none 0 0, .int .i64 0, .string (⟨⟨[]⟩⟩ : ByteArray)]]) _ := hs.new e3 _
  revert hs
  generalize upd h2 b3 _ = h3
  intro hs
  refine hs.st 3 rfl (by simp) rfl fun h3 hs => ?_
  refine stk hs 3 rfl (by simp) rfl fun h3 hs => ?_
  refine stk hs 3 rfl (by simp) rfl fun h3 hs => ?_
  refine stk hs 3 rfl (by simp) rfl fun h3 hs => ?_
  refine stk hs 3 rfl (by simp) rfl fun h3 hs => ?_
  refine stk hs 3 rfl (by simp) rfl fun h3 hs => ?_
  refine stk hs 3 rfl (by simp) rfl fun h3 hs => ?_
  refine stk hs 3 rfl (by simp) rfl fun h3 hs => ?_
  replace hs : Sat ([] ++ [Hw.was h, row b0 26 (pkL op file mode x3 block x5 code text), row b1 26 (pkL op2 file2 mode2 y3 block2 y5 code2 text2), row b3 26 (pkL op file mode x3 block x5 code text)]) h3 := hs
  rw [(pkC_of (hs.blk 1 rfl)).c3, xL_v]
  refine c_lentC (H.ext (hs.was 0 rfl)) (by omega) fun h4 p no => ?_
  replace hs := hs.addNew no
  refine stk hs 3 rfl (by simp [pkL]) rfl fun h5 hs => ?_
  replace hs : Sat ([] ++ [Hw.was h, row b0 26 (pkL op file mode x3 block x5 code text), row b1 26 (pkL op2 file2 mode2 y3 block2 y5 code2 text2), row b3 26 (pkL op file mode ⟨p, os.length, os.length + 2⟩ block x5 code text), Hw.own 56 2 ⟨p, os.length + 2, os.length + 2⟩ ((os ++ [bhO, bhO]).flatMap oc)]) h5 := hs
  rw [(pkC_of (hs.blk 1 rfl)).c5, xL_v]
  refine c_lent (D.ext (hs.was 0 rfl)) (by omega) fun h6 q no => ?_
  replace hs := hs.addNew no
  refine stk hs 3 rfl (by simp [pkL]) rfl fun h7 hs => ?_
  replace hs : Sat ([] ++ [Hw.was h, row b0 26 (pkL op file mode x3 block x5 code text), row b1 26 (pkL op2 file2 mode2 y3 block2 y5 code2 text2), row b3 26 (pkL op file mode ⟨p, os.length, os.length + 2⟩ block ⟨q, data.length, data.length + 2⟩ code text), Hw.own 56 2 ⟨p, os.length + 2, os.length + 2⟩ ((os ++ [bhO, bhO]).flatMap oc), Hw.own 5 1 ⟨q, data.length + 2, data.length + 2⟩ (bc (data ++ [71, 72]))]) h7 := hs
  obtain ⟨c0, c1, c2, c3, c4, c5, c6, c7⟩ := pkC_of (hs.blk 3 rfl)
  simp only [c0, c1, c2, c3, c4, c5, c6, c7, xI_some, xS_some, xL_v]
  clear c0 c1 c2 c3 c4 c5 c6 c7
  refine c_encode (G.ext (hs.was 0 rfl)) (own_rdo (hs.own 4 rfl)) (lent_rdb (hs.own 5 rfl)) (by omega) (by omega) (by omega) fun h8 s14 no => ?_
  replace hs := hs.addNew no
  obtain ⟨c0, c1, c2, c3, c4, c5, c6, c7⟩ := pkC_of (hs.blk 2 rfl)
  simp only [c0, c1, c2, c3, c4, c5, c6, c7, xI_some, xS_some, xL_v]
  clear c0 c1 c2 c3 c4 c5 c6 c7
  refine c_encode (G.ext (hs.was 0 rfl)) (H2.ext (hs.was 0 rfl)) (D2.ext (hs.was 0 rfl)) (by omega) (by omega) (by omega) fun h9 s20 no => ?_
  replace hs := hs.addNew no
  obtain ⟨c0, c1, c2, c3, c4, c5, c6, c7⟩ := pkC_of (hs.blk 3 rfl)
  simp only [c0, c1, c2, c3, c4, c5, c6, c7, xI_some, xS_some, xL_v]
  clear c0 c1 c2 c3 c4 c5 c6 c7
  refine c_encode (G.ext (hs.was 0 rfl)) (own_rdo (hs.own 4 rfl)) (lent_rdb (hs.own 5 rfl)) (by omega) (by omega) (by omega) fun h10 s26 no => ?_
  replace hs := hs.addNew no
  rw [(pkC_of (hs.blk 3 rfl)).c3, xL_v, (pkC_of (hs.blk 1 rfl)).c3, xL_v]
  refine c_keptC hs 4 rfl (H.ext (hs.was 0 rfl)) (by omega) fun h11 vs hs => ?_
  rw [(pkC_of (hs.blk 3 rfl)).c5, xL_v, (pkC_of (hs.blk 1 rfl)).c5, xL_v]
  refine c_asLent hs 5 rfl (D.ext (hs.was 0 rfl)) (by omega) fun h12 ws hs => ?_
  replace hs : Sat ([] ++ [Hw.was h, row b0 26 (pkL op file mode x3 block x5 code text), row b1 26 (pkL op2 file2 mode2 y3 block2 y5 code2 text2), row b3 26 (pkL op file mode ⟨p, os.length, os.length + 2⟩ block ⟨q, data.length, data.length + 2⟩ code text), Hw.own 56 2 ⟨p, os.length + 2, os.length + 2⟩ vs, Hw.own 5 1 ⟨q, data.length + 2, data.length + 2⟩ ws,
    Hw.own 5 1 s14 (bc (encB op file mode os block data code text)), Hw.own 5 1 s20 (bc (encB op2 file2 mode2 os2 block2 data2 code2 text2)), Hw.own 5 1 s26 (bc (encB op file mode os block data code text))]) h12 := hs
  obtain ⟨c0, c1, c2, c3, c4, c5, c6, c7⟩ := pkC_of (hs.blk 1 rfl)
  simp only [c0, c1, c2, c3, c4, c5, c6, c7, xI_some, xS_some, xL_v]
  clear c0 c1 c2 c3 c4 c5 c6 c7
  refine c_Encode (H.ext (hs.was 0 rfl)) (D.ext (hs.was 0 rfl)) (by omega) (by omega) (by omega) fun h13 s36 no => ?_
  replace hs := hs.addNew no
  obtain ⟨c0, c1, c2, c3, c4, c5, c6, c7⟩ := pkC_of (hs.blk 2 rfl)
  simp only [c0, c1, c2, c3, c4, c5, c6, c7, xI_some, xS_some, xL_v]
  clear c0 c1 c2 c3 c4 c5 c6 c7
  refine c_Encode (H2.ext (hs.was 0 rfl)) (D2.ext (hs.was 0 rfl)) (by omega) (by omega) (by omega) fun h14 s42 no => ?_
  replace hs := hs.addNew no
  have l1 := encB_len op file mode os block data code text
  have l2 := encB_len op2 file2 mode2 os2 block2 data2 code2 text2
  generalize encB op file mode os block data code text = A at hs l1
  generalize encB op2 file2 mode2 os2 block2 data2 code2 text2 = B at hs l2
  simp only [Bool.not_true, cond_false]
  refine (hs.own 6 rfl).rdb.b2s ?_
  refine (hs.own 9 rfl).rdb.b2s ?_
  simp only [beq_self_eq_true, Bool.not_true, cond_false]
  refine (hs.own 7 rfl).rdb.b2s ?_
  refine (hs.own 10 rfl).rdb.b2s ?_
  simp only [beq_self_eq_true, Bool.not_true, cond_false]
  refine (hs.own 8 rfl).rdb.b2s ?_
  refine (hs.own 9 rfl).rdb.b2s ?_
  simp only [beq_self_eq_true, bne_self_eq_false, Bool.not_true, cond_false]
  have hs1 : Sat [Hw.was h, Hw.own 5 1 s26 (bc A), Hw.own 5 1 s20 (bc B), Hw.own 5 1 s14 (bc A)] h14 := hs.pick (fun i => [0, 8, 7, 6].getD i 0)
    (by intro i X hX; rcases i with _ | _ | _ | _ | i <;> first | exact hX | (simp at hX))
    (by intro i j hi hj; simp only [List.length_cons, List.length_nil] at hi hj; rcases i with _ | _ | _ | _ | i <;> rcases j with _ | _ | _ | _ | j <;> simp <;> omega)
  intro b6 e6
  have hs := book_new hs1 e6
  revert hs
  generalize upd h14 b6 _ = h15
  intro hs
  replace hs : Sat ([Hw.was h, Hw.own 5 1 s26 (bc A), Hw.own 5 1 s20 (bc B)] ++ [Hw.own 5 1 s14 (bc A), bookA b6 []]) h15 := hs
  replace hs : Sat ([Hw.was h, Hw.own 5 1 s26 (bc A), Hw.own 5 1 s20 (bc B)] ++ [bookA b6 [], Hw.own 5 1 s14 (bc A)]) h15 := by have := hs.rot 0 rfl; exact this
  refine c_take hs (by simp) fun h16 hs => ?_
  replace hs : Sat ([Hw.was h, Hw.own 5 1 s26 (bc A)] ++ [Hw.own 5 1 s20 (bc B), bookA b6 ([] ++ [(s14, A)])]) h16 := hs
  replace hs : Sat ([Hw.was h, Hw.own 5 1 s26 (bc A)] ++ [bookA b6 ([] ++ [(s14, A)]), Hw.own 5 1 s20 (bc B)]) h16 := by have := hs.rot 0 rfl; exact this
  refine c_take hs (by simp) fun h17 hs => ?_
  replace hs : Sat ([Hw.was h] ++ [Hw.own 5 1 s26 (bc A), bookA b6 (([] ++ [(s14, A)]) ++ [(s20, B)])]) h17 := hs
  replace hs : Sat ([Hw.was h] ++ [bookA b6 (([] ++ [(s14, A)]) ++ [(s20, B)]), Hw.own 5 1 s26 (bc A)]) h17 := by have := hs.rot 0 rfl; exact this
  refine c_take hs (by simp) fun h18 hs => ?_
  refine c_owned hs (by simp) ?_ fun h19 hs => ?_
  · intro e he
    simp at he
    rcases he with rfl | rfl | rfl <;> (dsimp only; omega)
  · have hs : Sat ([] ++ [Hw.was h]) h19 := hs
    exact ⟨rfl, hs.was 0 rfl⟩

set_option maxRecDepth 100000 in
theorem tftpEncodes_rw {H : Type} {enc : TypeId × Value → H} {W : World} {base : Nat} {args : Array Value} {ds : List (DataW H)} {p : List MemPlace}
    (hval : ∀ (j : Nat) t v, Tryd.f4.params[j]? = some t → args[j]? = some v → Value.okWide Tryd.prog W .any base t v)
    (hA : DataW.TrodAll enc Tryd.prog W 0 (fun _ => true) true Tryd.f4.params.toList args.toList ds p)
    (hwt : (DataW.weightsEach Tryd.prog Tryd.f4.params.toList ds).all (· ≤ reachBytes) = true)
    (hX : laidMetH Tryd.prog laidL W) (hsh : W.ShapedOpen Tryd.prog) :
    HCalls Tryd.prog 4 args (hpOf W) fun v h' => v = .bool true ∧ Ext none' (hpOf W) h' := by
  have ep : Tryd.f4.params = #[26, 26] := by kernel_rfl
  rw [ep] at hA hval hwt
  obtain ⟨v0, r0, d0, s0, p0, q0, ea, rfl, rfl, h0, hA⟩ := trodAll_cons hA
  obtain ⟨v1, r1, d1, s1, p1, q1, rfl, rfl, rfl, h1, hA⟩ := trodAll_cons hA
  obtain ⟨rfl, rfl, rfl⟩ := trodAll_nil hA
  have ea : args = #[v0, v1] := Array.toList_inj.1 ea
  subst ea
  have hw0 := weighs (j := 0) hwt rfl rfl
  have hw1 := weighs (j := 1) hwt rfl rfl
  obtain ⟨op, file, mode, x3, block, x5, code, text, os, data, rfl, ho, hd, _, _, ⟨k0, k1, k2, k3⟩, _⟩ := packet_open hw0 (hval 0 26 v0 rfl rfl) h0
  obtain ⟨op2, file2, mode2, y3, block2, y5, code2, text2, os2, data2, rfl, ho2, hd2, _, _, ⟨m0, m1, m2, m3⟩, _⟩ := packet_open hw1 (hval 1 26 v1 rfl rfl) h1
  have hc := tftpEncodes_walk (op := op) (op2 := op2) (block := block) (block2 := block2) (code := code) (code2 := code2) (file := file) (file2 := file2) (mode := mode) (mode2 := mode2) (text := text) (text2 := text2) (glob_of hX hsh) (laid_of hX) ho hd ho2 hd2 k0 k1 k2 k3 m0 m1 m2 m3
  refine HCalls.mono hc ?_
  intro v h' hv
  obtain ⟨x, hx, rfl, he⟩ := VT.on_some hv
  cases hx
  exact ⟨rfl, he⟩

set_option maxRecDepth 100000 in
theorem tftpEncodes_lifted (os : Os) (started : os.Started) (H : Type) (enc : TypeId × Value → H) :
    ReturnsInHanded {} Tryd.checked os 4 .any (fun w args => (Rows.tftpEncodesSpec.pre enc Tryd.prog Tryd.f4 [] false w args ∧ laidMetH Tryd.prog laidL w) ∧ sizedMet enc Tryd.prog Tryd.f4 (OpenSpec.ofChange Rows.tftpEncodesSpec) false w args)
      (Rows.tftpEncodesSpec.post enc Tryd.prog Tryd.f4 false true false false) := by
  refine law_lift (C := Tryd.checked) (X := fun w => laidMetH Tryd.prog laidL w) (tb := 4) (fun _ _ hh h => h.of_heap hh) own_knob started (by kernel_rfl) Tryd.func4
    (ChangeSpec.witness_at (enc := enc) (C := Tryd.checked) (os := os) (X := fun w _ => laidMetH Tryd.prog laidL w) false (laidWorld os) #[.agg #[.int .i64 0, .string ⟨#[]⟩, .string ⟨#[]⟩, .slice none 0 0, .int .i64 0, .slice none 0 0, .int .i64 0, .string ⟨#[]⟩], .agg #[.int .i64 0, .string ⟨#[]⟩, .string ⟨#[]⟩, .slice none 0 0, .int .i64 0, .slice none 0 0, .int .i64 0, .string ⟨#[]⟩]] 8 rfl (by kernel_rfl) (by kernel_rfl) (by kernel_rfl) (by kernel_rfl) (by kernel_rfl) (laid_met os _))
    laid_out ?_ (by kernel_rfl) (by kernel_rfl) rfl ?_ ?_
  · have : (Tryd.f4.params.toList.all fun t => Tryd.prog.readableRec t && decide (t < Tryd.prog.types.size)) = true := by kernel_rfl
    intro t ht
    have := List.all_eq_true.1 this t ht
    rw [Bool.and_eq_true, decide_eq_true_eq] at this
    exact this
  · intro ds hl
    have hl : ds.length = 2 := hl
    match ds, hl with
    | [a0, a1], _ => exact ⟨rfl, rfl, rfl⟩
  · intro W base args ds p hval hA hwt hX hsh
    exact tftpEncodes_rw hval hA hwt hX hsh

theorem tftpEncodes_row : Rows.TftpEncodesSaid :=
  OpenClaim.holds_of_wide 4 Tryd.f4 rfl rfl rfl rfl rfl rfl rfl ⟨rfl, rfl, rfl, rfl, rfl⟩ rfl rfl rfl rfl rfl (by kernel_rfl) Tryd.func4 (by kernel_rfl)
    (of_decide_eq_true (by kernel_rfl)) (by unfold Func.isWrapper; first | (rw [if_pos (by decide +kernel)]; kernel_rfl) | (rw [if_neg (by decide +kernel)]; exact ⟨rfl, rfl⟩))
    (fun os started H enc _ => tftpEncodes_lifted os started H enc)

/-- the statement -/
theorem tftpEncodes_card : Rows.TftpEncodesCardSaid :=
  Claim7.holds_tied_plain_at .later [] [.data, .data, .data, .sentinel, .sentinel] true (true, "57917abc3043b30326b73d3c41ae8754757e9b53f33011c05b618fb3e5176772") true
    tftpEncodes_row (fun _ h => by cases h) (by kernel_rfl) (fun _ h => by cases h) tftpEncodes_row_tie rfl ⟨rfl, rfl⟩ (by kernel_rfl) rfl
    (fun f fn hf hfn => by
      obtain rfl : f = 4 := Option.some.inj ((show Tryd.prog.funcNamed "slipway/slipwaylaw17.TftpEncodes" = some 4 by kernel_rfl).symm.trans hf) |>.symm
      obtain rfl : fn = Tryd.f4 := (Option.some.inj (Tryd.func4.symm.trans hfn)).symm
      have hall : (Tryd.f4.params.toList.all fun t => !(Tryd.prog.wantsStandIn t)) = true := by kernel_rfl
      refine ⟨by kernel_rfl, fun j t ht => ?_⟩
      have := List.all_eq_true.1 hall t (by rw [← Array.getElem?_toList] at ht; exact List.mem_of_getElem? ht)
      rw [Bool.not_eq_true'] at this
      exact this)
    (by kernel_rfl)
#print axioms tftpEncodes_card

end Go.Proofs.YtedklcmdjoojfaaDoor
