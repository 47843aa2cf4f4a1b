/-
  TftpDecodes: for any two byte strings, the law's function slipwaylaw17.TftpDecodes returns true and leaves all that was there as it was. Condition: the laid variables.
-/
import Derived.Test.YtedklcmdjoojfaaDoorPg
import Derived.Test.YtedklcmdjoojfaaDoorPi
set_option linter.unusedSimpArgs false
set_option linter.unusedVariables false
namespace Go.Proofs.YtedklcmdjoojfaaDoor
open Go Go.Hw
open Go.ChangeShapes Go.WideShapes Go.ChangeAt Go.RowKit

theorem readL_len : ∀ (n : Nat) (acc : List Opt) (l : List UInt8), l.length ≤ n → acc.length + leftB acc ≤ 3 → (readL acc l).2.length ≤ 3 := by
  intro n
  induction n with
  | zero =>
    intro acc l hl ha
    have : l = [] := List.length_eq_zero_iff.1 (by omega)
    subst this
    rw [readL_nil]; show acc.length ≤ 3; omega
  | succ n ih =>
    intro acc l hl ha
    by_cases h0 : l = []
    · subst h0
      rw [readL_nil]; show acc.length ≤ 3; omega
    · cases h1 : cutL l with
      | none => rw [readL_cut1 h0 h1]; simp
      | some p =>
        obtain ⟨x, y⟩ := p
        have l1 := cutL_len h1
        cases h2 : cutL y with
        | none => rw [readL_cut2 h0 h1 h2]; simp
        | some q =>
          obtain ⟨u, v⟩ := q
          have l2 := cutL_len h2
          rw [readL_cut h0 h1 h2]
          split
          · rename_i hk
            split
            · simp
            · rename_i m hm
              split
              · rename_i hf
                refine ih _ _ (by omega) ?_
                have := left_step (n := (m : Int)) hk hf
                simp only [List.length_append, List.length_singleton]; omega
              · simp
          · exact ih _ _ (by omega) ha
theorem decF_len (op : Int) (r : List UInt8) : (decF op r).2.os.length ≤ 3 ∧ (decF op r).2.data.length ≤ 65464 := by
  have z : dec0.os.length ≤ 3 ∧ dec0.data.length ≤ 65464 := ⟨by simp [dec0], by simp [dec0]⟩
  have rl : ∀ l, (readL [] l).2.length ≤ 3 := fun l => readL_len _ [] l (Nat.le_refl _) (by rw [left_nil]; simp)
  unfold decF
  split
  · split
    · exact ⟨rl _, z.2⟩
    · exact z
  · split
    · exact ⟨rl _, z.2⟩
    · split
      · split <;> exact z
      · split
        · split
          · exact z
          · split
            · exact z
            · rename_i h; exact ⟨z.1, by show (r.drop 2).length ≤ 65464; omega⟩
        · split
          · split
            · exact z
            · split
              · exact z
              · split <;> exact z
          · exact z
theorem decL_len (l : List UInt8) : (decL l).2.os.length ≤ 3 ∧ (decL l).2.data.length ≤ 65464 := by
  rw [decL_eq]
  split
  · exact ⟨by simp [dec0], by simp [dec0]⟩
  · unfold decZ
    split
    · exact decF_len _ _
    · exact ⟨by simp [dec0], by simp [dec0]⟩

/-- a result, laid into a row of its own -/
theorem lay8 {X : List Asn} {d : Dec} {so sd : Sl} {h : Hp} {F : Nat → Hp → Prop} (hs : Sat X h) (hF : ∀ b h', Sat (X ++ [row b 26 (decC d so sd)]) h' → F b h') :
    nw h (.cells ⟨[.int .i64 0, .string (⟨⟨[]⟩⟩ : ByteArray), .string (⟨⟨[]⟩⟩ : ByteArray), .slice none 0 0, .int .i64 0, .slice none 0 0, .int .i64 0, .string (⟨⟨[]⟩⟩ : ByteArray)]⟩ 26) fun b h0 => st h0 (bk b) (.int .i64 d.op) fun h1 => st h1 ((bk b).add 1) (.string d.file) fun h2 => st h2 ((bk b).add 2) (.string d.mode) fun h3 => st h3 ((bk b).add 3) (.slice so.p so.n so.c) fun h4 => st h4 ((bk b).add 4) (.int .i64 d.block) fun h5 => st h5 ((bk b).add 5) (.slice sd.p sd.n sd.c) fun h6 =>
      st h6 ((bk b).add 6) (.int .i64 d.code) fun h7 => st h7 ((bk b).add 7) (.string d.text) fun h8 => F b h8 := by
  intro b e0
  have hs0 : Sat (X ++ []) h := by rw [List.append_nil]; exact hs
  have hs := hs0.new e0 (.cells ⟨[.int .i64 0, .string (⟨⟨[]⟩⟩ : ByteArray), .string (⟨⟨[]⟩⟩ : ByteArray), .slice none 0 0, .int .i64 0, .slice none 0 0, .int .i64 0, .string (⟨⟨[]⟩⟩ : ByteArray)]⟩ 26 (0, 0))
  revert hs
  generalize upd h b _ = h0
  intro hs
  simp only [add_bk]
  exact st8 (L := X) (M := []) (cs := zeroC) rfl hs fun h' hs' => hF b h' hs'

set_option maxHeartbeats 2000000 in
theorem decodes_walk {s t : Sl} {l m : List UInt8} {h : Hp} {K : Bool → Hp → Prop} (Gl : Glob h) (Ld : Laid h) (Hl : RdB h s l) (Hm : RdB h t m) (hl : l.length ≤ 140737488351232) (hm : m.length ≤ 140737488351232) (hK : ∀ h', Ext none' h h' → K true h') : C5 s t h K := by
  apply S5; unfold N5
  refine c_live Ld fun h2 x2 => ?_
  rw [Bool.not_true, cond_false]
  have hs : Sat ([] ++ [Hw.was h]) h2 := Sat.start.ext x2
  refine c_lent (Hl.ext x2) (by omega) fun h3 p no => ?_
  have hs : Sat [Hw.was h, Hw.own 5 1 ⟨p, l.length + 2, l.length + 2⟩ (bc (l ++ [71, 72]))] h3 := hs.addNew no
  have wasOf : ∀ {X : List Asn} {h' : Hp}, Sat (Hw.was h :: X) h' → Ext none' h h' := fun g => Sat.was (L := []) g 0 rfl
  have lentOf : ∀ {X : List Asn} {h' : Hp}, Sat (Hw.was h :: Hw.own 5 1 ⟨p, l.length + 2, l.length + 2⟩ (bc (l ++ [71, 72])) :: X) h' → RdB h' ⟨p, l.length, l.length + 2⟩ l := fun g => lent_rdb (Sat.own (L := []) g 1 rfl)
  have nil : ∀ {X : List Asn} {h' : Hp}, Sat X h' → Sat (X ++ []) h' := fun g => by rw [List.append_nil]; exact g
  refine c_decode (nil hs) (fun h' g => lentOf g) (fun h' g => Gl.ext (wasOf g)) (by omega) ?_
  intro so1 sd1 h4 hs
  refine lay8 hs fun b1 h5 hs => ?_
  refine c_decode (nil hs) (fun h' g => Hm.ext (wasOf g)) (fun h' g => Gl.ext (wasOf g)) (by omega) ?_
  intro so2 sd2 h6 hs
  refine lay8 hs fun b2 h7 hs => ?_
  refine c_decode (nil hs) (fun h' g => lentOf g) (fun h' g => Gl.ext (wasOf g)) (by omega) ?_
  intro so3 sd3 h8 hs
  refine lay8 hs fun b3 h9 hs => ?_
  have hs : Sat ([] ++ [Hw.was h, Hw.own 5 1 ⟨p, l.length + 2, l.length + 2⟩ (bc (l ++ [71, 72])), Hw.own 56 2 so1 ((decL l).2.os.flatMap oc), Hw.own 5 1 sd1 (bc (decL l).2.data), row b1 26 (decC (decL l).2 so1 sd1), Hw.own 56 2 so2 ((decL m).2.os.flatMap oc), Hw.own 5 1 sd2 (bc (decL m).2.data), row b2 26 (decC (decL m).2 so2 sd2),
    Hw.own 56 2 so3 ((decL l).2.os.flatMap oc), Hw.own 5 1 sd3 (bc (decL l).2.data), row b3 26 (decC (decL l).2 so3 sd3)]) h9 := by simpa using hs
  refine c_asLent hs 1 rfl (Hl.ext (wasOf hs)) (by omega) fun h10 vs hs => ?_
  have hs : Sat [Hw.was h, Hw.own 5 1 ⟨p, l.length + 2, l.length + 2⟩ vs, Hw.own 56 2 so1 ((decL l).2.os.flatMap oc), Hw.own 5 1 sd1 (bc (decL l).2.data), row b1 26 (decC (decL l).2 so1 sd1), Hw.own 56 2 so2 ((decL m).2.os.flatMap oc), Hw.own 5 1 sd2 (bc (decL m).2.data), row b2 26 (decC (decL m).2 so2 sd2),
    Hw.own 56 2 so3 ((decL l).2.os.flatMap oc), Hw.own 5 1 sd3 (bc (decL l).2.data), row b3 26 (decC (decL l).2 so3 sd3)] h10 := hs
  refine c_Decode (nil hs) (fun h' g => Hl.ext (wasOf g)) (by omega) ?_
  intro so4 sd4 h11 hs
  refine lay8 hs fun b5 h12 hs => ?_
  refine c_Decode (nil hs) (fun h' g => Hm.ext (wasOf g)) (by omega) ?_
  intro so5 sd5 h13 hs
  refine lay8 hs fun b6 h14 hs => ?_
  have hs : Sat ([] ++ [Hw.was h, Hw.own 5 1 ⟨p, l.length + 2, l.length + 2⟩ vs, Hw.own 56 2 so1 ((decL l).2.os.flatMap oc), Hw.own 5 1 sd1 (bc (decL l).2.data), row b1 26 (decC (decL l).2 so1 sd1), Hw.own 56 2 so2 ((decL m).2.os.flatMap oc), Hw.own 5 1 sd2 (bc (decL m).2.data), row b2 26 (decC (decL m).2 so2 sd2),
    Hw.own 56 2 so3 ((decL l).2.os.flatMap oc), Hw.own 5 1 sd3 (bc (decL l).2.data), row b3 26 (decC (decL l).2 so3 sd3), Hw.own 56 2 so4 ((decL l).2.os.flatMap oc), Hw.own 5 1 sd4 (bc (decL l).2.data), row b5 26 (decC (decL l).2 so4 sd4), Hw.own 56 2 so5 ((decL m).2.os.flatMap oc), Hw.own 5 1 sd5 (bc (decL m).2.data), row b6 26 (decC (decL m).2 so5 sd5)]) h14 := by simpa using hs
  obtain ⟨n1, n2⟩ := decL_len l
  obtain ⟨n3, n4⟩ := decL_len m
  generalize decL l = D1 at hs n1 n2 ⊢
  generalize decL m = D2 at hs n3 n4 ⊢
  obtain ⟨e1, D1⟩ := D1
  obtain ⟨e2, D2⟩ := D2
  simp only [add_bk] at hs n1 n2 n3 n4 ⊢
  have ld : ∀ {X : List Asn} {j b : Nat} {d : Dec} {so sd : Sl} {hh : Hp} {F : Int → ByteArray → ByteArray → Sl → Int → Sl → Int → ByteArray → Prop}, Sat ([] ++ X) hh → X[j]? = some (row b 26 (decC d so sd)) → F d.op d.file d.mode so d.block sd d.code d.text →
      xI .i64 (cell hh (bk b)) fun n0 => xS (cell hh ⟨b, 1, none⟩) fun s2 => xS (cell hh ⟨b, 2, none⟩) fun s3 => xL (cell hh ⟨b, 3, none⟩) fun s4 => xI .i64 (cell hh ⟨b, 4, none⟩) fun n1 => xL (cell hh ⟨b, 5, none⟩) fun s5 => xI .i64 (cell hh ⟨b, 6, none⟩) fun n2 => xS (cell hh ⟨b, 7, none⟩) fun s6 => F n0 s2 s3 s4 n1 s5 n2 s6 := by
    intro X j b d so sd hh F g hj hF
    refine g.lI j hj rfl ?_
    refine g.lS j hj rfl ?_
    refine g.lS j hj rfl ?_
    refine g.lL j hj rfl ?_
    refine g.lI j hj rfl ?_
    refine g.lL j hj rfl ?_
    refine g.lI j hj rfl ?_
    refine g.lS j hj rfl ?_
    exact hF
  refine ld hs (j := 4) rfl ?_
  refine ld hs (j := 13) rfl ?_
  refine c_Same (nil hs) (fun h' g => ⟨⟨rdo_own (Sat.own (L := []) g 2 rfl), (Sat.own (L := []) g 3 rfl).rdb⟩, rdo_own (Sat.own (L := []) g 11 rfl), (Sat.own (L := []) g 12 rfl).rdb⟩) (by omega) ?_
  intro h15 hs
  refine ld hs (j := 7) rfl ?_
  refine ld hs (j := 16) rfl ?_
  refine c_Same (nil hs) (fun h' g => ⟨⟨rdo_own (Sat.own (L := []) g 5 rfl), (Sat.own (L := []) g 6 rfl).rdb⟩, rdo_own (Sat.own (L := []) g 14 rfl), (Sat.own (L := []) g 15 rfl).rdb⟩) (by omega) ?_
  intro h16 hs
  refine ld hs (j := 10) rfl ?_
  refine ld hs (j := 13) rfl ?_
  refine c_Same (nil hs) (fun h' g => ⟨⟨rdo_own (Sat.own (L := []) g 8 rfl), (Sat.own (L := []) g 9 rfl).rdb⟩, rdo_own (Sat.own (L := []) g 11 rfl), (Sat.own (L := []) g 12 rfl).rdb⟩) (by omega) ?_
  intro h17 hs
  simp only [Bool.not_true, cond_false, bne_self_eq_false]
  intro b10 e10
  have hs0 : Sat ([Hw.was h, row b1 26 (decC D1 so1 sd1), row b2 26 (decC D2 so2 sd2), row b3 26 (decC D1 so3 sd3), Hw.own 56 2 so1 (D1.os.flatMap oc), Hw.own 56 2 so2 (D2.os.flatMap oc), Hw.own 56 2 so3 (D1.os.flatMap oc), Hw.own 5 1 sd3 (bc D1.data), Hw.own 5 1 sd2 (bc D2.data), Hw.own 5 1 sd1 (bc D1.data)]) h17 := Sat.sel (L := []) hs [0, 4, 7, 10, 2, 5, 8, 9, 6, 3] (by decide) rfl
  have hs1 := book_new hs0 e10
  revert hs1
  generalize upd h17 b10 _ = h18
  intro hs1
  have hs1 : Sat ([] ++ [Hw.was h, row b1 26 (decC D1 so1 sd1), row b2 26 (decC D2 so2 sd2), row b3 26 (decC D1 so3 sd3), Hw.own 56 2 so1 (D1.os.flatMap oc), Hw.own 56 2 so2 (D2.os.flatMap oc), Hw.own 56 2 so3 (D1.os.flatMap oc), Hw.own 5 1 sd3 (bc D1.data), Hw.own 5 1 sd2 (bc D2.data), Hw.own 5 1 sd1 (bc D1.data), bookA b10 []]) h18 := hs1
  refine hs1.lL 1 rfl rfl ?_
  refine c_take (s := sd1) (Sat.csa (L := []) (A := [_, _, _, _, _, _, _, _, _]) (hs1.sel [0, 1, 2, 3, 4, 5, 6, 7, 8, 10, 9] (by decide) rfl)) (by simp) fun h19 hs2 => ?_
  have hs2 : Sat ([] ++ [Hw.was h, row b1 26 (decC D1 so1 sd1), row b2 26 (decC D2 so2 sd2), row b3 26 (decC D1 so3 sd3), Hw.own 56 2 so1 (D1.os.flatMap oc), Hw.own 56 2 so2 (D2.os.flatMap oc), Hw.own 56 2 so3 (D1.os.flatMap oc), Hw.own 5 1 sd3 (bc D1.data), Hw.own 5 1 sd2 (bc D2.data), bookA b10 [(sd1, D1.data)]]) h19 := hs2
  refine hs2.lL 2 rfl rfl ?_
  refine c_take (s := sd2) (Sat.csa (L := []) (A := [_, _, _, _, _, _, _, _]) (hs2.sel [0, 1, 2, 3, 4, 5, 6, 7, 9, 8] (by decide) rfl)) (by simp) fun h20 hs3 => ?_
  have hs3 : Sat ([] ++ [Hw.was h, row b1 26 (decC D1 so1 sd1), row b2 26 (decC D2 so2 sd2), row b3 26 (decC D1 so3 sd3), Hw.own 56 2 so1 (D1.os.flatMap oc), Hw.own 56 2 so2 (D2.os.flatMap oc), Hw.own 56 2 so3 (D1.os.flatMap oc), Hw.own 5 1 sd3 (bc D1.data), bookA b10 [(sd1, D1.data), (sd2, D2.data)]]) h20 := hs3
  refine hs3.lL 3 rfl rfl ?_
  refine c_take (s := sd3) (Sat.csa (L := []) (A := [_, _, _, _, _, _, _]) (hs3.sel [0, 1, 2, 3, 4, 5, 6, 8, 7] (by decide) rfl)) (by simp) fun h21 hs4 => ?_
  have hs4 : Sat ([Hw.was h, row b1 26 (decC D1 so1 sd1), row b2 26 (decC D2 so2 sd2), row b3 26 (decC D1 so3 sd3), Hw.own 56 2 so1 (D1.os.flatMap oc), Hw.own 56 2 so2 (D2.os.flatMap oc), Hw.own 56 2 so3 (D1.os.flatMap oc)] ++ [bookA b10 [(sd1, D1.data), (sd2, D2.data), (sd3, D1.data)]]) h21 := hs4
  refine c_owned hs4 (by simp) ?_ fun h22 hs5 => ?_
  · intro e he
    simp at he
    rcases he with rfl | rfl | rfl <;> (dsimp only; omega)
  have hs5 : Sat ([] ++ [Hw.was h, row b1 26 (decC D1 so1 sd1), row b2 26 (decC D2 so2 sd2), row b3 26 (decC D1 so3 sd3), Hw.own 56 2 so1 (D1.os.flatMap oc), Hw.own 56 2 so2 (D2.os.flatMap oc), Hw.own 56 2 so3 (D1.os.flatMap oc)]) h22 := hs5
  refine hs5.lL 1 rfl rfl ?_
  refine hs5.lL 2 rfl rfl ?_
  refine hs5.lL 3 rfl rfl ?_
  intro b12 e12
  have hs6 : Sat ([] ++ ([Hw.was h, row b1 26 (decC D1 so1 sd1), row b2 26 (decC D2 so2 sd2), row b3 26 (decC D1 so3 sd3), Hw.own 56 2 so1 (D1.os.flatMap oc), Hw.own 56 2 so2 (D2.os.flatMap oc), Hw.own 56 2 so3 (D1.os.flatMap oc)] ++ [Hw.own 23 1 ⟨some (bk b12), 3, 3⟩ [so1.v, so2.v, so3.v]])) (upd h22 b12 (.cells ⟨[so1.v, so2.v, so3.v]⟩ 23 (0, 0))) := hs5.addOwn (Ext.new e12) ⟨rfl, Nat.le_refl _, rfl, _, upd_same, rfl, rfl⟩ (fun b hb => by
    simp only [Option.some.injEq] at hb
    have : b12 = b := congrArg Addr.block hb
    subst this; exact e12)
  revert hs6
  show Sat _ (upd h22 b12 (.cells ⟨[.slice so1.p so1.n so1.c, .slice so2.p so2.n so2.c, .slice so3.p so3.n so3.c]⟩ 23 (0, 0))) → _
  generalize upd h22 b12 _ = h23
  intro hs6
  have g1 : Sat (([Hw.was h] ++ [Hw.own 23 1 ⟨some (bk b12), 3, 3⟩ [so1.v, so2.v, so3.v]]) ++ [ownS (so1, D1.os), ownS (so2, D2.os), ownS (so3, D1.os)]) h23 := Sat.csa (L := [Hw.was h]) (Sat.sel (L := []) (M' := [Hw.was h, Hw.own 23 1 ⟨some (bk b12), 3, 3⟩ [so1.v, so2.v, so3.v], ownS (so1, D1.os), ownS (so2, D2.os), ownS (so3, D1.os)]) hs6 [0, 7, 4, 5, 6] (by decide) rfl)
  have g2 : Sat ([Hw.was h] ++ [Hw.own 23 1 ⟨some (bk b12), 3, 3⟩ (([(so1, D1.os), (so2, D2.os), (so3, D1.os)] : List (Sl × List Opt)).map fun e => e.1.v), star (([(so1, D1.os), (so2, D2.os), (so3, D1.os)] : List (Sl × List Opt)).map ownS)]) h23 := Sat.asc g1.close
  refine c_ownedC g2 (by simp) ?_ fun h24 hs7 => ?_
  · intro e he
    simp at he
    rcases he with rfl | rfl | rfl <;> (dsimp only; omega)
  · rw [cond_true]
    exact hK h24 (wasOf (X := []) hs7)

set_option maxRecDepth 100000 in
theorem tftpDecodes_rw {H : Type} {enc : TypeId × Value → H} {W : World} {base : Nat} {args : Array Value} {ds : List (DataW H)} {p : List MemPlace}
    (hval : ∀ (j : Nat) t v, Tryd.f5.params[j]? = some t → args[j]? = some v → Value.okWide Tryd.prog W .any base t v)
    (hA : DataW.TrodAll enc Tryd.prog W 0 (fun _ => true) true Tryd.f5.params.toList args.toList ds p)
    (hwt : (DataW.weightsEach Tryd.prog Tryd.f5.params.toList ds).all (· ≤ reachBytes) = true)
    (hX : laidMetH Tryd.prog laidL W) (hsh : W.ShapedOpen Tryd.prog) :
    HCalls Tryd.prog 5 args (hpOf W) fun v h' => v = .bool true ∧ Ext none' (hpOf W) h' := by
  have ep : Tryd.f5.params = #[24, 24] := by kernel_rfl
  rw [ep] at hA hval hwt
  obtain ⟨v0, r0, d0, s0, p0, q0, ea, rfl, rfl, h0, hA⟩ := trodAll_cons hA
  obtain ⟨v1, r1, d1, s1, p1, q1, rfl, rfl, rfl, h1, hA⟩ := trodAll_cons hA
  obtain ⟨rfl, rfl, rfl⟩ := trodAll_nil hA
  have ea : args = #[v0, v1] := Array.toList_inj.1 ea
  subst ea
  obtain ⟨s, l, rfl, hr, hcap⟩ := bytes_open (e := 5) (by kernel_rfl) (by kernel_rfl) (by kernel_rfl) (hval 0 24 v0 rfl rfl) h0
  have hcl := cap_le (j := 0) (t := 24) (e := 5) hwt rfl rfl (by kernel_rfl) (by kernel_rfl) hcap
  obtain ⟨t, m, rfl, hr2, hcap2⟩ := bytes_open (e := 5) (by kernel_rfl) (by kernel_rfl) (by kernel_rfl) (hval 1 24 v1 rfl rfl) h1
  have hcl2 := cap_le (j := 1) (t := 24) (e := 5) hwt rfl rfl (by kernel_rfl) (by kernel_rfl) hcap2
  have hc : C5 s t (hpOf W) fun b h' => b = true ∧ Ext none' (hpOf W) h' :=
    decodes_walk (glob_of hX hsh) (laid_of hX) hr hr2 (by have := hr.n; have := hr.c; omega) (by have := hr2.n; have := hr2.c; omega) fun h' he => ⟨rfl, he⟩
  refine HCalls.mono hc ?_
  intro v h' hv
  obtain ⟨x, hx, rfl, he⟩ := VT.on_some hv
  cases hx
  exact ⟨rfl, he⟩

set_option maxRecDepth 100000 in
theorem tftpDecodes_lifted (os : Os) (started : os.Started) (H : Type) (enc : TypeId × Value → H) :
    ReturnsInHanded {} Tryd.checked os 5 .any (fun w args => (Rows.tftpDecodesSpec.pre enc Tryd.prog Tryd.f5 [] false w args ∧ laidMetH Tryd.prog laidL w) ∧ sizedMet enc Tryd.prog Tryd.f5 (OpenSpec.ofChange Rows.tftpDecodesSpec) false w args)
      (Rows.tftpDecodesSpec.post enc Tryd.prog Tryd.f5 false true false false) := by
  refine law_lift (C := Tryd.checked) (X := fun w => laidMetH Tryd.prog laidL w) (tb := 4) (fun _ _ hh h => h.of_heap hh) own_knob started (by kernel_rfl) Tryd.func5
    (ChangeSpec.witness_at (enc := enc) (C := Tryd.checked) (os := os) (X := fun w _ => laidMetH Tryd.prog laidL w) false (laidWorld os) #[.slice none 0 0, .slice none 0 0] 8 rfl (by kernel_rfl) (by kernel_rfl) (by kernel_rfl) (by kernel_rfl) (by kernel_rfl) (laid_met os _))
    laid_out ?_ (by kernel_rfl) (by kernel_rfl) rfl ?_ ?_
  · have : (Tryd.f5.params.toList.all fun t => Tryd.prog.readableRec t && decide (t < Tryd.prog.types.size)) = true := by kernel_rfl
    intro t ht
    have := List.all_eq_true.1 this t ht
    rw [Bool.and_eq_true, decide_eq_true_eq] at this
    exact this
  · intro ds hl
    have hl : ds.length = 2 := hl
    match ds, hl with
    | [a0, a1], _ => exact ⟨rfl, rfl, rfl⟩
  · intro W base args ds p hval hA hwt hX hsh
    exact tftpDecodes_rw hval hA hwt hX hsh

theorem tftpDecodes_row : Rows.TftpDecodesSaid :=
  OpenClaim.holds_of_wide 5 Tryd.f5 rfl rfl rfl rfl rfl rfl rfl ⟨rfl, rfl, rfl, rfl, rfl⟩ rfl rfl rfl rfl rfl (by kernel_rfl) Tryd.func5 (by kernel_rfl)
    (of_decide_eq_true (by kernel_rfl)) (by unfold Func.isWrapper; first | (rw [if_pos (by decide +kernel)]; kernel_rfl) | (rw [if_neg (by decide +kernel)]; exact ⟨rfl, rfl⟩))
    (fun os started H enc _ => tftpDecodes_lifted os started H enc)

/-- the statement -/
theorem tftpDecodes_card : Rows.TftpDecodesCardSaid :=
  Claim7.holds_tied_plain_at .later [] [.data, .data, .data, .sentinel, .sentinel] true (true, "57917abc3043b30326b73d3c41ae8754757e9b53f33011c05b618fb3e5176772") true
    tftpDecodes_row (fun _ h => by cases h) (by kernel_rfl) (fun _ h => by cases h) tftpDecodes_row_tie rfl ⟨rfl, rfl⟩ (by kernel_rfl) rfl
    (fun f fn hf hfn => by
      obtain rfl : f = 5 := Option.some.inj ((show Tryd.prog.funcNamed "slipway/slipwaylaw17.TftpDecodes" = some 5 by kernel_rfl).symm.trans hf) |>.symm
      obtain rfl : fn = Tryd.f5 := (Option.some.inj (Tryd.func5.symm.trans hfn)).symm
      have hall : (Tryd.f5.params.toList.all fun t => !(Tryd.prog.wantsStandIn t)) = true := by kernel_rfl
      refine ⟨by kernel_rfl, fun j t ht => ?_⟩
      have := List.all_eq_true.1 hall t (by rw [← Array.getElem?_toList] at ht; exact List.mem_of_getElem? ht)
      rw [Bool.not_eq_true'] at this
      exact this)
    (by kernel_rfl)
#print axioms tftpDecodes_card

end Go.Proofs.YtedklcmdjoojfaaDoor
