/-
  TftpBack: for any packet, any bytes, any server and client, the law's function slipwaylaw17.TftpBack returns true and leaves all that was there as it was. Condition: the laid variables.
-/
import Derived.Test.YtedklcmdjoojfaaDoorPf
import Derived.Test.YtedklcmdjoojfaaDoorPg
set_option linter.unusedSimpArgs false
set_option linter.unusedVariables false
namespace Go.Proofs.YtedklcmdjoojfaaDoor
open Go Go.Hw
open Go.ChangeShapes Go.WideShapes Go.ChangeAt Go.RowKit

theorem readL_len : ∀ (n : Nat) (acc : List Opt) (l : List UInt8), l.length ≤ n → acc.length + leftB acc ≤ 3 → (readL acc l).2.length ≤ 3 := by
  intro n
  induction n with
  | zero =>
    intro acc l hl ha
    have : l = [] := List.length_eq_zero_iff.1 (by omega)
    subst this
    rw [readL_nil]; show acc.length ≤ 3; omega
  | succ n ih =>
    intro acc l hl ha
    by_cases h0 : l = []
    · subst h0
      rw [readL_nil]; show acc.length ≤ 3; omega
    · cases h1 : cutL l with
      | none => rw [readL_cut1 h0 h1]; simp
      | some p =>
        obtain ⟨x, y⟩ := p
        have l1 := cutL_len h1
        cases h2 : cutL y with
        | none => rw [readL_cut2 h0 h1 h2]; simp
        | some q =>
          obtain ⟨u, v⟩ := q
          have l2 := cutL_len h2
          rw [readL_cut h0 h1 h2]
          split
          · rename_i hk
            split
            · simp
            · rename_i m hm
              split
              · rename_i hf
                refine ih _ _ (by omega) ?_
                have := left_step (n := (m : Int)) hk hf
                simp only [List.length_append, List.length_singleton]; omega
              · simp
          · exact ih _ _ (by omega) ha
theorem decF_len (op : Int) (r : List UInt8) : (decF op r).2.os.length ≤ 3 ∧ (decF op r).2.data.length ≤ 65464 := by
  have z : dec0.os.length ≤ 3 ∧ dec0.data.length ≤ 65464 := ⟨by simp [dec0], by simp [dec0]⟩
  have rl : ∀ l, (readL [] l).2.length ≤ 3 := fun l => readL_len _ [] l (Nat.le_refl _) (by rw [left_nil]; simp)
  unfold decF
  split
  · split
    · exact ⟨rl _, z.2⟩
    · exact z
  · split
    · exact ⟨rl _, z.2⟩
    · split
      · split <;> exact z
      · split
        · split
          · exact z
          · split
            · exact z
            · rename_i h; exact ⟨z.1, by show (r.drop 2).length ≤ 65464; omega⟩
        · split
          · split
            · exact z
            · split
              · exact z
              · split <;> exact z
          · exact z
theorem decL_len (l : List UInt8) : (decL l).2.os.length ≤ 3 ∧ (decL l).2.data.length ≤ 65464 := by
  rw [decL_eq]
  split
  · exact ⟨by simp [dec0], by simp [dec0]⟩
  · unfold decZ
    split
    · exact decF_len _ _
    · exact ⟨by simp [dec0], by simp [dec0]⟩

/-- a result, laid into a row of its own -/
theorem layB {X : List Asn} {d : Dec} {so sd : Sl} {h : Hp} {F : Nat → Hp → Prop} (hs : Sat X h) (hF : ∀ b h', Sat (X ++ [row b 26 (decC d so sd)]) h' → F b h') :
    nw h (.cells ⟨[.int .i64 0, .string (⟨⟨[]⟩⟩ : ByteArray), .string (⟨⟨[]⟩⟩ : ByteArray), .slice none 0 0, .int .i64 0, .slice none 0 0, .int .i64 0, .string (⟨⟨[]⟩⟩ : ByteArray)]⟩ 26) fun b h0 => st h0 (bk b) (.int .i64 d.op) fun h1 => st h1 ((bk b).add 1) (.string d.file) fun h2 => st h2 ((bk b).add 2) (.string d.mode) fun h3 => st h3 ((bk b).add 3) (.slice so.p so.n so.c) fun h4 => st h4 ((bk b).add 4) (.int .i64 d.block) fun h5 => st h5 ((bk b).add 5) (.slice sd.p sd.n sd.c) fun h6 =>
      st h6 ((bk b).add 6) (.int .i64 d.code) fun h7 => st h7 ((bk b).add 7) (.string d.text) fun h8 => F b h8 := by
  intro b e0
  have hs0 : Sat (X ++ []) h := by rw [List.append_nil]; exact hs
  have hs := hs0.new e0 (.cells ⟨[.int .i64 0, .string (⟨⟨[]⟩⟩ : ByteArray), .string (⟨⟨[]⟩⟩ : ByteArray), .slice none 0 0, .int .i64 0, .slice none 0 0, .int .i64 0, .string (⟨⟨[]⟩⟩ : ByteArray)]⟩ 26 (0, 0))
  revert hs
  generalize upd h b _ = h0
  intro hs
  simp only [add_bk]
  exact st8 (L := X) (M := []) (cs := zeroC) rfl hs fun h' hs' => hF b h' hs'
/-- a packet's row, read -/
theorem ldB {X : List Asn} {j b : Nat} {d : Dec} {so sd : Sl} {hh : Hp} {F : Int → ByteArray → ByteArray → Sl → Int → Sl → Int → ByteArray → Prop} (g : Sat ([] ++ X) hh) (hj : X[j]? = some (row b 26 (decC d so sd))) (hF : F d.op d.file d.mode so d.block sd d.code d.text) :
    xI .i64 (cell hh (bk b)) fun n0 => xS (cell hh ⟨b, 1, none⟩) fun s2 => xS (cell hh ⟨b, 2, none⟩) fun s3 => xL (cell hh ⟨b, 3, none⟩) fun s4 => xI .i64 (cell hh ⟨b, 4, none⟩) fun n1 => xL (cell hh ⟨b, 5, none⟩) fun s5 => xI .i64 (cell hh ⟨b, 6, none⟩) fun n2 => xS (cell hh ⟨b, 7, none⟩) fun s6 => F n0 s2 s3 s4 n1 s5 n2 s6 := by
  refine g.lI j hj rfl ?_
  refine g.lS j hj rfl ?_
  refine g.lS j hj rfl ?_
  refine g.lL j hj rfl ?_
  refine g.lI j hj rfl ?_
  refine g.lL j hj rfl ?_
  refine g.lI j hj rfl ?_
  refine g.lS j hj rfl ?_
  exact hF

theorem norm_small {d : Dec} (c1 : chkD d = 0) (c2 : normD d = d) : d.text.size ≤ 9223372036854775806 ∧ d.file.size ≤ 9223372036854775806 := by
  have z : dec0.text.size ≤ 9223372036854775806 ∧ dec0.file.size ≤ 9223372036854775806 := ⟨by decide, by decide⟩
  have hf := congrArg Dec.file c2
  have ht := congrArg Dec.text c2
  unfold normD at hf ht
  rcases check0 c1 with h | h | h | h | h
  · rw [if_pos h.1] at ht
    exact ⟨by rw [← ht]; exact z.1, by omega⟩
  · rw [if_neg (by omega), if_pos h.1] at ht hf
    exact ⟨by rw [← ht]; exact z.1, by rw [← hf]; exact z.2⟩
  · rw [if_neg (by omega), if_neg (by omega), if_neg (by omega), if_pos h.1] at ht hf
    exact ⟨by rw [← ht]; exact z.1, by rw [← hf]; exact z.2⟩
  · rw [if_neg (by omega), if_neg (by omega), if_pos h.1] at ht hf
    exact ⟨by rw [← ht]; exact z.1, by rw [← hf]; exact z.2⟩
  · rw [if_neg (by omega), if_neg (by omega), if_neg (by omega), if_neg (by omega), if_pos h.1] at hf
    exact ⟨by omega, by rw [← hf]; exact z.2⟩

/-- the last part: a server and a client -/
theorem back_j3 {d : Dec} {so sd : Sl} {b0 b1 : Nat} {bl wi si mo : Int} {nm : ByteArray} {h hc : Hp} {K : Bool → Hp → Prop} (Gl : Glob h) (H : RdO h so d.os) (hl : d.os.length ≤ 5864062014635)
    (hs : Sat ([] ++ [Hw.was h, row b0 26 (decC d so sd), row b1 46 [.int .i64 bl, .int .i64 wi, .int .i64 si, .int .i64 mo, .string nm]]) hc) (hK : ∀ h', Ext none' h h' → K true h') : N7_j3 (some (bk b0)) (some (bk b1)) hc K := by
  unfold N7_j3
  have wasOf : ∀ {X : List Asn} {h' : Hp}, Sat (Hw.was h :: X) h' → Ext none' h h' := fun g => Sat.was (L := []) g 0 rfl
  simp only [nn_some', add_bk]
  refine hs.lI 2 rfl rfl ?_
  refine hs.lL 1 rfl rfl ?_
  refine hs.lI 2 rfl rfl ?_
  refine hs.lI 2 rfl rfl ?_
  have hgo := ag_good bl wi (mx 0 si) d.os
  have hal := ag_len bl wi (mx 0 si) d.os
  have hck : ∀ (f m t : ByteArray) (b c : Int) (n : Nat), checkV 6 f m (agO bl wi (mx 0 si) d.os).2.2 b n c t = 0 := fun f m t b c n => check_agreed
  have hac : acO d.os (agO bl wi (mx 0 si) d.os).2.2 (mx (mx 0 si) mo) = ((agO bl wi (mx 0 si) d.os).1, (agO bl wi (mx 0 si) d.os).2.1, 0) := by
    refine accept_agreed ?_
    have := (mx_ge (mx 0 si) mo).1
    have := (mx_ge 0 si).1
    unfold mx at *
    split <;> omega
  refine c_agree (H.ext (wasOf hs)) hl fun s1 h1 no => ?_
  have hs := hs.addNew no
  have hs : Sat ([] ++ [Hw.was h, row b0 26 (decC d so sd), row b1 46 [.int .i64 bl, .int .i64 wi, .int .i64 si, .int .i64 mo, .string nm], Hw.own 56 2 s1 ((agO bl wi (mx 0 si) d.os).2.2.flatMap oc)]) h1 := hs
  refine hs.lL 1 rfl rfl ?_
  refine hs.lI 2 rfl rfl ?_
  refine c_accept (H.ext (wasOf hs)) (rdo_own (hs.own 3 rfl)) hl (by omega) fun h2 e2 => ?_
  have hs := hs.ext e2
  rw [hac]
  refine c_encode (Gl.ext (wasOf hs)) (rdo_own (hs.own 3 rfl)) RdB.nil (by omega) (by decide) (by decide) fun h3 s3 no3 => ?_
  have hs := hs.addNew no3
  rw [hck]
  refine c_want (rdo_own (hs.own 3 rfl)) (by omega) fun h4 e4 => ?_
  have hs := hs.ext e4
  have hend := hK h4 (wasOf hs)
  have hb := hgo.blk
  have hbb := hgo.bb
  have hww := hgo.ww
  unfold blkB at hb
  simp only []
  have fin : N7_j4 (agO bl wi (mx 0 si) d.os).1 (agO bl wi (mx 0 si) d.os).2.1 (agO bl wi (mx 0 si) d.os).1 (agO bl wi (mx 0 si) d.os).2.1 0 0 h4 K := by
    unfold N7_j4
    simp only [beq_self_eq_true, cond_true]
    rw [show decide ((agO bl wi (mx 0 si) d.os).1 ≤ 65464) = true from decide_eq_true hbb, cond_true, show decide ((agO bl wi (mx 0 si) d.os).2.1 ≥ 1) = true from decide_eq_true hww]
    exact hend
  rcases hb with hb | ⟨hb, h5⟩
  · rw [hb]
    simp only [bne_self_eq_false, cond_true, cond_false, Bool.not_true]
    exact fin
  · rw [hb]
    simp only [cond_false, Bool.not_false, cond_true]
    have : ((agO bl wi (mx 0 si) d.os).1 != 512) = false := by rw [h5]; rfl
    rw [this, cond_false]
    exact fin

/-- the middle part: any bytes -/
theorem back_j2 {d : Dec} {so sd t : Sl} {m : List UInt8} {b0 b1 : Nat} {bl wi si mo : Int} {nm : ByteArray} {h hc : Hp} {K : Bool → Hp → Prop} (Gl : Glob h) (H : RdO h so d.os) (hl : d.os.length ≤ 5864062014635) (Hm : RdB h t m) (hm : m.length ≤ 140737488351232)
    (hs : Sat ([] ++ [Hw.was h, row b0 26 (decC d so sd), row b1 46 [.int .i64 bl, .int .i64 wi, .int .i64 si, .int .i64 mo, .string nm]]) hc) (hK : ∀ h', Ext none' h h' → K true h') : N7_j2 t (some (bk b0)) (some (bk b1)) hc K := by
  unfold N7_j2
  have wasOf : ∀ {X : List Asn} {h' : Hp}, Sat (Hw.was h :: X) h' → Ext none' h h' := fun g => Sat.was (L := []) g 0 rfl
  have nil : ∀ {X : List Asn} {h' : Hp}, Sat X h' → Sat (X ++ []) h' := fun g => by rw [List.append_nil]; exact g
  have hs' : Sat [Hw.was h, row b0 26 (decC d so sd), row b1 46 [.int .i64 bl, .int .i64 wi, .int .i64 si, .int .i64 mo, .string nm]] hc := hs
  refine c_decode (nil hs') (fun h' g => Hm.ext (wasOf g)) (fun h' g => Gl.ext (wasOf g)) (by omega) ?_
  intro so1 sd1 h1 hs1
  refine layB hs1 fun b2 h2 hs2 => ?_
  have b2l := @back2 m
  obtain ⟨n1, n2⟩ := decL_len m
  generalize decL m = D1 at hs2 b2l n1 n2 ⊢
  obtain ⟨e1, D1⟩ := D1
  simp only at hs2 b2l n1 n2 ⊢
  have hs2 : Sat ([] ++ [Hw.was h, row b0 26 (decC d so sd), row b1 46 [.int .i64 bl, .int .i64 wi, .int .i64 si, .int .i64 mo, .string nm], Hw.own 56 2 so1 (D1.os.flatMap oc), Hw.own 5 1 sd1 (bc D1.data), row b2 26 (decC D1 so1 sd1)]) h2 := by simpa using hs2
  have last : ∀ {X : List Asn} {h' : Hp}, Sat ([] ++ (Hw.was h :: row b0 26 (decC d so sd) :: row b1 46 [.int .i64 bl, .int .i64 wi, .int .i64 si, .int .i64 mo, .string nm] :: X)) h' → N7_j3 (some (bk b0)) (some (bk b1)) h' K := fun {X h'} g =>
    back_j3 (nm := nm) Gl H hl (Sat.left (L := [Hw.was h, row b0 26 (decC d so sd), row b1 46 [.int .i64 bl, .int .i64 wi, .int .i64 si, .int .i64 mo, .string nm]]) (M := X) g) hK
  cases he : (e1 == 0) with
  | false => rw [cond_false]; exact last hs2
  | true =>
  rw [cond_true]
  have he : e1 = 0 := eq_of_beq he
  obtain ⟨c1, c2⟩ := b2l he
  have bk1 := back1 c1
  rw [c2] at bk1
  simp only [add_bk]
  refine ldB hs2 (j := 5) rfl ?_
  have hts := norm_small c1 c2
  refine c_encode (Gl.ext (wasOf hs2)) (rdo_own (hs2.own 3 rfl)) (hs2.own 4 rfl).rdb (by omega) hts.2 hts.1 fun h3 s3 no3 => ?_
  rw [show checkV D1.op D1.file D1.mode D1.os D1.block D1.data.length D1.code D1.text = 0 from c1]
  have hs3 := hs2.addNew no3
  have hs3 : Sat [Hw.was h, row b0 26 (decC d so sd), row b1 46 [.int .i64 bl, .int .i64 wi, .int .i64 si, .int .i64 mo, .string nm], Hw.own 56 2 so1 (D1.os.flatMap oc), Hw.own 5 1 sd1 (bc D1.data), row b2 26 (decC D1 so1 sd1), Hw.own 5 1 s3 (bc (encD D1))] h3 := hs3
  have hel : (encD D1).length ≤ 70000 := encB_len _ _ _ _ _ _ _ _
  refine c_decode (nil hs3) (fun h' g => (Sat.own (L := []) g 6 rfl).rdb) (fun h' g => Gl.ext (wasOf g)) (by omega) ?_
  rw [bk1]
  intro so2 sd2 h4 hs4
  refine layB hs4 fun b3 h5 hs5 => ?_
  have hs5 : Sat ([] ++ [Hw.was h, row b0 26 (decC d so sd), row b1 46 [.int .i64 bl, .int .i64 wi, .int .i64 si, .int .i64 mo, .string nm], Hw.own 56 2 so1 (D1.os.flatMap oc), Hw.own 5 1 sd1 (bc D1.data), row b2 26 (decC D1 so1 sd1), Hw.own 5 1 s3 (bc (encD D1)), Hw.own 56 2 so2 (D1.os.flatMap oc), Hw.own 5 1 sd2 (bc D1.data), row b3 26 (decC D1 so2 sd2)]) h5 := by simpa using hs5
  refine ldB hs5 (j := 9) rfl ?_
  refine ldB hs5 (j := 5) rfl ?_
  refine c_Same (nil hs5) (fun h' g => ⟨⟨rdo_own (Sat.own (L := []) g 7 rfl), (Sat.own (L := []) g 8 rfl).rdb⟩, rdo_own (Sat.own (L := []) g 3 rfl), (Sat.own (L := []) g 4 rfl).rdb⟩) (by omega) ?_
  intro h6 hs6
  simp only [Bool.not_true, cond_false, bne_self_eq_false]
  exact last hs6

/-- two lists of choices compared: true if they are alike -/
theorem c_SameA {a b : Sl} {os rs : List Opt} {h : Hp} {K : Bool → Hp → Prop} (A : RdO h a os) (B : RdO h b rs) (hl : os.length ≤ 6000000000000) (hK : ∀ r : Bool, (os = rs → r = true) → K r h) : C27 a b h K := by
  apply S27; unfold N27 N27_l0
  have an := A.n
  have bn := B.n
  cases e : (((a.n : Nat) : Int) != ((b.n : Nat) : Int)) with
  | true =>
    rw [cond_true]
    refine hK false fun h0 => ?_
    subst h0
    rw [an, bn] at e; simp at e
  | false =>
  rw [cond_false]
  have el : os.length = rs.length := by
    have : ((a.n : Nat) : Int) = ((b.n : Nat) : Int) := by simpa using e
    omega
  refine loopP_inv (fun (x : Int) hc => hc = h ∧ ∃ i : Nat, x = i ∧ i ≤ os.length) (fun x _ => os.length - x.toNat) ?_ ⟨rfl, 0, rfl, Nat.zero_le _⟩
  rintro x hc ⟨rfl, i, rfl, hi⟩
  unfold N27_l0_B N27_l0_b
  dsimp only
  by_cases hlt : i < os.length
  · have : decide ((i : Int) < ((a.n : Nat) : Int)) = true := decide_eq_true (by omega)
    rw [this, cond_true]
    refine A.at rfl hlt ?_
    intro a0 _ hs hv
    rw [hs, xS_some, hv, xI_some]
    refine B.at rfl (by omega) ?_
    intro a1 _ hs1 hv1
    rw [hs1, xS_some, hv1, xI_some]
    cases eq : (!((os[i].1 == (rs[i]'(by omega)).1) && ((os[i].2 == (rs[i]'(by omega)).2) && true))) with
    | true =>
      rw [cond_true]
      refine hK false fun h0 => ?_
      subst h0
      simp [ba_self] at eq
    | false =>
      rw [cond_false, nat_succ64 (by omega)]
      exact ⟨⟨rfl, i + 1, rfl, hlt⟩, by simp only [Int.toNat_natCast]; omega⟩
  · have : decide ((i : Int) < ((a.n : Nat) : Int)) = false := decide_eq_false (by omega)
    rw [this, cond_false]
    exact hK true fun _ => rfl

theorem norm_facts {d : Dec} (h : chkD d = 0) : (d.op = 3 → (normD d).block = d.block ∧ (normD d).data = d.data) ∧ (d.op = 4 → (normD d).block = d.block) ∧ (d.op = 5 → (normD d).code = d.code ∧ (normD d).text = d.text) ∧ (d.op = 1 → (normD d).file = d.file ∧ (normD d).os = d.os) ∧ (d.op = 6 → (normD d).os = d.os) := by
  unfold normD
  refine ⟨fun e => ?_, fun e => ?_, fun e => ?_, fun e => ?_, fun e => ?_⟩ <;> rw [e] <;> first | exact ⟨rfl, rfl⟩ | rfl

theorem back_j0 {d D : Dec} {so sd so1 sd1 t : Sl} {A B : Asn} {m : List UInt8} {b0 b1 b3 : Nat} {bl wi si mo : Int} {nm : ByteArray} {h hc : Hp} {K : Bool → Hp → Prop} (Gl : Glob h) (H : RdO h so d.os) (hl : d.os.length ≤ 5864062014635) (Hm : RdB h t m) (hm : m.length ≤ 140737488351232)
    (hs : Sat ([] ++ [Hw.was h, row b0 26 (decC d so sd), row b1 46 [.int .i64 bl, .int .i64 wi, .int .i64 si, .int .i64 mo, .string nm], A, Hw.own 56 2 so1 (D.os.flatMap oc), B, row b3 26 (decC D so1 sd1)]) hc)
    (F5 : d.op = 5 → D.code = d.code ∧ D.text = d.text) (F1 : d.op = 1 → D.file = d.file ∧ D.os = d.os) (F6 : d.op = 6 → D.os = d.os) (hDl : D.os.length ≤ 6000000000000)
    (hK : ∀ h', Ext none' h h' → K true h') : N7_j0 t (some (bk b0)) (some (bk b1)) (some (bk b3)) hc (fun h1 => N7_j2 t (some (bk b0)) (some (bk b1)) h1 K) K := by
  have wasOf : ∀ {X : List Asn} {h' : Hp}, Sat (Hw.was h :: X) h' → Ext none' h h' := fun g => Sat.was (L := []) g 0 rfl
  have last : N7_j2 t (some (bk b0)) (some (bk b1)) hc K := back_j2 (nm := nm) Gl H hl Hm hm (Sat.left (L := [Hw.was h, row b0 26 (decC d so sd), row b1 46 [.int .i64 bl, .int .i64 wi, .int .i64 si, .int .i64 mo, .string nm]]) (M := [_, _, _, _]) hs) hK
  have j1 : N7_j1 t (some (bk b0)) (some (bk b1)) (some (bk b3)) hc (fun h1 => N7_j2 t (some (bk b0)) (some (bk b1)) h1 K) K := by
    unfold N7_j1
    simp only [nn_some', add_bk]
    refine hs.lL 6 rfl rfl ?_
    refine hs.lL 1 rfl rfl ?_
    refine c_SameA (rdo_own (hs.own 4 rfl)) (H.ext (wasOf hs)) hDl fun r hr => ?_
    refine hs.lI 1 rfl rfl ?_
    cases e1 : (d.op == 1) with
    | true =>
      rw [hr (F1 (eq_of_beq e1)).2]
      simp only [cond_true, Bool.not_true, cond_false]
      exact last
    | false =>
      rw [cond_false]
      refine hs.lI 1 rfl rfl ?_
      cases e6 : (d.op == 6) with
      | true =>
        rw [hr (F6 (eq_of_beq e6))]
        simp only [cond_true, Bool.not_true, cond_false]
        exact last
      | false => rw [cond_false]; exact last
  unfold N7_j0
  simp only [nn_some', add_bk]
  refine hs.lI 1 rfl rfl ?_
  cases e5 : (d.op == 5) with
  | true =>
    obtain ⟨f1, f2⟩ := F5 (eq_of_beq e5)
    rw [cond_true]
    refine hs.lI 6 rfl rfl ?_
    refine hs.lI 1 rfl rfl ?_
    rw [f1, bne_self_eq_false, cond_false]
    refine hs.lS 6 rfl rfl ?_
    refine hs.lS 1 rfl rfl ?_
    rw [f2, beq_self_eq_true, Bool.not_true, cond_false]
    refine hs.lI 1 rfl rfl ?_
    have : (d.op == 1) = false := by rw [eq_of_beq e5]; rfl
    rw [this, cond_false]
    exact j1
  | false =>
    rw [cond_false]
    refine hs.lI 1 rfl rfl ?_
    cases e1 : (d.op == 1) with
    | true =>
      rw [cond_true]
      refine hs.lS 6 rfl rfl ?_
      refine hs.lS 1 rfl rfl ?_
      rw [(F1 (eq_of_beq e1)).1, beq_self_eq_true, Bool.not_true, cond_false]
      exact j1
    | false => rw [cond_false]; exact j1

set_option maxHeartbeats 2000000 in
theorem back_walk {d : Dec} {so sd t : Sl} {m : List UInt8} {bl wi si mo : Int} {nm : ByteArray} {h : Hp} {K : Bool → Hp → Prop} (Gl : Glob h) (Ld : Laid h) (H : RdO h so d.os) (Hd : RdB h sd d.data) (hl : d.os.length ≤ 5864062014635) (hdl : d.data.length ≤ 140737488351232) (hf : d.file.size ≤ 140737488351232) (ht : d.text.size ≤ 140737488351232)
    (Hm : RdB h t m) (hm : m.length ≤ 140737488351232) (hK : ∀ h', Ext none' h h' → K true h') : C7 d.op d.file d.mode so d.block sd d.code d.text t bl wi si mo nm h K := by
  apply S7; unfold N7
  have wasOf : ∀ {X : List Asn} {h' : Hp}, Sat (Hw.was h :: X) h' → Ext none' h h' := fun g => Sat.was (L := []) g 0 rfl
  have nil : ∀ {X : List Asn} {h' : Hp}, Sat X h' → Sat (X ++ []) h' := fun g => by rw [List.append_nil]; exact g
  intro b0 e0
  have hs : Sat ([] ++ [Hw.was h, row b0 26 (decC d so sd)]) _ := Sat.start.new e0 _
  revert hs
  show Sat _ (upd h b0 (.cells ⟨[.int .i64 d.op, .string d.file, .string d.mode, .slice so.p so.n so.c, .int .i64 d.block, .slice sd.p sd.n sd.c, .int .i64 d.code, .string d.text]⟩ 26 (0, 0))) → _
  generalize upd h b0 _ = h0
  intro hs b1 e1
  have hs : Sat ([] ++ [Hw.was h, row b0 26 (decC d so sd), row b1 46 [.int .i64 bl, .int .i64 wi, .int .i64 si, .int .i64 mo, .string nm]]) _ := hs.new e1 _
  revert hs
  generalize upd h0 b1 _ = h1
  intro hs
  refine c_live (Ld.ext (wasOf hs)) fun h2 x2 => ?_
  rw [Bool.not_true, cond_false]
  have hs := hs.ext x2
  simp only [add_bk]
  refine ldB hs (j := 1) rfl ?_
  refine c_encode (Gl.ext (wasOf hs)) (H.ext (wasOf hs)) (Hd.ext (wasOf hs)) (by omega) (by omega) (by omega) fun h3 s5 no3 => ?_
  have hs := hs.addNew no3
  show bif (chkD d == 0) then _ else _
  cases he : (chkD d == 0) with
  | false =>
    rw [cond_false]
    exact back_j2 (nm := nm) Gl H hl Hm hm (Sat.left (L := [Hw.was h, row b0 26 (decC d so sd), row b1 46 [.int .i64 bl, .int .i64 wi, .int .i64 si, .int .i64 mo, .string nm]]) (M := [_]) hs) hK
  | true =>
  have he : chkD d = 0 := eq_of_beq he
  rw [cond_true]
  have bk1 := back1 he
  obtain ⟨k1, k2, k3⟩ := norm_op he
  obtain ⟨F3, F4, F5, F1, F6⟩ := norm_facts he
  have hel : (encD d).length ≤ 70000 := encB_len _ _ _ _ _ _ _ _
  have hs : Sat [Hw.was h, row b0 26 (decC d so sd), row b1 46 [.int .i64 bl, .int .i64 wi, .int .i64 si, .int .i64 mo, .string nm], Hw.own 5 1 s5 (bc (encD d))] h3 := hs
  refine c_decode (nil hs) (fun h' g => (Sat.own (L := []) g 3 rfl).rdb) (fun h' g => Gl.ext (wasOf g)) (by omega) ?_
  have dl := decL_len (encD d)
  rw [bk1] at dl ⊢
  intro so1 sd1 h4 hs4
  refine layB hs4 fun b3 h5 hs5 => ?_
  obtain ⟨n1, n2⟩ := dl
  simp only at n1 n2
  have nt : (normD d).text.size ≤ 9223372036854775806 ∧ (normD d).file.size ≤ 9223372036854775806 := by
    have z : dec0.text.size ≤ 9223372036854775806 ∧ dec0.file.size ≤ 9223372036854775806 := ⟨by decide, by decide⟩
    rcases check0 he with h | h | h | h | h
    · rw [(F1 h.1).1]; refine ⟨?_, by omega⟩
      unfold normD; rw [if_pos h.1]; exact z.1
    · unfold normD; rw [if_neg (by omega), if_pos h.1]; exact z
    · unfold normD; rw [if_neg (by omega), if_neg (by omega), if_neg (by omega), if_pos h.1]; exact z
    · unfold normD; rw [if_neg (by omega), if_neg (by omega), if_pos h.1]; exact z
    · rw [(F5 h.1).2]; refine ⟨by omega, ?_⟩
      unfold normD; rw [if_neg (by omega), if_neg (by omega), if_neg (by omega), if_neg (by omega), if_pos h.1]; exact z.2
  generalize normD d = D at hs5 k1 k2 k3 F3 F4 F5 F1 F6 n1 n2 nt ⊢
  have hs5 : Sat ([] ++ [Hw.was h, row b0 26 (decC d so sd), row b1 46 [.int .i64 bl, .int .i64 wi, .int .i64 si, .int .i64 mo, .string nm], Hw.own 5 1 s5 (bc (encD d)), Hw.own 56 2 so1 (D.os.flatMap oc), Hw.own 5 1 sd1 (bc D.data), row b3 26 (decC D so1 sd1)]) h5 := by simpa using hs5
  refine ldB hs5 (j := 6) rfl ?_
  refine c_encode (Gl.ext (wasOf hs5)) (rdo_own (hs5.own 4 rfl)) (hs5.own 5 rfl).rdb (by omega) nt.2 nt.1 fun h6 s16 no6 => ?_
  rw [show checkV D.op D.file D.mode D.os D.block D.data.length D.code D.text = 0 from k2]
  rw [show encB D.op D.file D.mode D.os D.block D.data D.code D.text = encD d from k3] at no6
  have hs6 := hs5.addNew no6
  have hs6 : Sat ([] ++ [Hw.was h, row b0 26 (decC d so sd), row b1 46 [.int .i64 bl, .int .i64 wi, .int .i64 si, .int .i64 mo, .string nm], Hw.own 5 1 s5 (bc (encD d)), Hw.own 56 2 so1 (D.os.flatMap oc), Hw.own 5 1 sd1 (bc D.data), row b3 26 (decC D so1 sd1), Hw.own 5 1 s16 (bc (encD d))]) h6 := hs6
  simp only [bne_self_eq_false, cond_false]
  refine hs6.lI 6 rfl rfl ?_
  refine hs6.lI 1 rfl rfl ?_
  rw [k1, bne_self_eq_false, cond_false]
  refine (hs6.own 7 rfl).rdb.b2s ?_
  refine (hs6.own 3 rfl).rdb.b2s ?_
  rw [beq_self_eq_true, Bool.not_true, cond_false]
  have j0 := back_j0 (t := t) (nm := nm) (K := K) Gl H hl Hm hm (sat_letgo (L := []) (M := [_, _, _, _, _, _, _]) hs6) F5 F1 F6 (by omega) hK
  refine hs6.lI 1 rfl rfl ?_
  cases e3 : (d.op == 3) with
  | true =>
    obtain ⟨f1, f2⟩ := F3 (eq_of_beq e3)
    rw [cond_true]
    refine hs6.lI 6 rfl rfl ?_
    refine hs6.lI 1 rfl rfl ?_
    rw [f1, bne_self_eq_false, cond_false]
    refine hs6.lL 6 rfl rfl ?_
    refine RdB.b2s (s := sd1) (hs6.own 5 rfl).rdb ?_
    refine hs6.lL 1 rfl rfl ?_
    refine RdB.b2s (s := sd) (Hd.ext (wasOf hs6)) ?_
    rw [f2, beq_self_eq_true, Bool.not_true, cond_false]
    refine hs6.lI 1 rfl rfl ?_
    have : (d.op == 4) = false := by rw [eq_of_beq e3]; rfl
    rw [this, cond_false]
    exact j0
  | false =>
    rw [cond_false]
    refine hs6.lI 1 rfl rfl ?_
    cases e4 : (d.op == 4) with
    | true =>
      rw [cond_true]
      refine hs6.lI 6 rfl rfl ?_
      refine hs6.lI 1 rfl rfl ?_
      rw [F4 (eq_of_beq e4), bne_self_eq_false, cond_false]
      exact j0
    | false => rw [cond_false]; exact j0

set_option maxRecDepth 100000 in
theorem tftpBack_rw {H : Type} {enc : TypeId × Value → H} {W : World} {base : Nat} {args : Array Value} {ds : List (DataW H)} {p : List MemPlace}
    (hval : ∀ (j : Nat) t v, Tryd.f7.params[j]? = some t → args[j]? = some v → Value.okWide Tryd.prog W .any base t v)
    (hA : DataW.TrodAll enc Tryd.prog W 0 (fun _ => true) true Tryd.f7.params.toList args.toList ds p)
    (hwt : (DataW.weightsEach Tryd.prog Tryd.f7.params.toList ds).all (· ≤ reachBytes) = true)
    (hX : laidMetH Tryd.prog laidL W) (hsh : W.ShapedOpen Tryd.prog) :
    HCalls Tryd.prog 7 args (hpOf W) fun v h' => v = .bool true ∧ Ext none' (hpOf W) h' := by
  have ep : Tryd.f7.params = #[26, 24, 46] := by kernel_rfl
  rw [ep] at hA hval hwt
  obtain ⟨v0, r0, d0, s0, p0, q0, ea, rfl, rfl, h0, hA⟩ := trodAll_cons hA
  obtain ⟨v1, r1, d1, s1, p1, q1, rfl, rfl, rfl, h1, hA⟩ := trodAll_cons hA
  obtain ⟨v2, r2, d2, s2, p2, q2, rfl, rfl, rfl, h2, hA⟩ := trodAll_cons hA
  obtain ⟨rfl, rfl, rfl⟩ := trodAll_nil hA
  have ea : args = #[v0, v1, v2] := Array.toList_inj.1 ea
  subst ea
  have hw0 := weighs (j := 0) hwt rfl rfl
  obtain ⟨op, file, mode, x3, block, x5, code, text, os, data, rfl, ho, hd, _, _, ⟨k0, k1, k2, k3⟩, _⟩ := packet_open hw0 (hval 0 26 v0 rfl rfl) h0
  obtain ⟨s, l, rfl, hr, hcap⟩ := bytes_open (e := 5) (by kernel_rfl) (by kernel_rfl) (by kernel_rfl) (hval 1 24 v1 rfl rfl) h1
  have hcl := cap_le (j := 1) (t := 24) (e := 5) hwt rfl rfl (by kernel_rfl) (by kernel_rfl) hcap
  obtain ⟨bl, wi, si, mo, nm, rfl⟩ := offer_open (hval 2 46 v2 rfl rfl) h2
  have hc : C7 op file mode x3 block x5 code text s bl wi si mo nm (hpOf W) fun b h' => b = true ∧ Ext none' (hpOf W) h' :=
    back_walk (d := ⟨op, file, mode, os, block, data, code, text⟩) (glob_of hX hsh) (laid_of hX) ho hd k0 k1 k2 k3 hr (by have := hr.n; have := hr.c; omega) fun h' he => ⟨rfl, he⟩
  refine HCalls.mono hc ?_
  intro v h' hv
  obtain ⟨x, hx, rfl, he⟩ := VT.on_some hv
  cases hx
  exact ⟨rfl, he⟩

set_option maxRecDepth 100000 in
theorem tftpBack_lifted (os : Os) (started : os.Started) (H : Type) (enc : TypeId × Value → H) :
    ReturnsInHanded {} Tryd.checked os 7 .any (fun w args => (Rows.tftpBackSpec.pre enc Tryd.prog Tryd.f7 [] false w args ∧ laidMetH Tryd.prog laidL w) ∧ sizedMet enc Tryd.prog Tryd.f7 (OpenSpec.ofChange Rows.tftpBackSpec) false w args)
      (Rows.tftpBackSpec.post enc Tryd.prog Tryd.f7 false true false false) := by
  refine law_lift (C := Tryd.checked) (X := fun w => laidMetH Tryd.prog laidL w) (tb := 4) (fun _ _ hh h => h.of_heap hh) own_knob started (by kernel_rfl) Tryd.func7
    (ChangeSpec.witness_at (enc := enc) (C := Tryd.checked) (os := os) (X := fun w _ => laidMetH Tryd.prog laidL w) false (laidWorld os) #[.agg #[.int .i64 0, .string ⟨#[]⟩, .string ⟨#[]⟩, .slice none 0 0, .int .i64 0, .slice none 0 0, .int .i64 0, .string ⟨#[]⟩], .slice none 0 0, .agg #[.int .i64 0, .int .i64 0, .int .i64 0, .int .i64 0, .string ⟨#[]⟩]] 8 rfl (by kernel_rfl) (by kernel_rfl) (by kernel_rfl) (by kernel_rfl) (by kernel_rfl) (laid_met os _))
    laid_out ?_ (by kernel_rfl) (by kernel_rfl) rfl ?_ ?_
  · have : (Tryd.f7.params.toList.all fun t => Tryd.prog.readableRec t && decide (t < Tryd.prog.types.size)) = true := by kernel_rfl
    intro t ht
    have := List.all_eq_true.1 this t ht
    rw [Bool.and_eq_true, decide_eq_true_eq] at this
    exact this
  · intro ds hl
    have hl : ds.length = 3 := hl
    match ds, hl with
    | [a0, a1, a2], _ => exact ⟨rfl, rfl, rfl⟩
  · intro W base args ds p hval hA hwt hX hsh
    exact tftpBack_rw hval hA hwt hX hsh

theorem tftpBack_row : Rows.TftpBackSaid :=
  OpenClaim.holds_of_wide 7 Tryd.f7 rfl rfl rfl rfl rfl rfl rfl ⟨rfl, rfl, rfl, rfl, rfl⟩ rfl rfl rfl rfl rfl (by kernel_rfl) Tryd.func7 (by kernel_rfl)
    (of_decide_eq_true (by kernel_rfl)) (by unfold Func.isWrapper; first | (rw [if_pos (by decide +kernel)]; kernel_rfl) | (rw [if_neg (by decide +kernel)]; exact ⟨rfl, rfl⟩))
    (fun os started H enc _ => tftpBack_lifted os started H enc)

/-- the statement -/
theorem tftpBack_card : Rows.TftpBackCardSaid :=
  Claim7.holds_tied_plain_at .later [] [.data, .data, .data, .sentinel, .sentinel] true (true, "57917abc3043b30326b73d3c41ae8754757e9b53f33011c05b618fb3e5176772") true
    tftpBack_row (fun _ h => by cases h) (by kernel_rfl) (fun _ h => by cases h) tftpBack_row_tie rfl ⟨rfl, rfl⟩ (by kernel_rfl) rfl
    (fun f fn hf hfn => by
      obtain rfl : f = 7 := Option.some.inj ((show Tryd.prog.funcNamed "slipway/slipwaylaw17.TftpBack" = some 7 by kernel_rfl).symm.trans hf) |>.symm
      obtain rfl : fn = Tryd.f7 := (Option.some.inj (Tryd.func7.symm.trans hfn)).symm
      have hall : (Tryd.f7.params.toList.all fun t => !(Tryd.prog.wantsStandIn t)) = true := by kernel_rfl
      refine ⟨by kernel_rfl, fun j t ht => ?_⟩
      have := List.all_eq_true.1 hall t (by rw [← Array.getElem?_toList] at ht; exact List.mem_of_getElem? ht)
      rw [Bool.not_eq_true'] at this
      exact this)
    (by kernel_rfl)
#print axioms tftpBack_card

end Go.Proofs.YtedklcmdjoojfaaDoor
