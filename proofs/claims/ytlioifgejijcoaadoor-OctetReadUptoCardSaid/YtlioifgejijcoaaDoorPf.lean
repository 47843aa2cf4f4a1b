/-
  Stations' addresses read: Uncolons, the program's and the document's; ones of a mask.
-/
import Derived.Test.YtlioifgejijcoaaDoorPe
import Derived.Test.YtlioifgejijcoaaDoorPd
import Derived.Test.YtlioifgejijcoaaDoorPc
import Derived.HandedShaped
import Derived.JoinedOf
import Derived.LaidSub
import Derived.Stop.LaidErr
import Derived.Lib.LaidTab
import Derived.Shelf.Vars
import Derived.SevenTiedAt
import Derived.Test.YtlioifgejijcoaaDoorTie
import Derived.Test.YtlioifgejijcoaaDoorCards
import Derived.OpenShut
import Derived.SizedLaws
import Derived.Deep.DeepHandedRow
import Derived.JoinedCond
set_option linter.unusedSimpArgs false
set_option linter.unusedVariables false
namespace Go.Proofs.YtlioifgejijcoaaDoor
open Go Go.Hw

theorem u8back (c : UInt8) : ((c.toNat : Int)).toNat.toUInt8 = c := by simp
def hexv (c : UInt8) : Int := Lib.indexByte hexd c
theorem hexv_ge (c : UInt8) : -1 ≤ hexv c := Lib.indexByte_ge hexd c
theorem hexv_some {c : UInt8} (h : 0 ≤ hexv c) : ∃ i : Nat, i < 16 ∧ hexv c = i ∧ hexd.getD i 0 = c := by
  obtain ⟨i, hi⟩ : ∃ i : Nat, hexv c = i := ⟨(hexv c).toNat, by omega⟩
  obtain ⟨h1, _⟩ := Lib.indexByte_some (show Lib.indexByte hexd c = i from hi)
  have hl := (List.getElem?_eq_some_iff.1 h1).1
  exact ⟨i, hl, hi, by rw [List.getD_eq_getElem?_getD, h1]; rfl⟩
theorem hexv_at : ∀ i : Fin 16, hexv (hexd.getD i.val 0) = i.val := by decide
theorem hexv_hi (b : UInt8) : hexv (hexd.getD (b.toNat / 16) 0) = ((b.toNat / 16 : Nat) : Int) := hexv_at ⟨b.toNat / 16, by have := b.toNat_lt; omega⟩
theorem hexv_lo (b : UInt8) : hexv (hexd.getD (b.toNat % 16) 0) = ((b.toNat % 16 : Nat) : Int) := hexv_at ⟨b.toNat % 16, by omega⟩
theorem hex_pair {a b : UInt8} {i j : Nat} (hi : i < 16) (hj : j < 16) (ha : hexd.getD i 0 = a) (hb : hexd.getD j 0 = b) : [a, b] = hexs (UInt8.ofNat (i * 16 + j)) ∧ (UInt8.ofNat (i * 16 + j)).toNat = i * 16 + j := by
  have h1 : (UInt8.ofNat (i * 16 + j)).toNat = i * 16 + j := by rw [UInt8.toNat_ofNat']; omega
  refine ⟨?_, h1⟩
  unfold hexs
  rw [h1, show (i * 16 + j) / 16 = i by omega, show (i * 16 + j) % 16 = j by omega, ha, hb]

theorem c_value {c : UInt8} {h : Hp} {K : Int → Hp → Prop} (hK : K (if hexv c < 0 then 16 else hexv c) h) : C52 c.toNat h K := by
  apply S52; unfold N52 N52_l0
  refine loopP_inv (fun (x : Int) hc => hc = h ∧ ∃ i : Nat, x = i ∧ i ≤ 16 ∧ ∀ j, j < i → hexd[j]? ≠ some c) (fun x _ => 16 - x.toNat) ?_ ⟨rfl, 0, rfl, by omega, by omega⟩
  rintro x hc ⟨rfl, i, rfl, hi, hno⟩
  unfold N52_l0_B N52_l0_b
  by_cases hlt : i < 16
  · have : decide ((i : Int) < 16) = true := decide_eq_true (by omega)
    rw [this, cond_true]
    have hl : i < hexd.length := hlt
    refine idx_str (l := hexd) rfl hl ?_
    rw [sbyte_at rfl hl]
    by_cases he : hexd[i] = c
    · have : ((hexd[i].toNat : Int) == (c.toNat : Int)) = true := by rw [he]; simp
      rw [this, cond_true]
      have hv : hexv c = i := by
        have hge := hexv_ge c
        by_cases hneg : hexv c = -1
        · exact absurd (by rw [List.getElem?_eq_getElem hl, he]) (Lib.indexByte_none (show Lib.indexByte hexd c = -1 from hneg) i)
        · obtain ⟨o, ho⟩ : ∃ o : Nat, hexv c = o := ⟨(hexv c).toNat, by omega⟩
          obtain ⟨h1, h2⟩ := Lib.indexByte_some (show Lib.indexByte hexd c = o from ho)
          by_cases q1 : o < i
          · exact absurd h1 (hno o q1)
          · by_cases q2 : i < o
            · exact absurd (by rw [List.getElem?_eq_getElem hl, he]) (h2 i q2)
            · rw [ho]; omega
      rw [if_neg (by omega), hv] at hK
      exact hK
    · have : ((hexd[i].toNat : Int) == (c.toNat : Int)) = false := by
        apply beq_false_of_ne
        intro e
        exact he (UInt8.toNat_inj.1 (by omega))
      rw [this, cond_false, nat_succ64 (by omega)]
      refine ⟨⟨rfl, i + 1, rfl, hlt, ?_⟩, by first | omega | (dsimp only; omega)⟩
      intro j hj
      by_cases e : j = i
      · subst e
        rw [List.getElem?_eq_getElem hl]
        intro q; exact he (Option.some.inj q)
      · exact hno j (by omega)
  · have : decide ((i : Int) < 16) = false := decide_eq_false (by omega)
    rw [this, cond_false]
    have : i = 16 := by omega
    subst this
    have hv : hexv c < 0 := by
      by_cases hp : 0 ≤ hexv c
      · obtain ⟨j, hj, _, hg⟩ := hexv_some hp
        refine absurd ?_ (hno j hj)
        have hjl : j < hexd.length := hj
        rw [List.getD_eq_getElem?_getD, List.getElem?_eq_getElem hjl] at hg
        rw [List.getElem?_eq_getElem hjl]; exact congrArg some hg
      · omega
    rw [if_pos hv] at hK
    exact hK

def IsCol (l : List UInt8) : Prop := ∃ m : List UInt8, m.length = 6 ∧ l = colons m
theorem six (l : List UInt8) (h : l.length = 6) : ∃ a b c d e f, l = [a, b, c, d, e, f] := by
  match l, h with
  | [a, b, c, d, e, f], _ => exact ⟨a, b, c, d, e, f, rfl⟩

/-- what was read is the answer -/
theorem mac_ret {L M : List Asn} {ba bb : Nat} {z : List Value} {c0 c1 c2 c3 c4 c5 : UInt8} {h : Hp} {K : Int → Int → Int → Int → Int → Int → Hp → Prop} (hs : Sat (L ++ M) h) (i j : Nat) (hi : M[i]? = some (row ba 49 z)) (hj : M[j]? = some (row bb 49 (bc [c0, c1, c2, c3, c4, c5]))) (hz : z.length = 6)
    (hK : ∀ h', Sat (L ++ M.set i (row ba 49 (bc [c0, c1, c2, c3, c4, c5]))) h' → K c0.toNat c1.toNat c2.toNat c3.toNat c4.toNat c5.toNat h') :
    xI .u8 (cell h (bk bb)) fun n0 => xI .u8 (cell h ((bk bb).add 1)) fun n1 => xI .u8 (cell h ((bk bb).add 2)) fun n2 => xI .u8 (cell h ((bk bb).add 3)) fun n3 => xI .u8 (cell h ((bk bb).add 4)) fun n4 => xI .u8 (cell h ((bk bb).add 5)) fun n5 =>
    st h (bk ba) (.int .u8 n0) fun h3 => st h3 ((bk ba).add 1) (.int .u8 n1) fun h4 => st h4 ((bk ba).add 2) (.int .u8 n2) fun h5 => st h5 ((bk ba).add 3) (.int .u8 n3) fun h6 => st h6 ((bk ba).add 4) (.int .u8 n4) fun h7 => st h7 ((bk ba).add 5) (.int .u8 n5) fun h8 =>
    xI .u8 (cell h8 (bk ba)) fun n6 => xI .u8 (cell h8 ((bk ba).add 1)) fun n7 => xI .u8 (cell h8 ((bk ba).add 2)) fun n8 => xI .u8 (cell h8 ((bk ba).add 3)) fun n9 => xI .u8 (cell h8 ((bk ba).add 4)) fun n10 => xI .u8 (cell h8 ((bk ba).add 5)) fun n11 => K n6 n7 n8 n9 n10 n11 h8 := by
  have hb := hs.blk j hj
  have hil := lt_of_get hi
  simp only [add_bk, hb.cell, bc_cons, bc_nil, List.getElem?_cons_zero, List.getElem?_cons_succ, xI_some]
  match z, hz with
  | [z0, z1, z2, z3, z4, z5], _ =>
  refine hs.st i hi (by simp) rfl ?_
  intro h1 hs
  refine hs.st i (by rw [List.getElem?_set_self hil]) (by simp) rfl ?_
  intro h2 hs
  rw [List.set_set] at hs
  refine hs.st i (by rw [List.getElem?_set_self hil]) (by simp) rfl ?_
  intro h3 hs
  rw [List.set_set] at hs
  refine hs.st i (by rw [List.getElem?_set_self hil]) (by simp) rfl ?_
  intro h4 hs
  rw [List.set_set] at hs
  refine hs.st i (by rw [List.getElem?_set_self hil]) (by simp) rfl ?_
  intro h5 hs
  rw [List.set_set] at hs
  refine hs.st i (by rw [List.getElem?_set_self hil]) (by simp) rfl ?_
  intro h6 hs
  rw [List.set_set] at hs
  have hb6 : Blk h6 ba 49 (bc [c0, c1, c2, c3, c4, c5]) := hs.blk i (by rw [List.getElem?_set_self hil]; rfl)
  simp only [hb6.cell, bc_cons, bc_nil, List.getElem?_cons_zero, List.getElem?_cons_succ, xI_some]
  exact hK h6 hs
/-- zeros are the answer -/
theorem mac_zero {L M : List Asn} {ba : Nat} {z : List Value} {h : Hp} {F : Hp → Prop} (hs : Sat (L ++ M) h) (i : Nat) (hi : M[i]? = some (row ba 49 z)) (hz : z.length = 6)
    (hK : ∀ h', Sat (L ++ M.set i (row ba 49 (bc [0, 0, 0, 0, 0, 0]))) h' → F h') :
    st h (bk ba) (.int .u8 0) fun h3 => st h3 ((bk ba).add 1) (.int .u8 0) fun h4 => st h4 ((bk ba).add 2) (.int .u8 0) fun h5 => st h5 ((bk ba).add 3) (.int .u8 0) fun h6 => st h6 ((bk ba).add 4) (.int .u8 0) fun h7 => st h7 ((bk ba).add 5) (.int .u8 0) fun h8 => F h8 := by
  have hil := lt_of_get hi
  simp only [add_bk]
  match z, hz with
  | [z0, z1, z2, z3, z4, z5], _ =>
  refine hs.st i hi (by simp) rfl ?_
  intro h1 hs
  refine hs.st i (by rw [List.getElem?_set_self hil]) (by simp) rfl ?_
  intro h2 hs
  rw [List.set_set] at hs
  refine hs.st i (by rw [List.getElem?_set_self hil]) (by simp) rfl ?_
  intro h3 hs
  rw [List.set_set] at hs
  refine hs.st i (by rw [List.getElem?_set_self hil]) (by simp) rfl ?_
  intro h4 hs
  rw [List.set_set] at hs
  refine hs.st i (by rw [List.getElem?_set_self hil]) (by simp) rfl ?_
  intro h5 hs
  rw [List.set_set] at hs
  refine hs.st i (by rw [List.getElem?_set_self hil]) (by simp) rfl ?_
  intro h6 hs
  rw [List.set_set] at hs
  exact hK h6 hs
theorem mac_read {h : Hp} {ba : Nat} {c0 c1 c2 c3 c4 c5 : UInt8} {K : Int → Int → Int → Int → Int → Int → Prop} (hb : Blk h ba 49 (bc [c0, c1, c2, c3, c4, c5])) (hK : K c0.toNat c1.toNat c2.toNat c3.toNat c4.toNat c5.toNat) :
    xI .u8 (cell h (bk ba)) fun n0 => xI .u8 (cell h ((bk ba).add 1)) fun n1 => xI .u8 (cell h ((bk ba).add 2)) fun n2 => xI .u8 (cell h ((bk ba).add 3)) fun n3 => xI .u8 (cell h ((bk ba).add 4)) fun n4 => xI .u8 (cell h ((bk ba).add 5)) fun n5 => K n0 n1 n2 n3 n4 n5 := by
  simp only [add_bk, hb.cell, bc_cons, bc_nil, List.getElem?_cons_zero, List.getElem?_cons_succ, xI_some]
  exact hK

theorem c_uncolons {s : ByteArray} {h : Hp} {K : Int → Int → Int → Int → Int → Int → Int → Hp → Prop} (G : Glob h) (hsz : s.size ≤ 1073741824) (hok : ∀ b0 b1 b2 b3 b4 b5 : UInt8, s.data.toList = colons [b0, b1, b2, b3, b4, b5] → ∀ h', Ext none' h h' → K b0.toNat b1.toNat b2.toNat b3.toNat b4.toNat b5.toNat 0 h')
    (hbad : ¬ IsCol s.data.toList → ∀ h', Ext none' h h' → K 0 0 0 0 0 0 10 h') : C29 s h K := by
  apply S29; unfold N29
  intro ba ea
  have hs1 : Sat ([] ++ [Hw.was h, row ba 49 (bc [0, 0, 0, 0, 0, 0])]) _ := Sat.start.new ea (.cells ⟨bc [0, 0, 0, 0, 0, 0]⟩ 49 (0, 0))
  have es : (upd h ba (.cells ⟨[.int .u8 0, .int .u8 0, .int .u8 0, .int .u8 0, .int .u8 0, .int .u8 0]⟩ 49)) = (upd h ba (.cells ⟨bc [0, 0, 0, 0, 0, 0]⟩ 49 (0, 0))) := rfl
  rw [es]
  revert hs1
  generalize upd h ba _ = hx
  intro hs1 bb eb
  have hs2 : Sat ([] ++ [Hw.was h, row ba 49 (bc [0, 0, 0, 0, 0, 0]), row bb 49 (bc [0, 0, 0, 0, 0, 0])]) _ := hs1.new eb (.cells ⟨bc [0, 0, 0, 0, 0, 0]⟩ 49 (0, 0))
  have es : (upd hx bb (.cells ⟨[.int .u8 0, .int .u8 0, .int .u8 0, .int .u8 0, .int .u8 0, .int .u8 0]⟩ 49)) = (upd hx bb (.cells ⟨bc [0, 0, 0, 0, 0, 0]⟩ 49 (0, 0))) := rfl
  rw [es]
  revert hs2
  generalize upd hx bb _ = hy
  intro hs2
  have z0 : ((0 : UInt8).toNat : Int) = 0 := rfl
  obtain ⟨q1, q2, q3⟩ := splitB_ok 58 s
  refine c_split (sep := ⟨⟨[58]⟩⟩) (G.ext (hs2.was 0 rfl)) (by omega) (by decide) ?_ q1
  intro hd t hno
  have hsep : (⟨⟨[58]⟩⟩ : ByteArray) = ⟨#[58]⟩ := rfl
  rw [hsep] at hno
  generalize hP : (Lib.splitB ⟨#[58]⟩ 0 (Lib.countB s ⟨#[58]⟩) s) = P at hno q2 q3
  have tn : t.n = P.length := by have := hno.2.1.1; simp at this; omega
  have hs3 : Sat ([] ++ [Hw.was h, row ba 49 (bc [0, 0, 0, 0, 0, 0]), row bb 49 (bc [0, 0, 0, 0, 0, 0])]) hd := hs2.ext hno.1
  have no58 : ∀ m : List UInt8, ∀ p ∈ m.map hexs, (58 : UInt8) ∉ p := by
    intro m p hp hm
    obtain ⟨x, _, rfl⟩ := List.mem_map.1 hp
    have key : ∀ i : Fin 16, hexd.getD i.val 0 ≠ 58 := by decide
    unfold hexs at hm
    simp only [List.mem_cons, List.mem_nil_iff, or_false] at hm
    rcases hm with e | e
    · exact key ⟨x.toNat / 16, by have := x.toNat_lt; omega⟩ e.symm
    · exact key ⟨x.toNat % 16, by omega⟩ e.symm
  have parts : ∀ m : List UInt8, m.length = 6 → s.data.toList = colons m → P.map (·.data.toList) = m.map hexs := by
    intro m hm e
    refine jn_inj 58 _ _ ?_ ?_ q3 (no58 m) (by rw [q2, e]; rfl)
    · intro e2
      have h2 := congrArg List.length e2
      rw [← hP] at h2
      simp only [List.length_map, List.length_nil] at h2
      omega
    · intro e; have h2 := congrArg List.length e; simp only [List.length_map, List.length_nil] at h2; omega
  by_cases h6 : P.length = 6
  · have : (((t.n : Nat) : Int) != 6) = false := by simp; omega
    rw [this, cond_false]
    unfold N29_l0
    refine loopP_inv (fun (x : Int) hc => ∃ c : List UInt8, x = (c.length : Int) ∧ c.length ≤ 6 ∧ (P.take c.length).map (·.data.toList) = c.map hexs ∧ Ext none' hd hd ∧ Own hc 9 1 t (P.map Value.string) ∧ Sat ([] ++ [Hw.was h, row ba 49 (bc [0, 0, 0, 0, 0, 0]), row bb 49 (bc (c ++ List.replicate (6 - c.length) 0)), Hw.own 9 1 t (P.map Value.string)]) hc) (fun x _ => 6 - x.toNat) ?_
      ⟨[], rfl, by simp, rfl, Ext.refl, hno.2.1, by have := hs2.addNew hno; simpa using this⟩
    rintro x hc ⟨c, rfl, hcl, hd6, _, ho, hs⟩
    have hw := hs.was 0 rfl
    unfold N29_l0_B N29_l0_b
    by_cases hlt : c.length < 6
    · have : decide ((c.length : Int) < ((t.n : Nat) : Int)) = true := decide_eq_true (by omega)
      rw [this, cond_true]
      have hPi : P[c.length]? = some (P[c.length]'(by omega)) := List.getElem?_eq_getElem (by omega)
      generalize hq : P[c.length]'(by omega) = p at hPi
      obtain ⟨b, hb, hcell⟩ := ho.get (k := c.length) (v := .string p) (by rw [List.getElem?_map, hPi]; rfl)
      refine idx_of (by omega) (by omega) ?_
      rw [hb]
      simp only [nn_some', add_bk, Int.toNat_natCast, Nat.mul_one, hcell, xS_some]
      -- not so: it is no address's text
      have bad : (∀ u : UInt8, p.data.toList ≠ hexs u) → ¬ IsCol s.data.toList := by
        rintro hu ⟨m, hm, e⟩
        have e2 := parts m hm e
        have e3 : (P.map (·.data.toList))[c.length]? = (m.map hexs)[c.length]? := by rw [e2]
        rw [List.getElem?_map, hPi] at e3
        simp only [List.getElem?_map, Option.map_some] at e3
        rw [List.getElem?_eq_getElem (by omega)] at e3
        simp only [Option.map_some, Option.some.injEq] at e3
        exact hu _ e3
      have fin0 : ∀ hh, Sat ([] ++ [Hw.was h, row ba 49 (bc [0, 0, 0, 0, 0, 0]), row bb 49 (bc (c ++ List.replicate (6 - c.length) 0)), Hw.own 9 1 t (P.map Value.string)]) hh → ¬ IsCol s.data.toList →
          xI .u8 (cell hh (bk ba)) fun n25 => xI .u8 (cell hh ((bk ba).add 1)) fun n26 => xI .u8 (cell hh ((bk ba).add 2)) fun n27 => xI .u8 (cell hh ((bk ba).add 3)) fun n28 => xI .u8 (cell hh ((bk ba).add 4)) fun n29 => xI .u8 (cell hh ((bk ba).add 5)) fun n30 => K n25 n26 n27 n28 n29 n30 10 hh := by
        intro hh hsh hbd
        exact mac_read (hsh.blk 1 rfl) (hbad hbd _ (hsh.was 0 rfl))
      have fail : ¬ IsCol s.data.toList → ∀ hh, Sat ([] ++ [Hw.was h, row ba 49 (bc [0, 0, 0, 0, 0, 0]), row bb 49 (bc (c ++ List.replicate (6 - c.length) 0)), Hw.own 9 1 t (P.map Value.string)]) hh →
          st hh (bk ba) (.int .u8 0) fun h3 => st h3 ((bk ba).add 1) (.int .u8 0) fun h4 => st h4 ((bk ba).add 2) (.int .u8 0) fun h5 => st h5 ((bk ba).add 3) (.int .u8 0) fun h6 => st h6 ((bk ba).add 4) (.int .u8 0) fun h7 => st h7 ((bk ba).add 5) (.int .u8 0) fun h8 =>
          xI .u8 (cell h8 (bk ba)) fun n25 => xI .u8 (cell h8 ((bk ba).add 1)) fun n26 => xI .u8 (cell h8 ((bk ba).add 2)) fun n27 => xI .u8 (cell h8 ((bk ba).add 3)) fun n28 => xI .u8 (cell h8 ((bk ba).add 4)) fun n29 => xI .u8 (cell h8 ((bk ba).add 5)) fun n30 => K n25 n26 n27 n28 n29 n30 10 h8 := by
        intro hbd hh hsh
        exact mac_zero (F := fun h8 => xI .u8 (cell h8 (bk ba)) fun n25 => xI .u8 (cell h8 ((bk ba).add 1)) fun n26 => xI .u8 (cell h8 ((bk ba).add 2)) fun n27 => xI .u8 (cell h8 ((bk ba).add 3)) fun n28 => xI .u8 (cell h8 ((bk ba).add 4)) fun n29 => xI .u8 (cell h8 ((bk ba).add 5)) fun n30 => K n25 n26 n27 n28 n29 n30 10 h8) hsh 1 rfl rfl fun h' hs' => fin0 h' hs' hbd
      obtain ⟨⟨pl⟩⟩ := p
      have psz : (⟨⟨pl⟩⟩ : ByteArray).size = pl.length := rfl
      simp only [psz] at bad ⊢
      by_cases h2 : pl.length = 2
      · have : ((pl.length : Int) != 2) = false := by simp; omega
        rw [this, cond_false]
        match pl, h2 with
        | [a0, a1], _ =>
        refine idx_of (by omega) (by simp) ?_
        refine idx_of (by omega) (by simp) ?_
        refine c_indexByte ?_
        refine c_indexByte ?_
        have sb0 : sbyte ⟨⟨[a0, a1]⟩⟩ 0 = (a0.toNat : Int) := sbyte_at (l := [a0, a1]) (x := 0) (i := 0) rfl (by simp)
        have sb1 : sbyte ⟨⟨[a0, a1]⟩⟩ 1 = (a1.toNat : Int) := sbyte_at (l := [a0, a1]) (x := 1) (i := 1) rfl (by simp)
        simp only [sb0, sb1, u8back]
        have ev0 : Lib.indexByte (⟨⟨[48, 49, 50, 51, 52, 53, 54, 55, 56, 57, 97, 98, 99, 100, 101, 102]⟩⟩ : ByteArray).data.toList a0 = hexv a0 := rfl
        have ev1 : Lib.indexByte (⟨⟨[48, 49, 50, 51, 52, 53, 54, 55, 56, 57, 97, 98, 99, 100, 101, 102]⟩⟩ : ByteArray).data.toList a1 = hexv a1 := rfl
        simp only [ev0, ev1]
        have g0 := hexv_ge a0
        have g1 := hexv_ge a1
        by_cases hn0 : hexv a0 < 0
        · have : decide (hexv a0 < 0) = true := decide_eq_true hn0
          rw [this, cond_true]
          unfold N29_j1
          simp only [cond_true, nn_some']
          refine fail (bad ?_) hc hs
          intro u e
          simp only [hexs, List.cons.injEq] at e
          rw [e.1, hexv_hi] at hn0; omega
        · have : decide (hexv a0 < 0) = false := decide_eq_false hn0
          rw [this, cond_false]
          unfold N29_j1
          by_cases hn1 : hexv a1 < 0
          · have : decide (hexv a1 < 0) = true := decide_eq_true hn1
            rw [this]
            simp only [cond_true, nn_some']
            refine fail (bad ?_) hc hs
            intro u e
            simp only [hexs, List.cons.injEq] at e
            rw [e.2.1, hexv_lo] at hn1; omega
          · have : decide (hexv a1 < 0) = false := decide_eq_false hn1
            rw [this, cond_false]
            unfold N29_j2
            obtain ⟨i, hi, hvi, hgi⟩ := hexv_some (by omega : 0 ≤ hexv a0)
            obtain ⟨j, hj, hvj, hgj⟩ := hexv_some (by omega : 0 ≤ hexv a1)
            obtain ⟨ep, eu⟩ := hex_pair hi hj hgi hgj
            rw [hvi, hvj]
            have e5 := bor_low (w := 64) (x := (i : Int)) (y := (j : Int)) 4 (by omega) (by omega) (by omega) (by omega) (by omega)
            have e6 : ((2 : Int) ^ 4) = 16 := rfl
            rw [e6] at e5
            rw [e6, wi64i (x := (i : Int) * 16) (by omega) (by omega), e5, wi64i (by omega) (by omega), wu8i (by omega) (by omega)]
            simp only [nn_some', add_bk, Int.toNat_natCast, Nat.mul_one]
            refine idx_of (by omega) (by omega) ?_
            refine hs.st (b := bb) (k := c.length) 2 rfl (by simp; omega) rfl ?_
            intro h' hs'
            rw [nat_succ64 (by omega)]
            have eset : (bc (c ++ List.replicate (6 - c.length) 0)).set c.length (.int .u8 ((i : Int) * 16 + (j : Int))) = bc ((c ++ [UInt8.ofNat (i * 16 + j)]) ++ List.replicate (6 - (c ++ [UInt8.ofNat (i * 16 + j)]).length) 0) := by
              have : (Value.int .u8 ((i : Int) * 16 + (j : Int))) = .int .u8 ((UInt8.ofNat (i * 16 + j)).toNat : Int) := by rw [eu]; congr 1
              rw [this, ← bc_set]
              congr 1
              have er : 6 - c.length = (6 - (c.length + 1)) + 1 := by omega
              rw [er, List.replicate_succ, List.set_append_right _ _ (Nat.le_refl _), Nat.sub_self, List.set_cons_zero]
              simp
            simp only [List.set_cons_succ, List.set_cons_zero] at hs'
            rw [eset] at hs'
            refine ⟨⟨c ++ [UInt8.ofNat (i * 16 + j)], by simp, by simp; omega, ?_, Ext.refl, hs'.own 3 rfl, hs'⟩, by first | omega | (dsimp only; omega)⟩
            rw [List.length_append, List.length_singleton, ← List.take_append_getElem (by omega), List.map_append, hd6, hq, List.map_append]
            simp only [List.map_cons, List.map_nil]
            rw [← ep]
      · have : ((pl.length : Int) != 2) = true := by simp; omega
        rw [this, cond_true]
        refine fail (bad ?_) hc hs
        intro u e
        exact h2 (by rw [show pl = hexs u from e]; rfl)
    · have : decide ((c.length : Int) < ((t.n : Nat) : Int)) = false := decide_eq_false (by omega)
      rw [this, cond_false]
      have hc6 : c.length = 6 := by omega
      rw [List.take_of_length_le (by omega)] at hd6
      obtain ⟨c0, c1, c2, c3, c4, c5, rfl⟩ := six c hc6
      have hs' : Sat ([] ++ [Hw.was h, row ba 49 (bc [0, 0, 0, 0, 0, 0]), row bb 49 (bc [c0, c1, c2, c3, c4, c5]), Hw.own 9 1 t (P.map Value.string)]) hc := by simpa using hs
      refine mac_ret (K := fun a b c d e f hh => K a b c d e f 0 hh) hs' 1 2 rfl rfl rfl ?_
      intro h' hs2
      exact hok c0 c1 c2 c3 c4 c5 (by unfold colons; rw [← hd6, q2]) _ (hs2.was 0 rfl)
  · have : (((t.n : Nat) : Int) != 6) = true := by simp; omega
    rw [this, cond_true]
    refine mac_ret (K := fun a b c d e f hh => K a b c d e f 10 hh) hs3 1 2 rfl rfl rfl ?_
    intro h' hs'
    refine hbad ?_ _ (hs'.was 0 rfl)
    rintro ⟨m, hm, e⟩
    have h2 := congrArg List.length (parts m hm e)
    simp only [List.length_map] at h2
    omega

/-! ### the document's Uncolons -/
theorem colons6 (a b c d e f : UInt8) : colons [a, b, c, d, e, f] = hexs a ++ 58 :: (hexs b ++ 58 :: (hexs c ++ 58 :: (hexs d ++ 58 :: (hexs e ++ 58 :: hexs f)))) := rfl
theorem colons_at {m : List UInt8} (hm : m.length = 6) {j : Nat} (hj : j < 6) : ∃ b, m[j]? = some b ∧ (colons m)[3 * j]? = some (hexd.getD (b.toNat / 16) 0) ∧ (colons m)[3 * j + 1]? = some (hexd.getD (b.toNat % 16) 0) ∧ (j < 5 → (colons m)[3 * j + 2]? = some 58) := by
  obtain ⟨a, b, c, d, e, f, rfl⟩ := six m hm
  rw [colons6]
  rcases (show j = 0 ∨ j = 1 ∨ j = 2 ∨ j = 3 ∨ j = 4 ∨ j = 5 by omega) with rfl | rfl | rfl | rfl | rfl | rfl
  · exact ⟨a, rfl, rfl, rfl, fun _ => rfl⟩
  · exact ⟨b, rfl, rfl, rfl, fun _ => rfl⟩
  · exact ⟨c, rfl, rfl, rfl, fun _ => rfl⟩
  · exact ⟨d, rfl, rfl, rfl, fun _ => rfl⟩
  · exact ⟨e, rfl, rfl, rfl, fun _ => rfl⟩
  · exact ⟨f, rfl, rfl, rfl, fun h => absurd h (by omega)⟩
theorem colons_of {l m : List UInt8} (hl : l.length = 17) (hm : m.length = 6) (h : ∀ (j : Nat) b, m[j]? = some b → l[3 * j]? = some (hexd.getD (b.toNat / 16) 0) ∧ l[3 * j + 1]? = some (hexd.getD (b.toNat % 16) 0) ∧ (j < 5 → l[3 * j + 2]? = some 58)) : l = colons m := by
  have hcl : (colons m).length = 17 := by
    obtain ⟨a, b, c, d, e, f, rfl⟩ := six m hm
    rw [colons6]; rfl
  apply List.ext_getElem?
  intro i
  by_cases hi : i < 17
  · obtain ⟨b, h1, h2, h3, h4⟩ := colons_at hm (j := i / 3) (by omega)
    obtain ⟨g2, g3, g4⟩ := h _ b h1
    rcases (show i = 3 * (i / 3) ∨ i = 3 * (i / 3) + 1 ∨ i = 3 * (i / 3) + 2 by omega) with e | e | e
    · rw [e, h2, g2]
    · rw [e, h3, g3]
    · rw [e, h4 (by omega), g4 (by omega)]
  · rw [List.getElem?_eq_none (by omega), List.getElem?_eq_none (by omega)]

theorem c_Uncolons {s : ByteArray} {h : Hp} {K : Int → Int → Int → Int → Int → Int → Int → Hp → Prop} (hok : ∀ b0 b1 b2 b3 b4 b5 : UInt8, s.data.toList = colons [b0, b1, b2, b3, b4, b5] → ∀ h', Ext none' h h' → K b0.toNat b1.toNat b2.toNat b3.toNat b4.toNat b5.toNat 0 h')
    (hbad : ¬ IsCol s.data.toList → ∀ h', Ext none' h h' → K 0 0 0 0 0 0 10 h') : C30 s h K := by
  apply S30; unfold N30
  intro ba ea
  have hs1 : Sat ([] ++ [Hw.was h, row ba 49 (bc [0, 0, 0, 0, 0, 0])]) _ := Sat.start.new ea (.cells ⟨bc [0, 0, 0, 0, 0, 0]⟩ 49 (0, 0))
  have es : (upd h ba (.cells ⟨[.int .u8 0, .int .u8 0, .int .u8 0, .int .u8 0, .int .u8 0, .int .u8 0]⟩ 49)) = (upd h ba (.cells ⟨bc [0, 0, 0, 0, 0, 0]⟩ 49 (0, 0))) := rfl
  rw [es]
  revert hs1
  generalize upd h ba _ = hx
  intro hs1 bb eb
  have hs2 : Sat ([] ++ [Hw.was h, row ba 49 (bc [0, 0, 0, 0, 0, 0]), row bb 49 (bc [0, 0, 0, 0, 0, 0])]) _ := hs1.new eb (.cells ⟨bc [0, 0, 0, 0, 0, 0]⟩ 49 (0, 0))
  have es : (upd hx bb (.cells ⟨[.int .u8 0, .int .u8 0, .int .u8 0, .int .u8 0, .int .u8 0, .int .u8 0]⟩ 49)) = (upd hx bb (.cells ⟨bc [0, 0, 0, 0, 0, 0]⟩ 49 (0, 0))) := rfl
  rw [es]
  revert hs2
  generalize upd hx bb _ = hd
  intro hs2
  obtain ⟨⟨l⟩⟩ := s
  have sz : (⟨⟨l⟩⟩ : ByteArray).size = l.length := rfl
  simp only [] at hok hbad
  rw [sz]
  by_cases h17 : l.length = 17
  · have : ((l.length : Int) != 17) = false := by simp; omega
    rw [this, cond_false]
    unfold N30_l0
    refine loopP_inv (fun (x : Int) hc => ∃ c : List UInt8, x = (c.length : Int) ∧ c.length ≤ 6 ∧ (∀ (j : Nat) b, c[j]? = some b → l[3 * j]? = some (hexd.getD (b.toNat / 16) 0) ∧ l[3 * j + 1]? = some (hexd.getD (b.toNat % 16) 0) ∧ (j < 5 → l[3 * j + 2]? = some 58)) ∧ Sat ([] ++ [Hw.was h, row ba 49 (bc [0, 0, 0, 0, 0, 0]), row bb 49 (bc (c ++ List.replicate (6 - c.length) 0))]) hc) (fun x _ => 6 - x.toNat) ?_
      ⟨[], rfl, by simp, by intro j b hb; simp at hb, by simpa using hs2⟩
    rintro x hc ⟨c, rfl, hcl, hch, hs⟩
    unfold N30_l0_B N30_l0_b
    by_cases hlt : c.length < 6
    · have : decide ((c.length : Int) < 6) = true := decide_eq_true (by omega)
      rw [this, cond_true]
      have w3 : IntKind.wrap .i64 (3 * (c.length : Int)) = ((3 * c.length : Nat) : Int) := by rw [wi64i (by omega) (by omega)]; omega
      rw [w3]
      have w4 : IntKind.wrap .i64 (((3 * c.length : Nat) : Int) + 1) = ((3 * c.length + 1 : Nat) : Int) := by rw [wi64i (by omega) (by omega)]; omega
      have w5 : IntKind.wrap .i64 (((3 * c.length : Nat) : Int) + 2) = ((3 * c.length + 2 : Nat) : Int) := by rw [wi64i (by omega) (by omega)]; omega
      rw [w4, w5]
      have l0 : 3 * c.length < l.length := by omega
      have l1 : 3 * c.length + 1 < l.length := by omega
      have l2 : c.length < 5 → 3 * c.length + 2 < l.length := by omega
      refine idx_str rfl l0 ?_
      rw [sbyte_at rfl l0, sbyte_at rfl l1]
      have e0 : l[3 * c.length]? = some (l[3 * c.length]) := List.getElem?_eq_getElem l0
      have e1 : l[3 * c.length + 1]? = some (l[3 * c.length + 1]) := List.getElem?_eq_getElem l1
      generalize l[3 * c.length] = a0 at e0
      generalize l[3 * c.length + 1] = a1 at e1
      refine c_value ?_
      refine idx_str rfl l1 ?_
      refine c_value ?_
      have g0 := hexv_ge a0
      have g1 := hexv_ge a1
      have bad : (∀ u : UInt8, a0 = hexd.getD (u.toNat / 16) 0 → a1 = hexd.getD (u.toNat % 16) 0 → (c.length < 5 → l[3 * c.length + 2]? = some 58) → False) → ¬ IsCol l := by
        rintro hu ⟨m, hm, e⟩
        obtain ⟨b, q1, q2, q3, q4⟩ := colons_at hm hlt
        rw [← e] at q2 q3 q4
        rw [e0] at q2
        rw [e1] at q3
        exact hu b (Option.some.inj q2) (Option.some.inj q3) q4
      have fail : ¬ IsCol l → ∀ hh, Sat ([] ++ [Hw.was h, row ba 49 (bc [0, 0, 0, 0, 0, 0]), row bb 49 (bc (c ++ List.replicate (6 - c.length) 0))]) hh →
          st hh (bk ba) (.int .u8 0) fun h3 => st h3 ((bk ba).add 1) (.int .u8 0) fun h4 => st h4 ((bk ba).add 2) (.int .u8 0) fun h5 => st h5 ((bk ba).add 3) (.int .u8 0) fun h6 => st h6 ((bk ba).add 4) (.int .u8 0) fun h7 => st h7 ((bk ba).add 5) (.int .u8 0) fun h8 =>
          xI .u8 (cell h8 (bk ba)) fun n25 => xI .u8 (cell h8 ((bk ba).add 1)) fun n26 => xI .u8 (cell h8 ((bk ba).add 2)) fun n27 => xI .u8 (cell h8 ((bk ba).add 3)) fun n28 => xI .u8 (cell h8 ((bk ba).add 4)) fun n29 => xI .u8 (cell h8 ((bk ba).add 5)) fun n30 => K n25 n26 n27 n28 n29 n30 10 h8 := by
        intro hbd hh hsh
        exact mac_zero (F := fun h8 => xI .u8 (cell h8 (bk ba)) fun n25 => xI .u8 (cell h8 ((bk ba).add 1)) fun n26 => xI .u8 (cell h8 ((bk ba).add 2)) fun n27 => xI .u8 (cell h8 ((bk ba).add 3)) fun n28 => xI .u8 (cell h8 ((bk ba).add 4)) fun n29 => xI .u8 (cell h8 ((bk ba).add 5)) fun n30 => K n25 n26 n27 n28 n29 n30 10 h8) hsh 1 rfl rfl
          fun h' hs' => mac_read (hs'.blk 1 rfl) (hbad hbd _ (hs'.was 0 rfl))
      by_cases hn0 : hexv a0 < 0
      · rw [if_pos hn0]
        simp only [show ((16 : Int) == 16) = true from rfl, cond_true, N30_j1, nn_some']
        refine fail (bad ?_) hc hs
        intro u q1 _ _
        rw [q1, hexv_hi] at hn0; omega
      · rw [if_neg hn0]
        obtain ⟨i, hi, hvi, hgi⟩ := hexv_some (by omega : 0 ≤ hexv a0)
        have : (hexv a0 == 16) = false := beq_false_of_ne (by omega)
        rw [this, cond_false]
        by_cases hn1 : hexv a1 < 0
        · rw [if_pos hn1]
          simp only [show ((16 : Int) == 16) = true from rfl, cond_true, N30_j1, nn_some']
          refine fail (bad ?_) hc hs
          intro u _ q1 _
          rw [q1, hexv_lo] at hn1; omega
        · rw [if_neg hn1]
          obtain ⟨j, hj, hvj, hgj⟩ := hexv_some (by omega : 0 ≤ hexv a1)
          have : (hexv a1 == 16) = false := beq_false_of_ne (by omega)
          rw [this, cond_false]
          obtain ⟨ep, eu⟩ := hex_pair hi hj hgi hgj
          -- the place is written
          have next : (c.length < 5 → l[3 * c.length + 2]? = some 58) → N30_j2 ⟨⟨l⟩⟩ (some (bk ba)) (some (bk bb)) (c.length : Int) (hexv a0) (hexv a1) hc (fun h3 => (∃ c2 : List UInt8, IntKind.wrap .i64 ((c.length : Int) + 1) = (c2.length : Int) ∧ c2.length ≤ 6 ∧ (∀ (j : Nat) b, c2[j]? = some b → l[3 * j]? = some (hexd.getD (b.toNat / 16) 0) ∧ l[3 * j + 1]? = some (hexd.getD (b.toNat % 16) 0) ∧ (j < 5 → l[3 * j + 2]? = some 58)) ∧ Sat ([] ++ [Hw.was h, row ba 49 (bc [0, 0, 0, 0, 0, 0]), row bb 49 (bc (c2 ++ List.replicate (6 - c2.length) 0))]) h3) ∧ 6 - (IntKind.wrap .i64 ((c.length : Int) + 1)).toNat < 6 - ((c.length : Int)).toNat) := by
            intro h58
            unfold N30_j2
            rw [hvi, hvj, wi64i (x := 16 * (i : Int)) (by omega) (by omega), wi64i (by omega) (by omega), wu8i (by omega) (by omega)]
            simp only [nn_some', add_bk, Int.toNat_natCast, Nat.mul_one]
            refine idx_of (by omega) (by omega) ?_
            refine hs.st (b := bb) (k := c.length) 2 rfl (by simp; omega) rfl ?_
            intro h' hs'
            rw [nat_succ64 (by omega)]
            have eset : (bc (c ++ List.replicate (6 - c.length) 0)).set c.length (.int .u8 (16 * (i : Int) + (j : Int))) = bc ((c ++ [UInt8.ofNat (i * 16 + j)]) ++ List.replicate (6 - (c ++ [UInt8.ofNat (i * 16 + j)]).length) 0) := by
              have : (Value.int .u8 (16 * (i : Int) + (j : Int))) = .int .u8 ((UInt8.ofNat (i * 16 + j)).toNat : Int) := by rw [eu]; congr 1; omega
              rw [this, ← bc_set]
              congr 1
              have er : 6 - c.length = (6 - (c.length + 1)) + 1 := by omega
              rw [er, List.replicate_succ, List.set_append_right _ _ (Nat.le_refl _), Nat.sub_self, List.set_cons_zero]
              simp
            simp only [List.set_cons_succ, List.set_cons_zero] at hs'
            rw [eset] at hs'
            refine ⟨⟨c ++ [UInt8.ofNat (i * 16 + j)], by simp, by simp; omega, ?_, hs'⟩, by first | omega | (dsimp only; omega)⟩
            intro q b hb
            by_cases hq : q < c.length
            · rw [List.getElem?_append_left hq] at hb; exact hch q b hb
            · have hql := lt_of_get hb
              simp at hql
              have : q = c.length := by omega
              subst this
              rw [List.getElem?_append_right (Nat.le_refl _), Nat.sub_self] at hb
              have hb : some (UInt8.ofNat (i * 16 + j)) = some b := hb
              have hb := Option.some.inj hb
              subst hb
              rw [eu, show (i * 16 + j) / 16 = i by omega, show (i * 16 + j) % 16 = j by omega, hgi, hgj]
              exact ⟨e0, e1, h58⟩
          by_cases h5 : c.length < 5
          · have : decide ((c.length : Int) < 5) = true := decide_eq_true (by omega)
            rw [this, cond_true]
            refine idx_str rfl (l2 h5) ?_
            rw [sbyte_at rfl (l2 h5)]
            by_cases h58 : l[3 * c.length + 2]'(l2 h5) = 58
            · have : (((l[3 * c.length + 2]'(l2 h5)).toNat : Int) != 58) = false := by rw [h58]; rfl
              rw [this]
              simp only [N30_j1, cond_false]
              exact next fun _ => by rw [List.getElem?_eq_getElem (l2 h5), h58]
            · have : (((l[3 * c.length + 2]'(l2 h5)).toNat : Int) != 58) = true := by
                have : (l[3 * c.length + 2]'(l2 h5)).toNat ≠ 58 := fun e => h58 (UInt8.toNat_inj.1 e)
                simp; omega
              rw [this]
              simp only [N30_j1, cond_true, nn_some']
              refine fail (bad ?_) hc hs
              intro u _ _ q4
              have := q4 h5
              rw [List.getElem?_eq_getElem (l2 h5)] at this
              exact h58 (Option.some.inj this)
          · have : decide ((c.length : Int) < 5) = false := decide_eq_false (by omega)
            rw [this, cond_false]
            simp only [N30_j1, cond_false]
            exact next fun hq => absurd hq h5
    · have : decide ((c.length : Int) < 6) = false := decide_eq_false (by omega)
      rw [this, cond_false]
      have hc6 : c.length = 6 := by omega
      obtain ⟨c0, c1, c2, c3, c4, c5, rfl⟩ := six c hc6
      have hs' : Sat ([] ++ [Hw.was h, row ba 49 (bc [0, 0, 0, 0, 0, 0]), row bb 49 (bc [c0, c1, c2, c3, c4, c5])]) hc := by simpa using hs
      refine mac_ret (K := fun a b c d e f hh => K a b c d e f 0 hh) hs' 1 2 rfl rfl rfl ?_
      intro h' hs2
      exact hok c0 c1 c2 c3 c4 c5 (colons_of h17 rfl hch) _ (hs2.was 0 rfl)
  · have : ((l.length : Int) != 17) = true := by simp; omega
    rw [this, cond_true]
    refine mac_ret (K := fun a b c d e f hh => K a b c d e f 10 hh) hs2 1 2 rfl rfl rfl ?_
    intro h' hs'
    refine hbad ?_ _ (hs'.was 0 rfl)
    rintro ⟨m, hm, e⟩
    obtain ⟨a, b, c, d, e', f, rfl⟩ := six m hm
    rw [e, colons6] at h17
    exact h17 rfl

end Go.Proofs.YtlioifgejijcoaaDoor

/-
  Ones of a mask; what a few calls answer (live).
-/
set_option linter.unusedSimpArgs false
set_option linter.unusedVariables false
namespace Go.Proofs.YtlioifgejijcoaaDoor
open Go Go.Hw

/-- n ones, then zeros -/
def IsOnes (m n : Nat) : Prop := n ≤ 32 ∧ m + 2 ^ (32 - n) = 4294967296
theorem pow_split {a b : Nat} (h : a ≤ b) : 2 ^ b = 2 ^ a * 2 ^ (b - a) := by rw [← Nat.pow_add]; congr 1; omega
theorem isOnes_one {m a b : Nat} (h1 : IsOnes m a) (h2 : IsOnes m b) : a = b := by
  obtain ⟨ha, ea⟩ := h1
  obtain ⟨hb, eb⟩ := h2
  have : 2 ^ (32 - a) = 2 ^ (32 - b) := by omega
  have h1 : ¬ 32 - a < 32 - b := fun q => by have := Nat.pow_lt_pow_right (a := 2) (by omega) q; omega
  have h2 : ¬ 32 - b < 32 - a := fun q => by have := Nat.pow_lt_pow_right (a := 2) (by omega) q; omega
  omega
open Classical in
noncomputable def onesOf (m : Nat) : Int := if h : ∃ n, IsOnes m n then ((Classical.choose h : Nat) : Int) else -1
theorem onesOf_is {m n : Nat} (h : IsOnes m n) : onesOf m = n := by
  unfold onesOf
  have hx : ∃ n, IsOnes m n := ⟨n, h⟩
  rw [dif_pos hx, isOnes_one (Classical.choose_spec hx) h]
theorem onesOf_no {m : Nat} (h : ∀ n, ¬ IsOnes m n) : onesOf m = -1 := by
  unfold onesOf
  rw [dif_neg (fun ⟨n, hn⟩ => h n hn)]
theorem bitLen_spec {x : Nat} (h : x < 4294967296) : x < 2 ^ Lib.bitLen x ∧ Lib.bitLen x ≤ 32 ∧ (x ≠ 0 → 2 ^ (Lib.bitLen x - 1) ≤ x ∧ 1 ≤ Lib.bitLen x) := by
  unfold Lib.bitLen
  by_cases h0 : x = 0
  · subst h0; rw [Lib.bitLenAux_zero]; exact ⟨by decide, by omega, fun h => absurd rfl h⟩
  · obtain ⟨a, b, c⟩ := Lib.bitLenAux_bounds 64 x (by omega) h0
    refine ⟨c, ?_, fun _ => ⟨b, a⟩⟩
    by_cases hl : Lib.bitLenAux 64 x ≤ 32
    · exact hl
    · have : 2 ^ 32 ≤ 2 ^ (Lib.bitLenAux 64 x - 1) := Nat.pow_le_pow_right (by omega) (by omega)
      omega

theorem c_ones {m : Int} {h : Hp} {K : Int → Hp → Prop} (h0 : 0 ≤ m) (h1 : m < 4294967296) (hK : K (onesOf m.toNat) h) : C38 m h K := by
  apply S38; unfold N38
  obtain ⟨x, rfl⟩ := Int.eq_ofNat_of_zero_le h0
  simp only [Int.toNat_natCast] at hK
  rw [not32 h0 h1]
  refine c_leading (by omega) (by omega) ?_
  have ec : (4294967295 - (x : Int)).toNat = 4294967295 - x := by omega
  rw [ec]
  have b0 : 4294967295 - x = 0 → Lib.bitLen (4294967295 - x) = 0 := fun e => by rw [e]; rfl
  obtain ⟨b1, b2, b3⟩ := bitLen_spec (x := 4294967295 - x) (by omega)
  generalize Lib.bitLen (4294967295 - x) = L at b0 b1 b2 b3
  have hp1 : 1 ≤ 2 ^ L := Nat.one_le_two_pow
  have hpq : 4294967296 = 2 ^ L * 2 ^ (32 - L) := (pow_split b2).symm ▸ rfl
  have h2c : 4294967295 - x ≠ 0 → 2 ^ L ≤ 2 * (4294967295 - x) := by
    intro hc
    obtain ⟨c1, c2⟩ := b3 hc
    have : 2 ^ L = 2 ^ (L - 1) * 2 := by rw [← Nat.pow_succ]; congr 1; omega
    omega
  have only : ∀ n, IsOnes x n → n = 32 - L := by
    rintro n ⟨hn, en⟩
    have hr : 1 ≤ 2 ^ (32 - n) := Nat.one_le_two_pow
    have h1 : ¬ L < 32 - n := fun q => by have := Nat.pow_lt_pow_right (a := 2) (by omega) q; omega
    have h2 : ¬ 32 - n < L := fun q => by
      have q2 : 2 ^ (32 - n + 1) ≤ 2 ^ L := Nat.pow_le_pow_right (by omega) q
      rw [Nat.pow_succ] at q2
      by_cases hc : 4294967295 - x = 0
      · have := b0 hc; omega
      · have := h2c hc; omega
    omega
  have e32 : (32 : Int) - (L : Int) = ((32 - L : Nat) : Int) := by omega
  rw [e32]
  -- ones, then zeros, just where the rest divides
  have hdiv : IsOnes x (32 - L) ↔ x % 2 ^ L = 0 := by
    unfold IsOnes
    rw [show 32 - (32 - L) = L by omega]
    generalize 2 ^ L = p at *
    generalize 2 ^ (32 - L) = q at *
    have hx : x = p * (q - 1) + (p - 1 - (4294967295 - x)) := by
      have : 1 ≤ q := by rcases q with _ | q; · omega
                         · omega
      have : p * q = p * (q - 1) + p := by rw [← Nat.mul_succ]; congr 1; omega
      omega
    have hm : x % p = p - 1 - (4294967295 - x) := by
      conv => lhs; rw [hx]
      rw [Nat.mul_add_mod]
      exact Nat.mod_eq_of_lt (by omega)
    rw [hm]
    constructor
    · rintro ⟨_, h⟩; omega
    · intro h; exact ⟨by omega, by omega⟩
  by_cases hL : L = 0
  · have : decide (((32 - L : Nat) : Int) < 32) = false := decide_eq_false (by omega)
    rw [this, cond_false]
    have hx : IsOnes x (32 - L) := by rw [hdiv]; subst hL; omega
    rw [onesOf_is hx] at hK
    exact hK
  · have : decide (((32 - L : Nat) : Int) < 32) = true := decide_eq_true (by omega)
    rw [this, cond_true]
    have : decide (((32 - L : Nat) : Int) < 0) = false := decide_eq_false (by omega)
    rw [this, cond_false]
    have em : min (((32 - L : Nat) : Int)).toNat 32 = 32 - L := by omega
    rw [em, wu32]
    have ev : ((x : Int) * 2 ^ (32 - L)) % 4294967296 = ((2 ^ (32 - L) * (x % 2 ^ L) : Nat) : Int) := by
      have : ((x : Int) * 2 ^ (32 - L)) = ((x * 2 ^ (32 - L) : Nat) : Int) := by push_cast; rfl
      rw [this]
      have h3 : x * 2 ^ (32 - L) % 4294967296 = 2 ^ (32 - L) * (x % 2 ^ L) := by
        rw [hpq, Nat.mul_comm x, Nat.mul_comm (2 ^ L), Nat.mul_mod_mul_left]
      rw [← h3]; omega
    rw [ev]
    by_cases hz : x % 2 ^ L = 0
    · have : (((2 ^ (32 - L) * (x % 2 ^ L) : Nat) : Int) != 0) = false := by rw [hz]; simp
      rw [this, cond_false]
      rw [onesOf_is (hdiv.2 hz)] at hK
      exact hK
    · have hpos : 0 < 2 ^ (32 - L) * (x % 2 ^ L) := Nat.mul_pos (Nat.two_pow_pos _) (by omega)
      have : (((2 ^ (32 - L) * (x % 2 ^ L) : Nat) : Int) != 0) = true := by
        simp only [bne_iff_ne, ne_eq]
        omega
      rw [this, cond_true]
      rw [onesOf_no (fun n hn => hz (hdiv.1 (by rw [← only n hn]; exact hn)))] at hK
      exact hK
theorem c_isMask {m : Int} {h : Hp} {K : Bool → Hp → Prop} (h0 : 0 ≤ m) (h1 : m < 4294967296) (hK : K (decide (onesOf m.toNat ≥ 0)) h) : C39 m h K := by
  apply S39; unfold N39
  exact c_ones h0 h1 hK

/-- the document's -/
theorem c_Ones {m : Int} {h : Hp} {K : Int → Hp → Prop} (h0 : 0 ≤ m) (h1 : m < 4294967296) (hK : K (onesOf m.toNat) h) : C37 m h K := by
  apply S37; unfold N37 N37_l0
  obtain ⟨x, rfl⟩ := Int.eq_ofNat_of_zero_le h0
  simp only [Int.toNat_natCast] at hK
  -- the first i places: n ones, then zeros
  refine loopP_inv (fun (y : Int × Int) hc => hc = h ∧ ∃ n i : Nat, y.1 = n ∧ y.2 = i ∧ n ≤ i ∧ i ≤ 32 ∧ x / 2 ^ (32 - i) + 2 ^ (i - n) = 2 ^ i) (fun y _ => 32 - y.2.toNat) ?_ ⟨rfl, 0, 0, rfl, rfl, by omega, by omega, by have : x / 2 ^ (32 - 0) = 0 := Nat.div_eq_of_lt (by omega); rw [this]⟩
  rintro ⟨yn, yi⟩ hc ⟨rfl, n, i, hn, hi, hni, hi32, hd⟩
  simp only at hn hi
  subst hn; subst hi
  unfold N37_l0_B N37_l0_b
  dsimp only
  by_cases hlt : i < 32
  · have : decide ((i : Int) < 32) = true := decide_eq_true (by omega)
    rw [this, cond_true]
    have e31 : IntKind.wrap .u64 (IntKind.wrap .i64 (31 - (i : Int))) = ((31 - i : Nat) : Int) := by rw [wi64i (by omega) (by omega), wu64i (by omega) (by omega)]; omega
    rw [e31]
    have : decide (((31 - i : Nat) : Int) < 0) = false := decide_eq_false (by omega)
    rw [this, cond_false]
    have em : min (((31 - i : Nat) : Int)).toNat 32 = 31 - i := by omega
    rw [em]
    have eb : Int.tmod (Int.fdiv (x : Int) (2 ^ (31 - i))) 2 = ((x / 2 ^ (31 - i) % 2 : Nat) : Int) := by
      have e2 : ((2 : Int) ^ (31 - i)) = ((2 ^ (31 - i) : Nat) : Int) := by push_cast; rfl
      rw [e2, Int.fdiv_eq_ediv_of_nonneg _ (Int.natCast_nonneg _)]
      have e3 : (x : Int) / ((2 ^ (31 - i) : Nat) : Int) = ((x / 2 ^ (31 - i) : Nat) : Int) := rfl
      rw [e3, Int.tmod_eq_emod_of_nonneg (Int.natCast_nonneg _)]
      generalize x / 2 ^ (31 - i) = q
      omega
    rw [eb]
    have hdd : x / 2 ^ (32 - i) = x / 2 ^ (31 - i) / 2 := by
      rw [Nat.div_div_eq_div_mul, ← Nat.pow_succ]; congr 2; omega
    rw [hdd] at hd
    have e1 : 32 - (i + 1) = 31 - i := by omega
    have ps : 2 ^ (i + 1) = 2 ^ i * 2 := Nat.pow_succ ..
    generalize hq : x / 2 ^ (31 - i) = q at hd
    have hmod : q % 2 = 0 ∨ q % 2 = 1 := by omega
    rcases hmod with h2 | h2
    · have : (((q % 2 : Nat) : Int) == 1) = false := by rw [h2]; rfl
      rw [this, cond_false, nat_succ64 (by omega)]
      refine ⟨⟨rfl, n, i + 1, rfl, rfl, by omega, hlt, ?_⟩, by first | omega | (dsimp only; omega)⟩
      rw [e1, hq, ps]
      have : 2 ^ (i + 1 - n) = 2 ^ (i - n) * 2 := by rw [← Nat.pow_succ]; congr 1; omega
      omega
    · have : (((q % 2 : Nat) : Int) == 1) = true := by rw [h2]; rfl
      rw [this, cond_true]
      by_cases hni2 : n < i
      · have : decide ((n : Int) < (i : Int)) = true := decide_eq_true (by omega)
        rw [this, cond_true]
        have none : ∀ k, ¬ IsOnes x k := by
          rintro k ⟨hk, ek⟩
          -- x / 2^j + 2^(32-j-..) ..
          have h32 : 4294967296 = 2 ^ (31 - i) * 2 ^ (i + 1) := by rw [← Nat.pow_add]; rw [show 31 - i + (i + 1) = 32 by omega]
          have hpn : 2 ^ (i - n) = 2 ^ (i - n - 1) * 2 := by rw [← Nat.pow_succ]; congr 1; omega
          have hp1 := Nat.one_le_two_pow (n := i - n - 1)
          by_cases hk2 : 32 - k ≤ 31 - i
          · -- all of the first i + 1 are ones
            have hx : 2 ^ (31 - i) * (2 ^ (i + 1) - 1) ≤ x := by
              have : 2 ^ (32 - k) ≤ 2 ^ (31 - i) := Nat.pow_le_pow_right (by omega) hk2
              have e3 : 2 ^ (31 - i) * (2 ^ (i + 1) - 1) = 2 ^ (31 - i) * 2 ^ (i + 1) - 2 ^ (31 - i) := by rw [Nat.mul_sub, Nat.mul_one]
              omega
            have : 2 ^ (i + 1) - 1 ≤ q := by rw [← hq]; exact (Nat.le_div_iff_mul_le (Nat.two_pow_pos _)).2 (by rw [Nat.mul_comm]; exact hx)
            omega
          · -- the place i is a zero
            have e4 : 2 ^ (32 - k) = 2 ^ (31 - i) * (2 ^ (i + 1 - k)) := by rw [← Nat.pow_add]; congr 1; omega
            have e5 : 2 ^ (i + 1 - k) = 2 * 2 ^ (i - k) := by rw [← Nat.pow_succ']; congr 1; omega
            have e6 : x = 2 ^ (31 - i) * (2 ^ (i + 1) - 2 ^ (i + 1 - k)) := by rw [Nat.mul_sub]; omega
            have e7 : q = 2 ^ (i + 1) - 2 ^ (i + 1 - k) := by rw [← hq, e6]; exact Nat.mul_div_cancel_left _ (Nat.two_pow_pos _)
            omega
        rw [onesOf_no none] at hK
        exact hK
      · have : decide ((n : Int) < (i : Int)) = false := decide_eq_false (by omega)
        rw [this, cond_false, nat_succ64 (by omega), nat_succ64 (by omega)]
        have : n = i := by omega
        subst this
        refine ⟨⟨rfl, n + 1, n + 1, rfl, rfl, by omega, hlt, ?_⟩, by first | omega | (dsimp only; omega)⟩
        rw [e1, hq, ps, Nat.sub_self]
        rw [Nat.sub_self] at hd
        simp only [Nat.pow_zero] at hd ⊢
        omega
  · have : decide ((i : Int) < 32) = false := decide_eq_false (by omega)
    rw [this, cond_false]
    have : i = 32 := by omega
    subst this
    have : IsOnes x n := ⟨hni, by simpa using hd⟩
    rw [onesOf_is this] at hK
    exact hK

end Go.Proofs.YtlioifgejijcoaaDoor

set_option linter.unusedVariables false
set_option maxRecDepth 100000
namespace Go.Proofs.YtlioifgejijcoaaDoor
open Go Go.Hw
/-! ### 15 slipway/slipwaylaw01.live -/
noncomputable def B15 : Code := match Tryd.f15.body with | some c => c | none => .skip
def N15_j0 (x1_b : Sl) (x2_n : Int) (x3_e : Int) (x4_s : Int) (x5_ip : Int) (x6_f : Int) (x8_g : Int) (x9_texts : Bool) (h : Hp) (K_ret : Bool → Hp → Prop) : Prop :=
  idx 0 x1_b.n <|
  nn x1_b.p fun a0 =>
  xI .u8 (cell h (a0.add ((0 : Int).toNat * 1))) fun n0 =>
  bif (n0 == 1) then
    idx 1 x1_b.n <|
    nn x1_b.p fun a1 =>
    xI .u8 (cell h (a1.add ((1 : Int).toNat * 1))) fun n1 =>
    bif (n1 == 2) then
      bif (x2_n == 515) then
        bif (x3_e == 0) then
          bif (x4_s == 8717) then
            bif (x6_f == 0) then
              bif (x5_ip == 3232235521) then
                bif (x8_g == 0) then
                  bif x9_texts then
                    C38 4294967040 h fun n2 h0 =>
                    bif (n2 == 24) then
                      C40 x5_ip h0 fun b0 h1 =>
                      bif b0 then
                        C40 1 h1 fun b1 h2 =>
                        K_ret (!b1) h2
                      else
                        K_ret false h1
                    else
                      K_ret false h0
                  else
                    K_ret false h
                else
                  K_ret false h
              else
                K_ret false h
            else
              K_ret false h
          else
            K_ret false h
        else
          K_ret false h
      else
        K_ret false h
    else
      K_ret false h
  else
    K_ret false h
noncomputable def N15_j0_t : Xf := pieceT [(1, .c (.slice)), (2, .c (.int .u64)), (3, .c (.int .i64)), (4, .c (.int .u16)), (5, .c (.int .u32)), (6, .c (.int .i64)), (8, .c (.int .i64)), (9, .c (.bool))] (codeAt B15 [1, 1, 1, 1, 1, 1, 1, 1]) fun x h Q => N15_j0 x.1 x.2.1 x.2.2.1 x.2.2.2.1 x.2.2.2.2.1 x.2.2.2.2.2.1 x.2.2.2.2.2.2.1 x.2.2.2.2.2.2.2 h (fun o0 h' => Q .ret (Sg.env [(0, .c (.bool))] o0) h')
theorem N15_j0_ok : Sound Tryd.prog Tryd.f15.ntmps N15_j0_t (codeAt B15 [1, 1, 1, 1, 1, 1, 1, 1]) := by
  refine piece_sound (fun e => match e with | .ret => [0] | _ => []) ?_
  intro x h Q hb
  refine den_sound hE hm _ .leaf _ _ _ (annOk_leaf) ?_
  refine cast ?_ hb
  kernel_rfl
def N15  (h : Hp) (K : Bool → Hp → Prop) : Prop :=
  C16 258 2 h fun s0 h0 =>
  nw h0 (.cells ⟨[.int .u8 1, .int .u8 2, .int .u8 3]⟩ 5) fun b0 h1 =>
  C21 ⟨some (bk b0), 3, 3⟩ 1 2 h1 fun n0 n1 h2 =>
  nw h2 (.cells ⟨[.int .u8 0, .int .u8 1, .int .u8 242, .int .u8 3]⟩ 5) fun b1 h3 =>
  nw h3 (.cells ⟨[.int .u8 244, .int .u8 245, .int .u8 246, .int .u8 247]⟩ 5) fun b2 h4 =>
  nw h4 (.cells ⟨[.slice (some (bk b1)) 4 4, .slice (some (bk b2)) 4 4]⟩ 24) fun b3 h5 =>
  C25 ⟨some (bk b3), 2, 2⟩ h5 fun n2 h6 =>
  C27 (⟨⟨[49, 57, 50, 46, 49, 54, 56, 46, 48, 46, 49]⟩⟩ : ByteArray) h6 fun n3 n4 h7 =>
  C29 (⟨⟨[48, 50, 58, 48, 48, 58, 53, 101, 58, 49, 48, 58, 48, 48, 58, 102, 102]⟩⟩ : ByteArray) h7 fun n5 n6 n7 n8 n9 n10 n11 h8 =>
  nw h8 (.cells ⟨[.int .u8 0, .int .u8 0, .int .u8 0, .int .u8 0, .int .u8 0, .int .u8 0]⟩ 49) fun b4 h9 =>
  st h9 (bk b4) (.int .u8 n5) fun h10 =>
  st h10 ((bk b4).add 1) (.int .u8 n6) fun h11 =>
  st h11 ((bk b4).add 2) (.int .u8 n7) fun h12 =>
  st h12 ((bk b4).add 3) (.int .u8 n8) fun h13 =>
  st h13 ((bk b4).add 4) (.int .u8 n9) fun h14 =>
  st h14 ((bk b4).add 5) (.int .u8 n10) fun h15 =>
  bif (((s0.n : Nat) : Int) != 2) then
    K false h15
  else
    C31 n3 h15 fun s1 h16 =>
    bif (s1.toList == (⟨⟨[49, 57, 50, 46, 49, 54, 56, 46, 48, 46, 49]⟩⟩ : ByteArray).toList) then
      xI .u8 (cell h16 (bk b4)) fun n12 =>
      xI .u8 (cell h16 ((bk b4).add 1)) fun n13 =>
      xI .u8 (cell h16 ((bk b4).add 2)) fun n14 =>
      xI .u8 (cell h16 ((bk b4).add 3)) fun n15 =>
      xI .u8 (cell h16 ((bk b4).add 4)) fun n16 =>
      xI .u8 (cell h16 ((bk b4).add 5)) fun n17 =>
      C33 n12 n13 n14 n15 n16 n17 h16 fun s2 h17 =>
      N15_j0 s0 n0 n1 n2 n3 n4 n11 (s2.toList == (⟨⟨[48, 50, 58, 48, 48, 58, 53, 101, 58, 49, 48, 58, 48, 48, 58, 102, 102]⟩⟩ : ByteArray).toList) h17
        (fun b5 h18 =>
          K b5 h18)
    else
      N15_j0 s0 n0 n1 n2 n3 n4 n11 false h16
        (fun b6 h19 =>
          K b6 h19)
theorem S15 {h : Hp} {K : Bool → Hp → Prop} (hn : N15 h K) : C15 h K := by
  refine calls_of_D Tryd.func15 (c := B15) rfl (by kernel_rfl) ?_
  refine den_sound hE hm _ (.two .leaf (.two .leaf (.two .leaf (.two .leaf (.two .leaf (.two .leaf (.two .leaf (.two .leaf (.xf N15_j0_t))))))))) _ _ _ (⟨annOk_leaf, ⟨annOk_leaf, ⟨annOk_leaf, ⟨annOk_leaf, ⟨annOk_leaf, ⟨annOk_leaf, ⟨annOk_leaf, ⟨annOk_leaf, N15_j0_ok⟩⟩⟩⟩⟩⟩⟩⟩) ?_
  refine cast ?_ hn
  kernel_rfl
end Go.Proofs.YtlioifgejijcoaaDoor

/-
  What a few calls answer (live).
-/
set_option linter.unusedSimpArgs false
set_option linter.unusedVariables false
namespace Go.Proofs.YtlioifgejijcoaaDoor
open Go Go.Hw

theorem hexs_inj {a b : UInt8} (h : hexs a = hexs b) : a = b := by
  simp only [hexs, List.cons.injEq] at h
  have h1 := congrArg hexv h.1
  have h2 := congrArg hexv h.2.1
  rw [hexv_hi, hexv_hi] at h1
  rw [hexv_lo, hexv_lo] at h2
  exact UInt8.toNat_inj.1 (by omega)
theorem colons_inj {l m : List UInt8} (hl : l.length = 6) (hm : m.length = 6) (h : colons l = colons m) : l = m := by
  have no58 : ∀ m : List UInt8, ∀ p ∈ m.map hexs, (58 : UInt8) ∉ p := by
    intro m p hp hm
    obtain ⟨x, _, rfl⟩ := List.mem_map.1 hp
    have key : ∀ i : Fin 16, hexd.getD i.val 0 ≠ 58 := by decide
    unfold hexs at hm
    simp only [List.mem_cons, List.mem_nil_iff, or_false] at hm
    rcases hm with e | e
    · exact key ⟨x.toNat / 16, by have := x.toNat_lt; omega⟩ e.symm
    · exact key ⟨x.toNat % 16, by omega⟩ e.symm
  have := jn_inj 58 _ _ (by intro e; have h2 := congrArg List.length e; simp only [List.length_map, List.length_nil] at h2; omega) (by intro e; have h2 := congrArg List.length e; simp only [List.length_map, List.length_nil] at h2; omega) (no58 l) (no58 m) h
  have key : ∀ (l m : List UInt8), l.map hexs = m.map hexs → l = m := by
    intro l
    induction l with
    | nil => intro m h; cases m with | nil => rfl | cons y m => simp at h
    | cons x l ih =>
      intro m h
      cases m with
      | nil => simp at h
      | cons y m =>
        simp only [List.map_cons, List.cons.injEq] at h
        rw [hexs_inj h.1, ih m h.2]
  exact key _ _ this
theorem dec1 : Lib.decDigits 1 = [49] := dec_small (by decide)
theorem dec0 : Lib.decDigits 0 = [48] := dec_small (by decide)
theorem dec192 : Lib.decDigits 192 = [49, 57, 50] := by rw [dec_big (by decide), Lib.decDigits_two (by decide) (by decide)]; rfl
theorem dec168 : Lib.decDigits 168 = [49, 54, 56] := by rw [dec_big (by decide), Lib.decDigits_two (by decide) (by decide)]; rfl
theorem dot_live : dotted 3232235521 = [49, 57, 50, 46, 49, 54, 56, 46, 48, 46, 49] := by
  have e : be 3232235521 4 = [192, 168, 0, 1] := by decide
  unfold dotted
  rw [e]
  show jn 46 [Lib.decDigits 192, Lib.decDigits 168, Lib.decDigits 0, Lib.decDigits 1] = _
  rw [dec192, dec168, dec0, dec1]; rfl
theorem col_live : colons [2, 0, 94, 16, 0, 255] = [48, 50, 58, 48, 48, 58, 53, 101, 58, 49, 48, 58, 48, 48, 58, 102, 102] := by decide

theorem c_live {h : Hp} {K : Bool → Hp → Prop} (G : Glob h) (hK : ∀ h', Ext none' h h' → K true h') : C15 h K := by
  apply S15; unfold N15
  refine c_put (by omega) (by omega) ?_
  intro h0 s0 no0
  have ep : putL (258 : Int).toNat 2 = [1, 2] := by decide
  rw [ep] at no0
  have x0 := no0.1
  intro b0 e0
  have y0 : Ext none' h0 (upd h0 b0 (.cells ⟨bc [1, 2, 3]⟩ 5 (0, 0))) := Ext.new e0
  have r0 : RdB (upd h0 b0 (.cells ⟨bc [1, 2, 3]⟩ 5 (0, 0))) ⟨some (bk b0), 3, 3⟩ [1, 2, 3] := ⟨rfl, Nat.le_refl _, Blk.rdc Blk.upd_same⟩
  have es : (upd h0 b0 (.cells ⟨[.int .u8 1, .int .u8 2, .int .u8 3]⟩ 5)) = upd h0 b0 (.cells ⟨bc [1, 2, 3]⟩ 5 (0, 0)) := rfl
  rw [es]
  revert y0 r0
  generalize upd h0 b0 _ = h1
  intro y0 r0
  refine c_get r0 (by simp) ?_
  have eg : getV [1, 2, 3] 1 2 = 515 := by decide
  have eg2 : getE [1, 2, 3] 1 2 = 0 := by decide
  rw [eg, eg2]
  intro b1 e1
  have y1 : Ext none' h1 (upd h1 b1 (.cells ⟨bc [0, 1, 242, 3]⟩ 5 (0, 0))) := Ext.new e1
  have r1 : RdB (upd h1 b1 (.cells ⟨bc [0, 1, 242, 3]⟩ 5 (0, 0))) ⟨some (bk b1), 4, 4⟩ [0, 1, 242, 3] := ⟨rfl, Nat.le_refl _, Blk.rdc Blk.upd_same⟩
  have es : (upd h1 b1 (.cells ⟨[.int .u8 0, .int .u8 1, .int .u8 242, .int .u8 3]⟩ 5)) = upd h1 b1 (.cells ⟨bc [0, 1, 242, 3]⟩ 5 (0, 0)) := rfl
  rw [es]
  revert y1 r1
  generalize upd h1 b1 _ = h2
  intro y1 r1 b2 e2
  have y2 : Ext none' h2 (upd h2 b2 (.cells ⟨bc [244, 245, 246, 247]⟩ 5 (0, 0))) := Ext.new e2
  have r2 : RdB (upd h2 b2 (.cells ⟨bc [244, 245, 246, 247]⟩ 5 (0, 0))) ⟨some (bk b2), 4, 4⟩ [244, 245, 246, 247] := ⟨rfl, Nat.le_refl _, Blk.rdc Blk.upd_same⟩
  have es : (upd h2 b2 (.cells ⟨[.int .u8 244, .int .u8 245, .int .u8 246, .int .u8 247]⟩ 5)) = upd h2 b2 (.cells ⟨bc [244, 245, 246, 247]⟩ 5 (0, 0)) := rfl
  rw [es]
  revert y2 r2
  generalize upd h2 b2 _ = h3
  intro y2 r2 b3 e3
  have y3 : Ext none' h3 (upd h3 b3 (.cells ⟨[.slice (some (bk b1)) 4 4, .slice (some (bk b2)) 4 4]⟩ 24 (0, 0))) := Ext.new e3
  have r3 : Rdc (upd h3 b3 (.cells ⟨[.slice (some (bk b1)) 4 4, .slice (some (bk b2)) 4 4]⟩ 24 (0, 0))) (some (bk b3)) [.slice (some (bk b1)) 4 4, .slice (some (bk b2)) 4 4] := Blk.rdc Blk.upd_same
  revert y3 r3
  generalize upd h3 b3 _ = h4
  intro y3 r3
  have rp : RdP h4 ⟨some (bk b3), 2, 2⟩ [⟨some (bk b1), 4, 4⟩, ⟨some (bk b2), 4, 4⟩] [[0, 1, 242, 3], [244, 245, 246, 247]] := by
    refine ⟨rfl, rfl, r3, ?_⟩
    intro i t l h1 h2
    match i, h1, h2 with
    | 0, h1, h2 => cases h1; cases h2; exact (r1.ext y2).ext y3
    | 1, h1, h2 => cases h1; cases h2; exact r2.ext y3
    | i + 2, h1, h2 => simp at h1
  refine c_sum rp (by intro l hl; simp at hl; rcases hl with rfl | rfl <;> simp) (by simp) (by simp) ?_
  have esum : sum16 [[0, 1, 242, 3], [244, 245, 246, 247]].flatten = 8717 := by decide
  rw [esum]
  have X4 : Ext none' h h4 := (((x0.trans y0).trans y1).trans y2).trans y3
  refine c_undotted (G.ext X4) (by decide) ?_ ?_
  · intro ip hip eip h5 x5
    have : ip = 3232235521 := by
      refine dotted_inj hip (by decide) ?_
      rw [← eip, dot_live]
    subst this
    have X5 := X4.trans x5
    refine c_uncolons (G.ext X5) (by decide) ?_ ?_
    · intro c0 c1 c2 c3 c4 c5 ec h6 x6
      have hcc := colons_inj (l := [c0, c1, c2, c3, c4, c5]) (m := [2, 0, 94, 16, 0, 255]) rfl rfl (by rw [← ec, col_live])
      simp only [List.cons.injEq, and_true] at hcc
      obtain ⟨rfl, rfl, rfl, rfl, rfl, rfl⟩ := hcc
      have X6 := X5.trans x6
      intro b4 e4
      have hs : Sat ([] ++ [Hw.was h6, row b4 49 [.int .u8 0, .int .u8 0, .int .u8 0, .int .u8 0, .int .u8 0, .int .u8 0]]) _ := Sat.start.new e4 _
      revert hs
      generalize upd h6 b4 _ = h7
      intro hs
      simp only [add_bk]
      refine hs.st 1 rfl (by simp) rfl ?_
      intro h8 hs
      refine hs.st 1 rfl (by simp) rfl ?_
      intro h9 hs
      refine hs.st 1 rfl (by simp) rfl ?_
      intro h10 hs
      refine hs.st 1 rfl (by simp) rfl ?_
      intro h11 hs
      refine hs.st 1 rfl (by simp) rfl ?_
      intro h12 hs
      refine hs.st 1 rfl (by simp) rfl ?_
      intro h13 hs
      have hb : Blk h13 b4 49 (bc [2, 0, 94, 16, 0, 255]) := hs.blk 1 rfl
      have X13 : Ext none' h h13 := X6.trans (hs.was 0 rfl)
      have n0 : s0.n = 2 := by have := no0.2.1.1; simp at this; omega
      have rs : RdB h13 s0 [1, 2] := no0.2.1.rdb.ext ((((((((y0.trans y1).trans y2).trans y3).trans x5).trans x6)).trans (hs.was 0 rfl)))
      rw [n0]
      simp only [show ((((2 : Nat) : Int)) != 2) = false from rfl, cond_false]
      refine c_dotted (G.ext X13) (by decide) (by decide) ?_
      intro h14 x14
      have ed : dotted (((3232235521 : Nat) : Int)).toNat = [49, 57, 50, 46, 49, 54, 56, 46, 48, 46, 49] := dot_live
      rw [ed]
      simp only [beq_self_eq_true, cond_true]
      have hb14 := x14.blk hb (fun e => e)
      simp only [hb14.cell, bk, bc_cons, bc_nil, List.getElem?_cons_zero, List.getElem?_cons_succ, xI_some]
      refine c_colons ?_
      intro h15 x15
      rw [col_live]
      simp only [beq_self_eq_true]
      unfold N15_j0
      have r15 := (rs.ext x14).ext x15
      refine r15.at (x := 0) (i := 0) rfl (by simp) ?_
      simp only [List.getElem_cons_zero, show ((((1 : UInt8).toNat : Nat) : Int) == 1) = true from rfl, cond_true]
      refine r15.at (x := 1) (i := 1) rfl (by simp) ?_
      simp only [List.getElem_cons_succ, List.getElem_cons_zero, show ((((2 : UInt8).toNat : Nat) : Int) == 2) = true from rfl, show ((((515 : Nat) : Int)) == 515) = true from rfl, show ((0 : Int) == 0) = true from rfl, show ((((8717 : Nat) : Int)) == 8717) = true from rfl, show ((((3232235521 : Nat) : Int)) == 3232235521) = true from rfl, cond_true]
      refine c_ones (by decide) (by decide) ?_
      have eo : onesOf ((4294967040 : Int)).toNat = 24 := onesOf_is (n := 24) ⟨by decide, by decide⟩
      rw [eo]
      simp only [show ((24 : Int) == 24) = true from rfl, cond_true]
      refine c_isHost ?_
      have ih : isHost ((3232235521 : Nat) : Int) = true := by decide
      rw [ih, cond_true]
      refine c_isHost ?_
      have ih2 : isHost 1 = false := by decide
      rw [ih2]
      exact hK _ ((X13.trans x14).trans x15)
    · intro hbad
      exact absurd ⟨[2, 0, 94, 16, 0, 255], rfl, col_live.symm⟩ hbad
  · intro hbad
    exact absurd ⟨3232235521, by decide, dot_live.symm⟩ hbad

end Go.Proofs.YtlioifgejijcoaaDoor

/-
  A law's row out of a walk: it returns true, only new blocks; what the row lists as laid, and the world's shape, are the walk's to use.
-/
set_option linter.unusedSimpArgs false
set_option linter.unusedVariables false
namespace Go.Hw
open Go
open Go.ChangeShapes Go.WideShapes Go.ChangeAt Go.RowKit

section
variable {H : Type} {enc : TypeId × Value → H}
theorem law_lift {C : Checked} {os : Os} {f : FuncId} {fn : Func} {s : ChangeSpec} {X : World → Prop} {tb : TypeId}
    (hX : ∀ (w w' : World), w.heap = w'.heap → X w → X w')
    (own : ownKnob C.prog.godebug = none) (started : os.Started) (noInit : C.prog.inits.idxOf? f = none) (hfn : C.prog.funcs[f]? = some fn)
    (witness : ∃ (w : World) (tape : Tape) (i : Input), w.os = os ∧ (w.forCall tape i).Shaped C.prog ∧ i.vars = [] ∧ Input.okWide C.prog (w.forCall tape i) .any w.heap.size f i ∧
      ((s.pre enc C.prog fn [] false (w.forCall tape i).memory i.args ∧ X (w.forCall tape i).memory) ∧ sizedMet enc C.prog fn (OpenSpec.ofChange s) false (w.forCall tape i).memory i.args) ∧ ({} : Assume).holds C.prog (lone (Frame.enter C.prog f i.args .normal) [] (w.forCall tape i)))
    (hl : laidOutB C.prog = true) (hr : ∀ t ∈ fn.params.toList, C.prog.readableRec t = true ∧ t < C.prog.types.size) (hrt : fn.resultTypes = #[tb]) (hb : C.prog.underlying tb = some .bool)
    (hvs : s.vars = [])
    (hspec : ∀ ds : List (DataW H), ds.length = fn.params.size → (s.fn H ds).results = [.lit (.bool true)] ∧ (s.fn H ds).args = ds ∧ (s.fn H ds).vars = [])
    (walk : ∀ (W : World) (base : Nat) (args : Array Value) (ds : List (DataW H)) (p : List MemPlace),
      (∀ (j : Nat) t v, fn.params[j]? = some t → args[j]? = some v → Value.okWide C.prog W .any base t v) →
      DataW.TrodAll enc C.prog W 0 (fun _ => true) true fn.params.toList args.toList ds p →
      (DataW.weightsEach C.prog fn.params.toList ds).all (· ≤ reachBytes) = true →
      X W → W.ShapedOpen C.prog →
      HCalls C.prog f args (hpOf W) fun v h' => v = .bool true ∧ Ext none' (hpOf W) h') :
    ReturnsInHanded {} C os f .any (fun w args => (s.pre enc C.prog fn [] false w args ∧ X w) ∧ sizedMet enc C.prog fn (OpenSpec.ofChange s) false w args) (s.post enc C.prog fn false true false false) := by
  refine returnsInHanded_of_calls own started noInit witness ?_
  intro w tape i _ hsh _ hok hpre hholds
  obtain ⟨_, _, _, fn', hfn', _, _, _, _, hval⟩ := hok
  have e : fn' = fn := Option.some.inj (hfn'.symm.trans hfn)
  subst e
  obtain ⟨⟨⟨ds, gs, before, hw, hc⟩, hx⟩, hz⟩ := hpre
  have hw' := DataW.Whole.of_heap (w' := w.forCall tape i) (by rfl) hw
  have hwt := hz.weights hw
  have hw2 := hw'
  obtain ⟨p, q, hA0, hV, hpq, hfz, hnd⟩ := hw2
  have hA : DataW.TrodAll enc C.prog (w.forCall tape i) 0 (fun _ => true) true fn'.params.toList i.args.toList ds p := hA0
  have hV' := hV
  rw [hvs] at hV'
  obtain ⟨rfl, rfl⟩ := trodVars_none hV'
  have hvt : DataSpec.varTypes C.prog (OpenSpec.ofChange s).bare.plain = [] := by
    unfold DataSpec.varTypes
    have : (OpenSpec.ofChange s).bare.plain.vars = [] := hvs
    rw [this]; rfl
  rw [hvt] at hwt
  simp only [List.append_nil] at hwt
  have hlen : ds.length = fn'.params.size := by
    have : ∀ {ts : List TypeId} {vs : List Value} {ds : List (DataW H)} {p : List MemPlace}, DataW.TrodAll enc C.prog (w.forCall tape i) 0 (fun _ => true) true ts vs ds p → ds.length = ts.length := by
      intro ts
      induction ts with
      | nil => intro vs ds p h; obtain ⟨_, rfl, _⟩ := trodAll_nil h; rfl
      | cons t ts ih => intro vs ds p h; obtain ⟨_, _, _, _, _, _, _, rfl, _, _, h2⟩ := trodAll_cons h; simp [ih h2]
    have := this hA
    rw [this]; simp
  have hc2 := walk (w.forCall tape i) w.heap.size i.args ds p hval hA hwt (hX _ _ (by rfl) hx) hsh
  refine (hc2 _ rfl).mono ?_
  rintro e W' ⟨v, rfl, ⟨rfl, he⟩, hp⟩
  obtain ⟨s1, s2, s3⟩ := hspec ds hlen
  exact ChangeSpec.post_blind (law_post hl hr hrt hb (hvs ▸ hw') hvs s1 s2 s3 hp he)
end

/-- a table that is laid -/
theorem laid_one {P : Program} {W : World} {l : List (String × DataW Unit)} {n : String} {d : DataW Unit} (h : laidMetH P l W) (hn : (l.filter fun x => x.2.handleName?.isSome) = []) (he : (l.filter fun x => x.1 == n) = [(n, d)]) : laidMet P [(n, d)] W := by
  have h2 : laidMet P l W := by
    unfold laidMetH at h
    rw [hn] at h; exact h
  have h3 := laidMet.filter (fun x => x.1 == n) h2
  rw [he] at h3; exact h3
end Go.Hw

/-
  The frame of layer 1's laws: what is laid; a world that meets it.
-/
set_option linter.unusedSimpArgs false
set_option linter.unusedVariables false
namespace Go.Proofs.YtlioifgejijcoaaDoor
open Go Go.Hw
open Go.ChangeShapes Go.WideShapes Go.ChangeAt Go.RowKit

theorem own_knob : ownKnob Tryd.prog.godebug = none := by kernel_rfl
theorem laid_out : laidOutB Tryd.prog = true := by kernel_rfl
theorem g_pow : Tryd.prog.globalNamed "internal/strconv.uint64pow10" = some 3 := by kernel_rfl
theorem g_syn : Tryd.prog.globalNamed "strconv.ErrSyntax" = some 0 := by kernel_rfl
theorem g_rng : Tryd.prog.globalNamed "strconv.ErrRange" = some 1 := by kernel_rfl

/-- the world with the variables as they are laid -/
noncomputable def low : Nat := (World.holding Tryd.prog default ⟨#[], #[], []⟩).heap.size
def rowOf {H : Type} (d : DataW H) : Array Value := match d with
  | .agg l => (l.flatMap fun
    | .lit (.int k n) => [Value.int k n]
    | .agg m => m.map fun | .lit (.int k n) => Value.int k n | _ => .nilIface
    | _ => []).toArray
  | _ => #[]
def layAt (w : World) (g : Nat) (cs : Array Value) : World :=
  { w with heap := w.heap.modify g fun
      | .cells _ t frozen => .cells cs t frozen
      | o => o }
noncomputable def laidWorld (os : Os) : World :=
  layAt (layAt (layAt (layAt (layAt (layAt (layAt (World.holding Tryd.prog os ⟨#[.cells #[.string ⟨⟨[118, 97, 108, 117, 101, 32, 111, 117, 116, 32, 111, 102, 32, 114, 97, 110, 103, 101]⟩⟩] 114, .cells #[.string ⟨⟨[105, 110, 118, 97, 108, 105, 100, 32, 115, 121, 110, 116, 97, 120]⟩⟩] 114], #[], []⟩)
      6 (rowOf (H := Unit) Rows.laid_math_bits_deBruijn32tab))
      7 (rowOf (H := Unit) Rows.laid_math_bits_deBruijn64tab))
      3 (rowOf (H := Unit) Rows.laid_internal_strconv_uint64pow10))
      5 (rowOf (H := Unit) Rows.laid_unicode_utf8_acceptRanges))
      4 (rowOf Rows.laid_unicode_utf8_first))
      1 #[.iface 112 (.pointer (some ⟨low, 0, none⟩))])
      0 #[.iface 112 (.pointer (some ⟨low + 1, 0, none⟩))]
abbrev laidL : List (String × DataW Unit) := Rows.octetTurnsRow.laid
theorem laid_met (os : Os) (args : Array Value) : laidMetH Tryd.prog laidL ((laidWorld os).forCall (fun _ _ => 0) ⟨#[], args, []⟩).memory := by
  have h : laidMet Tryd.prog laidL ((laidWorld os).forCall (fun _ _ => 0) ⟨#[], args, []⟩).memory := laidMet_of_run' 8 (by kernel_rfl) (by kernel_rfl)
  exact h
end Go.Proofs.YtlioifgejijcoaaDoor

/-
  What is laid is what the walks ask for; a law's row out of its walk.
-/
set_option linter.unusedSimpArgs false
set_option linter.unusedVariables false
namespace Go.Proofs.YtlioifgejijcoaaDoor
open Go Go.Hw
open Go.ChangeShapes Go.WideShapes Go.ChangeAt Go.RowKit

theorem none_handles : (laidL.filter fun x => x.2.handleName?.isSome) = [] := by kernel_rfl
theorem one_pow : (laidL.filter fun x => x.1 == "internal/strconv.uint64pow10") = [("internal/strconv.uint64pow10", Rows.laid_internal_strconv_uint64pow10)] := by kernel_rfl
theorem one_syn : (laidL.filter fun x => x.1 == "strconv.ErrSyntax") = [("strconv.ErrSyntax", Rows.laid_strconv_ErrSyntax)] := by kernel_rfl
theorem one_rng : (laidL.filter fun x => x.1 == "strconv.ErrRange") = [("strconv.ErrRange", Rows.laid_strconv_ErrRange)] := by kernel_rfl
theorem pow_data : (Rows.laid_internal_strconv_uint64pow10 : DataW Unit) = Lib.tabData .u64 Lib.pow10Tab := by kernel_rfl
theorem errstr (u : TypeId) (h : Tryd.prog.typeName? 3 u = some "*errors.errorString") : u = 112 :=
  typeName_ptr_named (nm := "errors.errorString") (by rw [show "*" ++ "errors.errorString" = "*errors.errorString" by decide]; kernel_rfl) (by kernel_rfl) (by decide) u (by rw [show "*" ++ "errors.errorString" = "*errors.errorString" by decide]; exact h)

theorem glob_of {W : World} (h : laidMetH Tryd.prog laidL W) (hsh : W.ShapedOpen Tryd.prog) : Glob (hpOf W) := by
  have hp := laid_one h none_handles one_pow
  have hs := laid_one h none_handles one_syn
  have hr := laid_one h none_handles one_rng
  rw [pow_data] at hp
  have tab : Lib.TabIs Tryd.prog W "internal/strconv.uint64pow10" .u64 Lib.pow10Tab := by
    obtain ⟨t, e, n, q1, q2, q3, q4, q5⟩ : ∃ t e n, (Tryd.prog.globals[3]?).map (·.type) = some t ∧ Tryd.prog.underlying t = some (.array n e) ∧ Tryd.prog.underlying e = some (.int .u64) ∧ Tryd.prog.cellsOf e = 1 ∧ Tryd.prog.cellsOf t = n := ⟨116, 22, 20, by kernel_rfl, by kernel_rfl, by kernel_rfl, by kernel_rfl, by kernel_rfl⟩
    exact Lib.tabIs_of_head g_pow q1 q2 q3 q4 q5 hp
  have hvar := tab
  unfold Lib.TabIs at hvar
  refine ⟨fun i z hz => ?_, ?_, ?_, ?_, ?_⟩
  · have hi := lt_of_get hz
    have := World.var?_cell g_pow hvar i
    rw [cell_hp, this]
    simp [hz]
  · unfold World.var? at hvar
    rw [g_pow] at hvar
    simp only [Option.bind_some] at hvar
    cases hb : W.heap[3]? with
    | none => rw [hb] at hvar; cases hvar
    | some o =>
      rw [hb] at hvar
      cases o <;> simp at hvar
      rename_i c e fr
      exact ⟨c.toList, e, fr, hb, by rw [hvar]; simp [pow_len]⟩
  · obtain ⟨a, s, hv, _, _, _⟩ := laid_sentinel (ti := 70) (tp := 112) (te := 114) (ts := 9) (ms := #[("Error", 85)]) (f := ⟨"s", 9, 0, false, "", "errors", 0⟩) hs g_syn (by kernel_rfl) (by kernel_rfl) errstr (by kernel_rfl) (by kernel_rfl) rfl rfl (by kernel_rfl) (by kernel_rfl) (by kernel_rfl)
    exact ⟨_, _, by rw [cell_hp]; have := World.var?_cell g_syn hv 0; simpa using this⟩
  · obtain ⟨a, s, hv, _, _, _⟩ := laid_sentinel (ti := 70) (tp := 112) (te := 114) (ts := 9) (ms := #[("Error", 85)]) (f := ⟨"s", 9, 0, false, "", "errors", 0⟩) hr g_rng (by kernel_rfl) (by kernel_rfl) errstr (by kernel_rfl) (by kernel_rfl) rfl rfl (by kernel_rfl) (by kernel_rfl) (by kernel_rfl)
    exact ⟨_, _, by rw [cell_hp]; have := World.var?_cell g_rng hv 0; simpa using this⟩
  · obtain ⟨m, hm⟩ := cell_of_shapedOpen_int (g := 2) (t := 3) (zero := #[.int .i64 0]) (k := .i64) hsh (of_decide_eq_true (by kernel_rfl)) (by kernel_rfl) (by kernel_rfl) (by kernel_rfl) (by kernel_rfl) (by kernel_rfl)
    exact ⟨m, hm⟩
end Go.Proofs.YtlioifgejijcoaaDoor

/-
  Arguments opened: numbers, byte slices, arrays of bytes, strings; what they read as on the abstract heap.
-/
set_option linter.unusedSimpArgs false
set_option linter.unusedVariables false
namespace Go.Hw
open Go
open Go.ChangeShapes Go.WideShapes Go.ChangeAt Go.RowKit

section
variable {H : Type} {enc : TypeId × Value → H} {P : Program}

/-- an element of one byte -/
theorem one_byte {W : World} {sp : Nat → Bool} {held : Bool} {n : Nat} {e : TypeId} {cs : List Value} {y : DataW H × List MemPlace} (he : P.underlying e = some (.int .u8)) (h : DataW.trod enc P W 0 sp held n e cs = some y) :
    ∃ b : UInt8, cs = [.int .u8 b.toNat] := by
  obtain ⟨m, h1, _, hw⟩ := DataW.trod_int he h
  simp [Lit.wf, IntKind.min, IntKind.max, IntKind.signed, IntKind.bits] at hw
  refine ⟨UInt8.ofNat m.toNat, ?_⟩
  rw [h1, putd_u8 (by omega) (by omega)]

theorem bytes_of : ∀ {css : List (List Value)}, (∀ cs ∈ css, ∃ b : UInt8, cs = [.int .u8 b.toNat]) → ∃ l : List UInt8, l.length = css.length ∧ css = l.map fun b => [.int .u8 b.toNat]
  | [], _ => ⟨[], rfl, rfl⟩
  | cs :: css, h => by
    obtain ⟨b, hb⟩ := h cs (by simp)
    obtain ⟨l, hl, he⟩ := bytes_of (css := css) fun cs hc => h cs (by simp [hc])
    exact ⟨b :: l, by simp [hl], by rw [hb, he]; rfl⟩

/-- a byte slice -/
theorem bytes_open {r : Reach} {W : World} {b0 : Nat} {held : Bool} {t e : TypeId} {v : Value} {d : DataW H} {ps : List MemPlace} (ht : P.underlying t = some (.slice e)) (he : P.underlying e = some (.int .u8)) (hc : P.cellsOf e = 1)
    (hval : Value.okWide P W r b0 t v) (hd : DataW.Trod enc P W 0 (fun _ => true) held t v d ps) :
    ∃ (s : Sl) (l : List UInt8), v = s.v ∧ RdB (hpOf W) s l ∧ (s.c = 0 ∨ ∃ elems spare, d = .slice elems spare ∧ elems.length + spare.length = s.c) := by
  obtain ⟨s, css, hv, hnc, _, ⟨hr1, hr2⟩, hel⟩ := rows_open ht hval hd
  obtain ⟨l, hl, rfl⟩ := bytes_of fun cs hm => by
    obtain ⟨n, y, hy⟩ := hel cs hm
    exact one_byte he hy
  have hcm : s.c = 0 ∨ ∃ elems spare, d = .slice elems spare ∧ elems.length + spare.length = s.c := by
    obtain ⟨fuel, hf⟩ := hd
    subst hv
    have hcs : s.v.cells.toList = [s.v] := rfl
    rw [hcs] at hf
    rcases DataW.trod_slice ht hf with ⟨h0, _⟩ | ⟨a, len, cap, elems, rest, m, _, h1, hx, _, hlc, hm, hle, _, hsp, _⟩
    · simp only [Sl.v, List.cons.injEq, Value.slice.injEq, and_true] at h0
      exact .inl h0.2.2
    · simp only [Sl.v, List.cons.injEq, Value.slice.injEq, and_true] at h1
      refine .inr ⟨_, _, (Prod.mk.inj hx).1, ?_⟩
      have := (hsp rfl).1
      simp only [List.length_map]
      omega
  refine ⟨s, l, hv, ⟨?_, hnc, ?_⟩, hcm⟩
  · simp at hr1 ⊢; omega
  · intro i v hi
    rw [bc_get] at hi
    obtain ⟨b, hb, rfl⟩ := Option.map_eq_some_iff.1 hi
    obtain ⟨a, ha, hcell⟩ := hr2 i [.int .u8 b.toNat] (by simp [hb])
    refine ⟨a, ha, ?_⟩
    have := hcell 0 (by rw [hc]; omega)
    rw [hc] at this
    simpa [add_add] using this

/-- an array of bytes -/
theorem arr_open {r : Reach} {W : World} {b0 : Nat} {sp : Nat → Bool} {held : Bool} {t e : TypeId} {n : Nat} {v : Value} {d : DataW H} {ps : List MemPlace} (ht : P.underlying t = some (.array n e)) (he : P.underlying e = some (.int .u8)) (hc : P.cellsOf e = 1) (hn : P.cellsOf t = n)
    (hval : Value.okWide P W r b0 t v) (hd : DataW.Trod enc P W 0 sp held t v d ps) :
    ∃ l : List UInt8, l.length = n ∧ v = .agg ⟨bc l⟩ := by
  unfold Value.okWide at hval
  rw [ht] at hval
  obtain ⟨cs, rfl, hs, _⟩ := hval
  obtain ⟨fuel, hf⟩ := hd
  have hcs : (Value.agg cs).cells.toList = cs.toList := rfl
  rw [hcs] at hf
  obtain ⟨xs, m, _, _, hl, hx, hel⟩ := DataW.trod_array ht hf
  rw [hn] at hl
  rw [hc] at hel
  have each : ∀ x ∈ cs.toList.map (fun v => [v]), ∃ b : UInt8, x = [.int .u8 b.toNat] := by
    intro x hx'
    obtain ⟨v, hv, rfl⟩ := List.mem_map.1 hx'
    obtain ⟨i, hi, rfl⟩ := List.getElem_of_mem hv
    have h2 := hel i (by omega)
    rw [List.getElem?_eq_getElem (by omega)] at h2
    have e1 : (cs.toList.drop (i * 1)).take 1 = [cs.toList[i]] := by
      rw [Nat.mul_one]
      rw [List.drop_eq_getElem_cons hi]; rfl
    rw [e1] at h2
    exact one_byte he h2
  obtain ⟨l, h3, h4⟩ := bytes_of each
  refine ⟨l, by simpa [hl] using h3, ?_⟩
  have : cs.toList = bc l := by
    have := congrArg List.flatten h4
    have e1 : ∀ l : List Value, (l.map fun v => [v]).flatten = l := fun l => by induction l <;> simp_all
    have e2 : (l.map fun b : UInt8 => [Value.int .u8 b.toNat]).flatten = bc l := by
      have := e1 (bc l)
      simpa [bc, Function.comp_def] using this
    rw [e1, e2] at this
    exact this
  rw [← this]

/-- a number -/
theorem int_open {r : Reach} {W : World} {b0 : Nat} {sp : Nat → Bool} {held : Bool} {t : TypeId} {k : IntKind} {v : Value} {d : DataW H} {ps : List MemPlace} (ht : P.underlying t = some (.int k)) (hval : Value.okWide P W r b0 t v) (hd : DataW.Trod enc P W 0 sp held t v d ps) :
    ∃ n, v = .int k n ∧ (Lit.int k n).wf = true := by
  obtain ⟨n, h1, _, _, h2⟩ := open_int ht hval hd
  exact ⟨n, h1, h2⟩

/-- a string -/
theorem str_open {r : Reach} {W : World} {b0 : Nat} {sp : Nat → Bool} {held : Bool} {t : TypeId} {v : Value} {d : DataW H} {ps : List MemPlace} (ht : P.underlying t = some .string) (hval : Value.okWide P W r b0 t v) (hd : DataW.Trod enc P W 0 sp held t v d ps) :
    ∃ s : ByteArray, v = .string s ∧ d = .lit (.string s.data.toList) := by
  obtain ⟨fuel, hf⟩ := hd
  obtain ⟨s, h, hx, hs⟩ := DataW.trod_string ht hf
  unfold Value.okWide at hval
  rw [ht] at hval
  simp only at hval
  unfold Cell.okWide at hval
  rw [ht] at hval
  cases v <;> simp only [Cell.ok, ht] at hval <;> first | exact hval.elim | skip
  simp [Value.cells] at h
  subst h
  exact ⟨_, rfl, by simp_all⟩
theorem wfb {k : IntKind} {n : Int} (h : (Lit.int k n).wf = true) : k.min ≤ n ∧ n ≤ k.max := by
  simpa [Lit.wf] using h

/-- a byte slice that lies in cells -/
theorem bytes_core {W : World} {held : Bool} {n : Nat} {t e : TypeId} {cs : List Value} {y : DataW H × List MemPlace} (ht : P.underlying t = some (.slice e)) (he : P.underlying e = some (.int .u8)) (hc : P.cellsOf e = 1)
    (hf : DataW.trod enc P W 0 (fun _ => true) held n t cs = some y) :
    ∃ (s : Sl) (l : List UInt8), cs = [s.v] ∧ RdB (hpOf W) s l ∧ (s.c = 0 ∨ ∃ elems spare, y.1 = .slice elems spare ∧ elems.length + spare.length = s.c) := by
  rcases DataW.trod_slice ht hf with ⟨h0, hx⟩ | ⟨a, len, cap, elems, rest, m, _, h1, hx, _, hl, _, hlen, hel, hsp, _⟩
  · exact ⟨⟨none, 0, 0⟩, [], h0, RdB.nil, .inl rfl⟩
  · have each : ∀ x ∈ List.range len, ∃ b : UInt8, cell (hpOf W) (a.add x) = some (.int .u8 b.toNat) := by
      intro x hx
      have hx := List.mem_range.1 hx
      have h2 := hel x hx
      rw [List.getElem?_eq_getElem (by omega)] at h2
      obtain ⟨cs, h3, h4⟩ := Option.bind_eq_some_iff.1 h2
      obtain ⟨b, rfl⟩ := one_byte he h4
      refine ⟨b, ?_⟩
      have := (World.cells?_some h3).2.2 0 (by rw [hc]; omega)
      rw [hc] at this
      rw [cell_hp]
      simpa [add_add] using this
    obtain ⟨l, hll, hl2⟩ := pick_all (fun (x : Nat) (b : UInt8) => cell (hpOf W) (a.add x) = some (.int .u8 b.toNat)) each
    simp only [List.length_range] at hll
    refine ⟨⟨some a, len, cap⟩, l, h1, ⟨hll.symm, hl, ?_⟩, .inr ⟨_, _, by rw [hx], ?_⟩⟩
    · intro i v hi
      rw [bc_get] at hi
      obtain ⟨b, hb, rfl⟩ := Option.map_eq_some_iff.1 hi
      have hil : i < len := by rw [← hll]; exact (List.getElem?_eq_some_iff.1 hb).1
      obtain ⟨b', hb', hcell⟩ := hl2 i i (by simp [hil])
      have : b = b' := Option.some.inj (hb.symm.trans hb')
      subst this
      exact ⟨a, rfl, hcell⟩
    · have := (hsp rfl).1
      simp only [List.length_map]
      omega
theorem weights_mem_all {e : TypeId} {n : Nat} {d : DataW H} (hn : n ∈ d.weights P e) : ∀ {ds : List (DataW H)}, d ∈ ds → n ∈ DataW.weightsAll P e ds
  | d' :: ds, hd => by
    unfold DataW.weightsAll
    rcases List.mem_cons.1 hd with rfl | hd
    · exact List.mem_append.2 (.inl hn)
    · exact List.mem_append.2 (.inr (weights_mem_all hn hd))
/-- a row of byte slices -/
theorem parts_open {r : Reach} {W : World} {b0 : Nat} {held : Bool} {t e u : TypeId} {v : Value} {d : DataW H} {ps : List MemPlace} (ht : P.underlying t = some (.slice e)) (he : P.underlying e = some (.slice u)) (hu : P.underlying u = some (.int .u8)) (hce : P.cellsOf e = 1) (hcu : P.cellsOf u = 1) (hbu : P.bytesOf u = 1)
    (hwt : ∀ n ∈ d.weights P t, n ≤ reachBytes)
    (hval : Value.okWide P W r b0 t v) (hd : DataW.Trod enc P W 0 (fun _ => true) held t v d ps) :
    ∃ (s : Sl) (ts : List Sl) (ps : List (List UInt8)), v = s.v ∧ s.n = ts.length ∧ s.n ≤ s.c ∧ ts.length = ps.length ∧ Rdc (hpOf W) s.p (ts.map Sl.v) ∧
      (∀ (i : Nat) t l, ts[i]? = some t → ps[i]? = some l → RdB (hpOf W) t l) ∧ (∀ l ∈ ps, l.length ≤ 140737488351232) ∧ s.c * P.bytesOf e ≤ 140737488351232 := by
  obtain ⟨p, n, c, rfl⟩ := okWide_slice ht hval
  obtain ⟨fuel, hf⟩ := hd
  have hcs : (Value.slice p n c).cells.toList = [.slice p n c] := rfl
  rw [hcs] at hf
  rcases DataW.trod_slice ht hf with ⟨h0, hx⟩ | ⟨a, len, cap, elems, rest, m, _, h1, hx, _, hl, _, hlen, hel, hsp, _⟩
  · simp only [List.cons.injEq, Value.slice.injEq, and_true] at h0
    obtain ⟨rfl, rfl, rfl⟩ := h0
    exact ⟨⟨none, 0, 0⟩, [], [], rfl, rfl, Nat.le_refl _, rfl, by intro i v hi; simp at hi, by simp, by simp, by simp⟩
  · simp only [List.cons.injEq, Value.slice.injEq, and_true] at h1
    obtain ⟨rfl, rfl, rfl⟩ := h1
    have hxd := (Prod.mk.inj hx).1
    subst hxd
    have each : ∀ i ∈ List.range n, ∃ y : Sl × List UInt8, cell (hpOf W) (a.add i) = some y.1.v ∧ RdB (hpOf W) y.1 y.2 ∧ y.2.length ≤ 140737488351232 := by
      intro i hi
      have hi := List.mem_range.1 hi
      have h2 := hel i hi
      have hil : i < elems.length := by omega
      rw [List.getElem?_eq_getElem hil] at h2
      obtain ⟨cs, h3, h4⟩ := Option.bind_eq_some_iff.1 h2
      obtain ⟨s, l, rfl, hr, hcap⟩ := bytes_core he hu hcu h4
      refine ⟨(s, l), ?_, hr, ?_⟩
      · have := (World.cells?_some h3).2.2 0 (by rw [hce]; omega)
        rw [hce] at this
        rw [cell_hp]
        simpa [add_add] using this
      · have hrn := hr.n
        have hrc := hr.c
        rcases hcap with h0 | ⟨el, sp, hy, hls⟩
        · show l.length ≤ _; omega
        · have hm : (el.length + sp.length) * P.bytesOf u ∈ (elems[i].1).weights P e := by rw [hy]; simp [DataW.weights, he]
          have hm2 : (el.length + sp.length) * P.bytesOf u ∈ DataW.weights P t (DataW.slice (elems.map (·.1)) (rest.map (·.1))) := by
            simp only [DataW.weights, ht]
            refine List.mem_cons.2 (.inr (List.mem_append.2 (.inl (weights_mem_all hm ?_))))
            exact List.mem_map.2 ⟨_, List.getElem_mem hil, rfl⟩
          have := hwt _ hm2
          rw [hbu] at this
          unfold reachBytes at this
          show l.length ≤ _
          omega
    obtain ⟨es, hes, hes2⟩ := pick_all (fun (i : Nat) (y : Sl × List UInt8) => cell (hpOf W) (a.add i) = some y.1.v ∧ RdB (hpOf W) y.1 y.2 ∧ y.2.length ≤ 140737488351232) each
    simp only [List.length_range] at hes
    have get : ∀ i y, es[i]? = some y → cell (hpOf W) (a.add i) = some y.1.v ∧ RdB (hpOf W) y.1 y.2 ∧ y.2.length ≤ 140737488351232 := by
      intro i y hi
      have hil : i < n := by rw [← hes]; exact (List.getElem?_eq_some_iff.1 hi).1
      obtain ⟨y', h1, h2⟩ := hes2 i i (by simp [hil])
      have : y = y' := Option.some.inj (hi.symm.trans h1)
      subst this; exact h2
    refine ⟨⟨some a, n, c⟩, es.map (·.1), es.map (·.2), rfl, by simp [hes], hl, by simp, ?_, ?_, ?_, ?_⟩
    · intro i v hi
      simp only [List.map_map, List.getElem?_map, Option.map_eq_some_iff] at hi
      obtain ⟨y, hy, rfl⟩ := hi
      exact ⟨a, rfl, (get i y hy).1⟩
    · intro i t l h1 h2
      simp only [List.getElem?_map, Option.map_eq_some_iff] at h1 h2
      obtain ⟨y, hy, rfl⟩ := h1
      obtain ⟨y', hy', rfl⟩ := h2
      have : y = y' := Option.some.inj (hy.symm.trans hy')
      subst this
      exact (get i y hy).2.1
    · intro l hl
      obtain ⟨y, hy, rfl⟩ := List.mem_map.1 hl
      obtain ⟨i, hi, rfl⟩ := List.getElem_of_mem hy
      exact (get i _ (List.getElem?_eq_getElem hi)).2.2
    · have hm2 : (elems.length + rest.length) * P.bytesOf e ∈ DataW.weights P t (DataW.slice (elems.map (·.1)) (rest.map (·.1))) := by simp [DataW.weights, ht]
      have := hwt _ hm2
      have hr := (hsp rfl).1
      unfold reachBytes at this
      have e1 : elems.length + rest.length = c := by omega
      rw [e1] at this; exact this
/-- what one argument weighs -/
theorem weighs {ts : List TypeId} {ds : List (DataW H)} (h : (DataW.weightsEach P ts ds).all (· ≤ reachBytes) = true) {j : Nat} {t : TypeId} {d : DataW H} (ht : ts[j]? = some t) (hd : ds[j]? = some d) : ∀ n ∈ d.weights P t, n ≤ reachBytes := by
  intro n hn
  have := List.all_eq_true.1 h _ (DataW.weights_mem_each ht hd n hn)
  simpa using this

/-- what a slice of bytes and a string weigh -/
theorem cap_le {ts : List TypeId} {ds : List (DataW H)} (h : (DataW.weightsEach P ts ds).all (· ≤ reachBytes) = true) {j : Nat} {t e : TypeId} {s : Sl} {d : DataW H} (ht : ts[j]? = some t) (hd : ds[j]? = some d) (hu : P.underlying t = some (.slice e)) (hb : P.bytesOf e = 1)
    (hs : s.c = 0 ∨ ∃ elems spare, d = .slice elems spare ∧ elems.length + spare.length = s.c) : s.c ≤ 140737488351232 := by
  rcases hs with h0 | ⟨el, sp, rfl, hl⟩
  · omega
  · have := sized_slice h ht hd hu
    rw [hb] at this
    unfold reachBytes at this
    omega
theorem size_le {ts : List TypeId} {ds : List (DataW H)} (h : (DataW.weightsEach P ts ds).all (· ≤ reachBytes) = true) {j : Nat} {t : TypeId} {s : ByteArray} (ht : ts[j]? = some t) (hd : ds[j]? = some (.lit (.string s.data.toList))) : s.size ≤ 140737488351232 := by
  have := sized_string h ht hd
  unfold reachBytes at this
  show s.data.size ≤ _
  rw [← Array.length_toList]
  exact this
end
end Go.Hw

/-
  Books begun; lent lists read.
-/
set_option linter.unusedSimpArgs false
set_option linter.unusedVariables false
namespace Go.Proofs.YtlioifgejijcoaaDoor
open Go Go.Hw

theorem book_new {L : List Asn} {h : Hp} {b : Nat} (hs : Sat L h) (hb : h b = none) : Sat (L ++ [bookA b []]) (upd h b (.cells ⟨[.slice none 0 0, .slice none 0 0]⟩ 30 (0, 0))) := by
  have h0 : Sat (L ++ []) h := by simpa using hs
  have h3 := ((h0.new hb (.cells ⟨[.slice none 0 0, .slice none 0 0]⟩ 30 (0, 0))).addNil 24 1).addNil 9 1
  have h4 := Sat.close (L := L ++ [row b 30 [.slice none 0 0, .slice none 0 0], Hw.own 24 1 ⟨none, 0, 0⟩ [], Hw.own 9 1 ⟨none, 0, 0⟩ []]) (M := []) (by simpa [row] using h3)
  have h5 : Sat (L ++ [row b 30 [.slice none 0 0, .slice none 0 0], Hw.own 24 1 ⟨none, 0, 0⟩ [], Hw.own 9 1 ⟨none, 0, 0⟩ [], star []]) (upd h b (.cells ⟨[.slice none 0 0, .slice none 0 0]⟩ 30 (0, 0))) := by simpa using h4
  exact Sat.ex (A := fun p : Sl × Sl => star [row b 30 [p.1.v, p.2.v], Hw.own 24 1 p.1 (([] : List Ent).map fun e => e.1.v), Hw.own 9 1 p.2 (([] : List Ent).map fun e => .string ⟨⟨e.2⟩⟩), star (([] : List Ent).map ownB)]) (⟨none, 0, 0⟩, ⟨none, 0, 0⟩) h5.close

theorem lent_rdb {h : Hp} {p : Option Addr} {l : List UInt8} (ho : Own h 5 1 ⟨p, l.length + 2, l.length + 2⟩ (bc (l ++ [71, 72]))) : RdB h ⟨p, l.length, l.length + 2⟩ l := by
  refine ⟨rfl, by simp, ?_⟩
  have := ho.rdb.r.take l.length
  rw [← bc_take] at this
  simpa using this
theorem putL_len (n : Nat) (w : Int) : (putL n w).length ≤ 8 := by
  unfold putL
  split
  · simp
  · rename_i h
    rw [be_len]
    omega
end Go.Proofs.YtlioifgejijcoaaDoor

/-
  Rows of bytes that may bear a mark behind their end (a string's bytes, taken as a slice): reading, writing, append.
-/
set_option linter.unusedSimpArgs false
set_option linter.unusedVariables false
namespace Go.Hw
open Go

def Blm (h : Hp) (b : Nat) (T : TypeId) (l : List Value) : Prop := ∃ z : Nat × Nat, (z.1 = z.2 ∨ l.length ≤ z.1) ∧ h b = some (.cells ⟨l⟩ T z)
theorem Blk.m {h : Hp} {b : Nat} {T : TypeId} {l : List Value} (hb : Blk h b T l) : Blm h b T l := ⟨(0, 0), .inl rfl, hb⟩
theorem Blm.cell {h : Hp} {b k : Nat} {T : TypeId} {l : List Value} (hb : Blm h b T l) : Hw.cell h ⟨b, k, none⟩ = l[k]? := by
  obtain ⟨z, _, hb⟩ := hb; exact cell_at hb
theorem Blm.st {h : Hp} {b k : Nat} {T : TypeId} {l : List Value} {v : Value} {F : Hp → Prop} (hb : Blm h b T l) (hk : k < l.length) (hp : plain v = true)
    (hF : ∀ h', Blm h' b T (l.set k v) → (∀ c, c ≠ b → h' c = h c) → F h') : Hw.st h ⟨b, k, none⟩ v F := by
  obtain ⟨⟨z1, z2⟩, hz, hb⟩ := hb
  unfold Hw.st; rw [hp]
  refine ⟨⟨by rw [cell_at hb]; simp [hk], ?_⟩, ?_⟩
  · unfold frz
    simp only [hb]
    rcases hz with hz | hz
    · have hz : z1 = z2 := hz
      subst hz
      by_cases hq : z1 ≤ k
      · have : ¬ k < z1 := by omega
        simp [this]
      · simp [hq]
    · have : ¬ z1 ≤ k := by have : l.length ≤ z1 := hz; omega
      simp [this]
  · have e : setc h ⟨b, k, none⟩ v = upd h b (.cells ⟨l.set k v⟩ T (z1, z2)) := by simp [Hw.setc, hb]
    rw [e]
    exact hF _ ⟨(z1, z2), by simpa using hz, upd_same⟩ fun c hc => upd_ne hc
theorem wrL_blm {b : Nat} {T : TypeId} {F : Hp → Prop} {o : Nat} : ∀ (l : List Value) (i : Nat) (h : Hp) (cs : List Value), Blm h b T cs → o + i + l.length ≤ cs.length → (∀ v ∈ l, plain v = true) →
    (∀ h', Blm h' b T (setL cs (o + i) l) → (∀ c, c ≠ b → h' c = h c) → F h') → wrL ⟨b, o, none⟩ i l h F := by
  intro l
  induction l with
  | nil => intro i h cs hb _ _ hF; exact hF h hb fun _ _ => rfl
  | cons v l ih =>
    intro i h cs hb hi hp hF
    simp only [List.length_cons] at hi
    simp only [wrL, add_mk]
    refine hb.st (by omega) (hp v (List.mem_cons_self ..)) ?_
    intro h1 hb1 hf1
    refine ih (i + 1) _ (cs.set (o + i) v) hb1 (by simp; omega) (fun w hw => hp w (List.mem_cons_of_mem _ hw)) ?_
    intro h' hb' hf
    refine hF h' hb' ?_
    intro c hc; rw [hf c hc, hf1 c hc]

/-- a slice of bytes that owns its row -/
def OwnB (h : Hp) (T : TypeId) (s : Sl) (l : List UInt8) : Prop :=
  l.length = s.n ∧ s.n ≤ s.c ∧
  match s.p with
  | none => s.c = 0
  | some a => a = bk a.block ∧ ∃ cs, Blm h a.block T cs ∧ cs.length = s.c ∧ cs.take l.length = bc l
theorem Own.ownB {h : Hp} {T : TypeId} {s : Sl} {l : List UInt8} (ho : Own h T 1 s (bc l)) : OwnB h T s l := by
  obtain ⟨h1, h2, h3⟩ := ho
  refine ⟨by simpa using h1, h2, ?_⟩
  cases hp : s.p with
  | none => rw [hp] at h3; exact h3
  | some a =>
    rw [hp] at h3
    obtain ⟨e, cs, hb, hl, ht⟩ := h3
    exact ⟨e, cs, hb.m, by simpa using hl, by simpa using ht⟩
theorem OwnB.rdb {h : Hp} {T : TypeId} {s : Sl} {l : List UInt8} (ho : OwnB h T s l) : RdB h s l := by
  obtain ⟨h1, h2, h3⟩ := ho
  refine ⟨h1.symm, h2, ?_⟩
  intro i v hi
  have hil := (List.getElem?_eq_some_iff.1 hi).1
  rw [bc_len] at hil
  cases hp : s.p with
  | none => rw [hp] at h3; have : s.c = 0 := h3; omega
  | some a =>
    rw [hp] at h3
    obtain ⟨e, cs, hb, hl, ht⟩ := h3
    refine ⟨a, rfl, ?_⟩
    rw [e, add_bk, hb.cell]
    rw [← ht, List.getElem?_take, if_pos hil] at hi
    exact hi
theorem OwnB.st {h : Hp} {T : TypeId} {s : Sl} {l : List UInt8} (ho : OwnB h T s l) {k : Nat} (hk : k < l.length) {v : UInt8} {F : Hp → Prop}
    (hF : ∀ b h', s.p = some (bk b) → OwnB h' T s (l.set k v) → (∀ c, c ≠ b → h' c = h c) → F h') : ∃ b, s.p = some (bk b) ∧ Hw.st h ⟨b, k, none⟩ (.int .u8 v.toNat) F := by
  obtain ⟨h1, h2, h3⟩ := ho
  cases hp : s.p with
  | none => rw [hp] at h3; have : s.c = 0 := h3; omega
  | some a =>
    rw [hp] at h3
    obtain ⟨e, cs, hb, hl, ht⟩ := h3
    refine ⟨a.block, by rw [← e], ?_⟩
    refine hb.st (by omega) rfl ?_
    intro h' hb' hf
    refine hF a.block h' (by rw [hp, ← e]) ⟨by simpa using h1, h2, ?_⟩ hf
    show match s.p with | none => _ | some a => _
    rw [hp]
    refine ⟨e, _, hb', by simpa using hl, ?_⟩
    rw [List.length_set, List.take_set, ht, bc_set]
theorem OwnB.ap {P : Program} {T : TypeId} {s : Sl} {l m : List UInt8} {y : Value} {h : Hp} {F : Sl → Hp → Prop} (ho : OwnB h T s l)
    (hsz : P.cellsOf T = 1) (hz : (zc P T).length = 1) (hln : ∀ G : Nat → Prop, lnK y G = G m.length) (hsrc : ∀ G : List Value → Prop, G (bc m) → srcK h 1 m.length y G) (hby : (s.n + m.length) * 2 * P.bytesOf T ≤ 2 ^ 48)
    (hF : ∀ s' h', OwnB h' T s' (l ++ m) → Ext (fun b => s.p = some (bk b)) h h' → (∀ b, s'.p = some (bk b) → s.p = some (bk b) ∨ h b = none) → F s' h') : apK P T s y h F := by
  have hr := ho.rdb
  unfold apK
  rw [hln]
  obtain ⟨h1, h2, h3⟩ := ho
  refine ⟨fun hc => ?_, fun hc => ⟨?_, ?_⟩⟩
  · rw [hsz]
    refine hsrc _ ?_
    cases hp : s.p with
    | none =>
      rw [hp] at h3
      have h3' : s.c = 0 := h3
      have hm : m = [] := List.length_eq_zero_iff.1 (by omega)
      subst hm
      simp only []
      refine hF ⟨none, s.n + 0, s.c⟩ h ⟨by simp; omega, by simp; omega, h3'⟩ Ext.refl (by intro b hb; cases hb)
    | some a =>
      rw [hp] at h3
      obtain ⟨e, cs, hb, hl, ht⟩ := h3
      simp only []
      rw [e, add_bk, Nat.mul_one]
      refine wrL_blm (bc m) 0 h cs hb (by rw [bc_len]; omega) bc_plain ?_
      intro h' hb' hf
      rw [Nat.add_zero, setL_eq (by rw [bc_len]; omega)] at hb'
      refine hF ⟨some (bk a.block), s.n + m.length, s.c⟩ h' ⟨by simp; omega, hc, rfl, _, hb', ?_, ?_⟩ ?_ ?_
      · simp; omega
      · rw [← h1, ht, bc_app, List.append_assoc, ← List.append_assoc (bc l)]
        exact List.take_left' (by simp)
      · intro c o hco hn
        have : c ≠ a.block := by rintro rfl; exact hn (by show s.p = some (bk a.block); rw [hp, ← e])
        rw [hf c this]; exact hco
      · intro b hb; left; rw [← hb]; rw [hp, ← e]
  · have := nextcap_le (s.n + m.length) s.c hc
    calc _ ≤ 2 * (s.n + m.length) * P.bytesOf T := Nat.mul_le_mul_right _ this
      _ = (s.n + m.length) * 2 * P.bytesOf T := by rw [Nat.mul_comm 2]
      _ ≤ 2 ^ 48 := hby
  · rw [hsz]
    refine hr.srcK (n := s.n) (by omega) ?_
    refine hsrc _ ?_
    intro c b hcb hb
    rw [← h1, List.take_length]
    have harr : (⟨bc l ++ bc m⟩ : Array Value) ++ zeros P T (c - (l.length + m.length)) = ⟨(bc l ++ bc m) ++ (zeros P T (c - (l.length + m.length))).toList⟩ := by apply Array.ext'; simp
    rw [harr]
    refine hF ⟨some (bk b), l.length + m.length, c⟩ _ ⟨by simp, by show l.length + m.length ≤ c; omega, rfl, _, ⟨(0, 0), .inl rfl, upd_same⟩, ?_, ?_⟩ (Ext.new hb) ?_
    · show _ = c
      rw [List.length_append, zeros_len, hz, List.length_append, bc_len, bc_len]; omega
    · rw [bc_app]; exact List.take_left' (by simp)
    · intro b' hb'; right
      simp only [Option.some.injEq] at hb'
      have : b = b' := congrArg Addr.block hb'
      subst this; exact hb

/-- a slice of bytes that owns its row -/
def byt (T : TypeId) (s : Sl) (l : List UInt8) : Asn :=
  ⟨fun F h => (∀ x, F x ↔ s.p = some (bk x)) ∧ OwnB h T s l,
   fun {F h h'} hl hh => ⟨hh.1, by
    obtain ⟨h1, h2, h3⟩ := hh.2
    refine ⟨h1, h2, ?_⟩
    cases hp : s.p with
    | none => rw [hp] at h3; exact h3
    | some a =>
      rw [hp] at h3
      obtain ⟨e, cs, ⟨z, hz, hb⟩, hr⟩ := h3
      exact ⟨e, cs, ⟨z, hz, (hl a.block ((hh.1 _).2 (by rw [hp, e]))).trans hb⟩, hr⟩⟩,
   fun {F h x} hh hx => by
    have hp := (hh.1 x).1 hx
    have h3 := hh.2.2.2
    rw [hp] at h3
    obtain ⟨_, cs, ⟨z, _, hb⟩, _⟩ := h3
    rw [show h x = _ from hb]; simp⟩
theorem Sat.byt {L M : List Asn} {h : Hp} (hs : Sat (L ++ M) h) (j : Nat) {T : TypeId} {s : Sl} {l : List UInt8} (hj : M[j]? = some (Hw.byt T s l)) : OwnB h T s l := let ⟨_, hF⟩ := hs.get' j hj; hF.2
theorem Sat.addB {L M : List Asn} {h h' : Hp} {T : TypeId} {s : Sl} {l : List UInt8} (hs : Sat (L ++ M) h) (he : Ext none' h h') (ho : OwnB h' T s l) (hf : ∀ b, s.p = some (bk b) → h b = none) : Sat (L ++ (M ++ [Hw.byt T s l])) h' :=
  hs.add he (F' := fun x => s.p = some (bk x)) ⟨fun _ => Iff.rfl, ho⟩ hf
/-- a string's bytes as a slice -/
theorem Sat.s2b {L M : List Asn} {h : Hp} {T : TypeId} {l : List UInt8} {F : Sl → Hp → Prop} (hs : Sat (L ++ M) h) (hF : ∀ s h', Sat (L ++ (M ++ [Hw.byt T s l])) h' → F s h') : Hw.s2b T ⟨⟨l⟩⟩ h F := by
  intro c b hc hb
  have hsz : (⟨⟨l⟩⟩ : ByteArray).size = l.length := rfl
  rw [hsz] at hc ⊢
  refine hF _ _ (hs.addB (s := ⟨some ⟨b, 0, none⟩, l.length, c⟩) (Ext.new hb) ⟨rfl, hc, rfl, _, ⟨(c, c + 1), .inr ?_, upd_same⟩, ?_, ?_⟩ ?_)
  · rw [bcells_bc]; simp; omega
  · rw [bcells_bc]; simp; omega
  · rw [bcells_bc]; exact List.take_left' (by simp)
  · intro b' hb'
    simp only [Option.some.injEq] at hb'
    have : b = b' := congrArg Addr.block hb'
    subst this; exact hb
theorem Sat.apB {P : Program} {L M : List Asn} {T : TypeId} {s : Sl} {l m : List UInt8} {y : Value} {h : Hp} {F : Sl → Hp → Prop} (hs : Sat (L ++ M) h) (j : Nat) (hj : M[j]? = some (Hw.byt T s l))
    (hsz : P.cellsOf T = 1) (hz : (zc P T).length = 1) (hln : ∀ G : Nat → Prop, lnK y G = G m.length) (hsrc : ∀ G : List Value → Prop, G (bc m) → srcK h 1 m.length y G) (hby : (s.n + m.length) * 2 * P.bytesOf T ≤ 2 ^ 48)
    (hF : ∀ s' h', Sat (L ++ M.set j (Hw.byt T s' (l ++ m))) h' → F s' h') : apK P T s y h F := by
  refine (hs.byt j hj).ap hsz hz hln hsrc hby ?_
  intro s' h' ho he hr
  refine hF s' h' (hs.at j hj fun G hG => ⟨fun x => s'.p = some (bk x), ⟨fun _ => Iff.rfl, ho⟩, fun x hx => ?_, fun x hx hne => ?_⟩)
  · rcases hr x hx with e | e
    · exact .inl ((hG.1 x).2 e)
    · exact .inr e
  · cases hq : h x with
    | none => exact (hne hq).elim
    | some o => exact he x o hq (fun e => hx ((hG.1 x).2 e))
theorem Sat.stB {L M : List Asn} {h : Hp} {T : TypeId} {k : Nat} {x n : Int} {s : Sl} {l : List UInt8} {v : UInt8} {F : Hp → Prop} (hs : Sat (L ++ M) h) (j : Nat) (hj : M[j]? = some (Hw.byt T s l)) (hx : x = k) (hk : k < l.length) (hn : n = v.toNat)
    (hF : ∀ h', Sat (L ++ M.set j (Hw.byt T s (l.set k v))) h' → F h') : idx x s.n (nn s.p fun a => Hw.st h (a.add (x.toNat * 1)) (.int .u8 n) F) := by
  have ho := hs.byt j hj
  refine idx_of (by omega) (by have := ho.1; omega) ?_
  subst hn
  obtain ⟨b, hb, hst⟩ := ho.st (F := F) hk (v := v) (fun b h' hp ho' hf => hF h' (hs.at j hj fun G hG => ⟨G, ⟨hG.1, ho'⟩, fun x hx => .inl hx, fun x hx _ => hf x (fun e => hx ((hG.1 x).2 (by rw [hp, e])))⟩))
  rw [hb]
  subst hx
  simp only [nn_some', add_bk, Int.toNat_natCast, Nat.mul_one]
  exact hst
end Go.Hw

/-
  Sums of what is set, laid, turned; numbers laid down and read back.
-/
set_option linter.unusedSimpArgs false
set_option linter.unusedVariables false
namespace Go.Proofs.YtlioifgejijcoaaDoor
open Go Go.Hw

theorem ws_set (b : UInt8) : ∀ (l : List UInt8) (i k : Nat) (hk : k < l.length), ws i (l.set k b) + wat (i + k) (l[k]) = ws i l + wat (i + k) b
  | x :: l, i, 0, hk => by simp only [List.set_cons_zero, ws, List.getElem_cons_zero, Nat.add_zero]; omega
  | x :: l, i, k + 1, hk => by
    have := ws_set b l (i + 1) k (by simpa using hk)
    simp only [List.set_cons_succ, ws, List.getElem_cons_succ]
    rw [show i + 1 + k = i + (k + 1) by omega] at this
    omega
theorem ws_zero : ∀ (l : List UInt8) (i : Nat), ws i l = 0 ↔ ∀ b ∈ l, b = 0
  | [], i => by simp [ws]
  | x :: l, i => by
    have ih := ws_zero l (i + 1)
    have h0 : wat i x = 0 ↔ x = 0 := by
      unfold wat
      have : x.toNat = 0 ↔ x = 0 := ⟨fun h => UInt8.toNat_inj.1 (by simpa using h), fun h => by rw [h]; rfl⟩
      rw [← this]
      split <;> omega
    have e : ws i (x :: l) = wat i x + ws (i + 1) l := rfl
    simp only [List.mem_cons, forall_eq_or_imp]
    rw [← ih, ← h0, e]
    exact Nat.add_eq_zero_iff
theorem wat_even {k : Nat} (he : k % 2 = 0) (b : UInt8) : wat (0 + k) b = 256 * b.toNat := by unfold wat; rw [if_pos (by omega)]
theorem wat_odd {k : Nat} (he : k % 2 = 0) (b : UInt8) : wat (0 + (k + 1)) b = b.toNat := by unfold wat; rw [if_neg (by omega)]
theorem fold16_over (u : Nat) : fold16 (u + 65535) = if u = 0 then 65535 else fold16 u := by
  unfold fold16
  split
  · omega
  · split <;> omega
/-- a word of a row is turned -/
theorem ws_pair {l : List UInt8} {k : Nat} (hk : k + 1 < l.length) (he : k % 2 = 0) (hi lo : UInt8) : ∃ W0, ws 0 l = W0 + (256 * (l[k]'(by omega)).toNat + (l[k + 1]'hk).toNat) ∧ ws 0 ((l.set k hi).set (k + 1) lo) = W0 + (256 * hi.toNat + lo.toNat) := by
  have h1 := ws_set hi l 0 k (by omega)
  have h2 := ws_set lo (l.set k hi) 0 (k + 1) (by simpa using hk)
  rw [List.getElem_set_ne (by omega)] at h2
  rw [wat_even he, wat_even he] at h1
  rw [wat_odd he, wat_odd he] at h2
  have h3 := ws_set 0 l 0 k (by omega)
  have h4 := ws_set 0 (l.set k 0) 0 (k + 1) (by simpa using hk)
  rw [List.getElem_set_ne (by omega)] at h4
  rw [wat_even he, wat_even he] at h3
  rw [wat_odd he, wat_odd he] at h4
  have z : (0 : UInt8).toNat = 0 := rfl
  rw [z] at h3 h4
  exact ⟨ws 0 ((l.set k 0).set (k + 1) 0), by omega, by omega⟩
theorem turned_law {l : List UInt8} {k n : Nat} (hk : k + 1 < l.length) (he : k % 2 = 0) {hi lo : UInt8} (hn : 256 * hi.toNat + lo.toNat = n) (hn2 : n < 65536) :
    ((∀ b ∈ (l.set k hi).set (k + 1) lo, b = 0) → turn (sum16 l) (256 * (l[k]'(by omega)).toNat + (l[k + 1]'hk).toNat) n = 0 ∧ sum16 ((l.set k hi).set (k + 1) lo) = 65535) ∧
    (¬ (∀ b ∈ (l.set k hi).set (k + 1) lo, b = 0) → turn (sum16 l) (256 * (l[k]'(by omega)).toNat + (l[k + 1]'hk).toNat) n = sum16 ((l.set k hi).set (k + 1) lo)) := by
  obtain ⟨W0, h1, h2⟩ := ws_pair hk he hi lo
  rw [← ws_zero _ 0, h2, hn]
  have hb1 := (l[k]'(by omega)).toNat_lt
  have hb2 := (l[k + 1]'hk).toNat_lt
  unfold turn sum16
  rw [h2, h1, hn]
  have hol : 256 * (l[k]'(by omega)).toNat + (l[k + 1]'hk).toNat ≤ 65535 := by omega
  generalize 256 * (l[k]'(by omega)).toNat + (l[k + 1]'hk).toNat = o at *
  have hf := fold16_le (W0 + o)
  have e1 : 65535 - (65535 - fold16 (W0 + o)) + (65535 - o) + n = fold16 (W0 + o) + ((65535 - o) + n) := by omega
  rw [e1, fold16_add, show W0 + o + (65535 - o + n) = (W0 + n) + 65535 by omega, fold16_over]
  constructor
  · intro h; rw [if_pos h, h]; exact ⟨rfl, rfl⟩
  · intro h; rw [if_neg h]
/-- a sum that is laid into its own row -/
theorem laid_law {l m : List UInt8} (he : l.length % 2 = 0) {hi lo : UInt8} (hn : 256 * hi.toNat + lo.toNat = sum16 (l ++ ([0, 0] ++ m))) : sum16 (l ++ ([hi, lo] ++ m)) = 0 := by
  have e : ∀ a b : UInt8, ws 0 (l ++ ([a, b] ++ m)) = ws 0 l + (256 * a.toNat + b.toNat) + ws (l.length + 2) m := by
    intro a b
    rw [ws_app, ws_app]
    simp only [ws, List.length_cons, List.length_nil, Nat.zero_add]
    have h1 := wat_even he a
    have h2 := wat_odd he b
    rw [Nat.zero_add] at h1 h2
    rw [h1, h2, show l.length + (1 + 1) = l.length + 2 by omega]; omega
  unfold sum16 at *
  rw [e] at hn
  rw [e, hn]
  have z : (0 : UInt8).toNat = 0 := rfl
  rw [z]
  have hf := fold16_le (ws 0 l + (256 * 0 + 0) + ws (l.length + 2) m)
  generalize hg : ws 0 l + (256 * 0 + 0) + ws (l.length + 2) m = W at *
  have e1 : ws 0 l + (65535 - fold16 W) + ws (l.length + 2) m = W + (65535 - fold16 W) := by omega
  rw [e1, ← fold16_add, show fold16 W + (65535 - fold16 W) = 65535 by omega]
  rfl
theorem nat_be' (n w : Nat) : nat256 (be n w) = n % 256 ^ w := by
  have key : ∀ (w a n : Nat), (be n w).foldl (fun a b => a * 256 + b.toNat) a = a * 256 ^ w + n % 256 ^ w := by
    intro w
    induction w with
    | zero => intro a n; simp [be, Nat.mod_one]
    | succ w ih =>
      intro a n
      simp only [be, List.foldl_cons]
      rw [ih]
      have hb : (UInt8.ofNat (n / 256 ^ w % 256)).toNat = n / 256 ^ w % 256 := by rw [UInt8.toNat_ofNat']; omega
      rw [hb, Nat.pow_succ, Nat.mod_mul, Nat.add_mul, Nat.mul_assoc, Nat.mul_comm 256 (256 ^ w), Nat.mul_comm (256 ^ w) (n / 256 ^ w % 256)]
      omega
  have := key w 0 n
  unfold nat256
  rw [this]; omega
/-- a row of one slice, of two -/
theorem one_rdp {h : Hp} {b : Nat} {s : Sl} {l : List UInt8} (hb : Blk h b 24 [s.v]) (H : RdB h s l) : RdP h ⟨some (bk b), 1, 1⟩ [s] [l] := by
  refine ⟨rfl, rfl, hb.rdc, ?_⟩
  intro i t m h1 h2
  match i, h1, h2 with
  | 0, h1, h2 => cases h1; cases h2; exact H
  | i + 1, h1, h2 => simp at h1
theorem two_rdp {h : Hp} {b : Nat} {s t : Sl} {l m : List UInt8} (hb : Blk h b 24 [s.v, t.v]) (H : RdB h s l) (H2 : RdB h t m) : RdP h ⟨some (bk b), 2, 2⟩ [s, t] [l, m] := by
  refine ⟨rfl, rfl, hb.rdc, ?_⟩
  intro i u k h1 h2
  match i, h1, h2 with
  | 0, h1, h2 => cases h1; cases h2; exact H
  | 1, h1, h2 => cases h1; cases h2; exact H2
  | i + 2, h1, h2 => simp at h1
/-- the two bytes of a word -/
theorem word_bytes {x : Int} (h0 : 0 ≤ x) (h1 : x < 65536) : ∃ hi lo : UInt8, IntKind.wrap .u8 (IntKind.wrap .u16 (Int.tdiv x 256)) = hi.toNat ∧ IntKind.wrap .u8 (Int.tmod x 256) = lo.toNat ∧ 256 * hi.toNat + lo.toNat = x.toNat := by
  obtain ⟨n, rfl⟩ := Int.eq_ofNat_of_zero_le h0
  rw [Int.tdiv_eq_ediv_of_nonneg h0, Int.tmod_eq_emod_of_nonneg h0]
  refine ⟨UInt8.ofNat (n / 256), UInt8.ofNat (n % 256), ?_, ?_, ?_⟩
  · rw [wu16i (by omega) (by omega), wu8i (by omega) (by omega), UInt8.toNat_ofNat']; omega
  · rw [wu8i (by omega) (by omega), UInt8.toNat_ofNat']; omega
  · rw [UInt8.toNat_ofNat', UInt8.toNat_ofNat']; simp; omega
theorem sum16_lt (l : List UInt8) : sum16 l < 65536 := by unfold sum16; omega
end Go.Proofs.YtlioifgejijcoaaDoor

/-
  A law's row with a condition (the second form), out of a walk: it returns true, only new blocks.
-/
set_option linter.unusedSimpArgs false
set_option linter.unusedVariables false
namespace Go.Hw
open Go
open Go.ChangeShapes Go.WideShapes Go.ChangeAt Go.RowKit

section
variable {H : Type} {enc : TypeId × Value → H}
theorem law_lift_row {C : Checked} {os : Os} {f : FuncId} {fn : Func} {s : ChangeSpec} {s' : OpenSpec} {F : Stop.Interp} {laid : List (String × DataW Unit)} {tb : TypeId}
    (own : ownKnob C.prog.godebug = none) (started : os.Started) (noInit : C.prog.inits.idxOf? f = none) (hfn : C.prog.funcs[f]? = some fn)
    (witness : ∃ (w : World) (tape : Tape) (i : Input), w.os = os ∧ (w.forCall tape i).Shaped C.prog ∧ i.vars = [] ∧ Input.okWide C.prog (w.forCall tape i) .any w.heap.size f i ∧
      s'.preRow enc C.prog fn [] false laid (w.forCall tape i).memory i.args ∧ ({} : Assume).holds C.prog (lone (Frame.enter C.prog f i.args .normal) [] (w.forCall tape i)))
    (hl : laidOutB C.prog = true) (hr : ∀ t ∈ fn.params.toList, C.prog.readableRec t = true ∧ t < C.prog.types.size) (hrt : fn.resultTypes = #[tb]) (hb : C.prog.underlying tb = some .bool)
    (hvs : s.vars = []) (hvs' : s'.vars = []) (hat : s'.at F = s) (hbare : s'.bare.plain.varTypes C.prog = [])
    (hspec : ∀ ds : List (DataW H), ds.length = fn.params.size → (s.fn H ds).results = [.lit (.bool true)] ∧ (s.fn H ds).args = ds ∧ (s.fn H ds).vars = [])
    (walk : ∀ (W : World) (base : Nat) (args : Array Value) (ds : List (DataW H)) (p : List MemPlace),
      (∀ (j : Nat) t v, fn.params[j]? = some t → args[j]? = some v → Value.okWide C.prog W .any base t v) →
      DataW.TrodAll enc C.prog W 0 (fun _ => true) true fn.params.toList args.toList ds p →
      (DataW.weightsEach C.prog fn.params.toList ds).all (· ≤ reachBytes) = true →
      (∀ k, s'.cond = some k → k H ds = true) →
      laidMetH C.prog laid W → W.ShapedOpen C.prog →
      HCalls C.prog f args (hpOf W) fun v h' => v = .bool true ∧ Ext none' (hpOf W) h') :
    ReturnsInHanded {} C os f .any (s'.preRow enc C.prog fn [] false laid) ((s'.at F).post enc C.prog fn false true false false) := by
  refine returnsInHanded_of_row own started noInit hfn witness ?_
  intro W base args ds gs before hval hW _ hk hwt hL hsh _
  have hW' := hW
  obtain ⟨p, q, hA0, hV, hpq, hfz, hnd⟩ := hW
  have hA : DataW.TrodAll enc C.prog W 0 (fun _ => true) true fn.params.toList args.toList ds p := hA0
  rw [hvs'] at hV
  obtain ⟨rfl, rfl⟩ := trodVars_none hV
  rw [hbare] at hwt
  simp only [List.append_nil] at hwt hk
  have hlen : ds.length = fn.params.size := by
    have : ∀ {ts : List TypeId} {vs : List Value} {ds : List (DataW H)} {p : List MemPlace}, DataW.TrodAll enc C.prog W 0 (fun _ => true) true ts vs ds p → ds.length = ts.length := by
      intro ts
      induction ts with
      | nil => intro vs ds p h; obtain ⟨_, rfl, _⟩ := trodAll_nil h; rfl
      | cons t ts ih => intro vs ds p h; obtain ⟨_, _, _, _, _, _, _, rfl, _, _, h2⟩ := trodAll_cons h; simp [ih h2]
    have := this hA
    rw [this]; simp
  have hc2 := walk W base args ds p hval hA hwt hk hL hsh
  refine (hc2 _ rfl).mono ?_
  rintro e W' ⟨v, rfl, ⟨rfl, he⟩, hp⟩
  obtain ⟨s1, s2, s3⟩ := hspec ds hlen
  rw [hvs'] at hW'
  exact ⟨_, rfl, by rw [hat]; exact law_post hl hr hrt hb hW' hvs s1 s2 s3 hp he⟩
end
end Go.Hw

/-
  What the second form's bound gives.
-/
set_option linter.unusedSimpArgs false
set_option linter.unusedVariables false
namespace Go.Proofs.YtlioifgejijcoaaDoor
open Go Go.Hw

theorem bulk_one {H : Type} (d : DataW H) : 1 ≤ Rows.uptoBulk d := by
  cases d with
  | lit l => cases l <;> simp [Rows.uptoBulk]
  | _ => simp [Rows.uptoBulk]
theorem bulk_in {H : Type} {d : DataW H} {l : List (DataW H)} (h : d ∈ l) : Rows.uptoBulk d ≤ Rows.uptoBulkAll l := by
  induction l with
  | nil => cases h
  | cons x r ih =>
    simp only [Rows.uptoBulkAll]
    rcases List.mem_cons.1 h with e | e
    · subst e; omega
    · have := ih e; omega
theorem bulk_len {H : Type} (l : List (DataW H)) : l.length ≤ Rows.uptoBulkAll l := by
  induction l with
  | nil => simp [Rows.uptoBulkAll]
  | cons x r ih => have := bulk_one x; simp only [Rows.uptoBulkAll, List.length_cons]; omega
theorem bulk_slice {H : Type} (e s : List (DataW H)) : e.length ≤ Rows.uptoBulk (.slice e s) := by
  have := bulk_len e
  simp only [Rows.uptoBulk]; omega
theorem bulk_str {H : Type} (b : List UInt8) : b.length ≤ Rows.uptoBulk (DataW.lit (H := H) (.string b)) := by simp [Rows.uptoBulk]
theorem bulk_all {H : Type} {l : List (DataW H)} (hk : Rows.uptoSmall H l = true) {d : DataW H} (hd : d ∈ l) : Rows.uptoBulk d ≤ 1048576 := Nat.le_trans (bulk_in hd) (of_decide_eq_true hk)
end Go.Proofs.YtlioifgejijcoaaDoor

/-
  Texts read by both: what they give, told once.
-/
set_option linter.unusedSimpArgs false
set_option linter.unusedVariables false
namespace Go.Proofs.YtlioifgejijcoaaDoor
open Go Go.Hw

/-- what a text of four parts gives -/
def DotOf (s : List UInt8) (a : Nat) (e : Int) : Prop := (a < 4294967296 ∧ s = dotted a ∧ e = 0) ∨ (¬ IsDot s ∧ a = 0 ∧ e = 10)
theorem dotOf_ex (s : List UInt8) : ∃ a e, DotOf s a e := by
  by_cases h : IsDot s
  · obtain ⟨ip, h1, h2⟩ := h
    exact ⟨ip, 0, .inl ⟨h1, h2, rfl⟩⟩
  · exact ⟨0, 10, .inr ⟨h, rfl, rfl⟩⟩
theorem d_undotted {s : ByteArray} {a : Nat} {e : Int} {h : Hp} {K : Int → Int → Hp → Prop} (G : Glob h) (hs : s.size ≤ 1073741824) (D : DotOf s.data.toList a e) (hK : ∀ h', Ext none' h h' → K a e h') : C27 s h K := by
  refine c_undotted G hs ?_ ?_
  · intro ip hip eip h' x
    rcases D with ⟨h1, h2, rfl⟩ | ⟨h1, _⟩
    · have : ip = a := dotted_inj hip h1 (by rw [← eip, h2])
      subst this; exact hK h' x
    · exact absurd ⟨ip, hip, eip⟩ h1
  · intro hn h' x
    rcases D with ⟨h1, h2, _⟩ | ⟨_, rfl, rfl⟩
    · exact absurd ⟨a, h1, h2⟩ hn
    · exact hK h' x
theorem d_Undotted {s : ByteArray} {a : Nat} {e : Int} {h : Hp} {K : Int → Int → Hp → Prop} (D : DotOf s.data.toList a e) (hK : ∀ h', Ext none' h h' → K a e h') : C28 s h K := by
  refine c_Undotted ?_ ?_
  · intro ip hip eip h' x
    rcases D with ⟨h1, h2, rfl⟩ | ⟨h1, _⟩
    · have : ip = a := dotted_inj hip h1 (by rw [← eip, h2])
      subst this; exact hK h' x
    · exact absurd ⟨ip, hip, eip⟩ h1
  · intro hn h' x
    rcases D with ⟨h1, h2, _⟩ | ⟨_, rfl, rfl⟩
    · exact absurd ⟨a, h1, h2⟩ hn
    · exact hK h' x
/-- what a text of six parts gives -/
def ColOf (s : List UInt8) (a b c d e f : UInt8) (x : Int) : Prop := (s = colons [a, b, c, d, e, f] ∧ x = 0) ∨ (¬ IsCol s ∧ [a, b, c, d, e, f] = [0, 0, 0, 0, 0, 0] ∧ x = 10)
theorem colOf_ex (s : List UInt8) : ∃ a b c d e f x, ColOf s a b c d e f x := by
  by_cases h : IsCol s
  · obtain ⟨m, h1, h2⟩ := h
    obtain ⟨a, b, c, d, e, f, rfl⟩ := six m h1
    exact ⟨a, b, c, d, e, f, 0, .inl ⟨h2, rfl⟩⟩
  · exact ⟨0, 0, 0, 0, 0, 0, 10, .inr ⟨h, rfl, rfl⟩⟩
theorem d_uncolons {s : ByteArray} {a b c d e f : UInt8} {x : Int} {h : Hp} {K : Int → Int → Int → Int → Int → Int → Int → Hp → Prop} (G : Glob h) (hs : s.size ≤ 1073741824) (D : ColOf s.data.toList a b c d e f x)
    (hK : ∀ h', Ext none' h h' → K a.toNat b.toNat c.toNat d.toNat e.toNat f.toNat x h') : C29 s h K := by
  refine c_uncolons G hs ?_ ?_
  · intro b0 b1 b2 b3 b4 b5 ec h' y
    rcases D with ⟨h1, rfl⟩ | ⟨h1, _⟩
    · have := colons_inj (l := [b0, b1, b2, b3, b4, b5]) (m := [a, b, c, d, e, f]) rfl rfl (by rw [← ec, h1])
      simp only [List.cons.injEq, and_true] at this
      obtain ⟨rfl, rfl, rfl, rfl, rfl, rfl⟩ := this
      exact hK h' y
    · exact absurd ⟨_, rfl, ec⟩ h1
  · intro hn h' y
    rcases D with ⟨h1, _⟩ | ⟨_, h2, rfl⟩
    · exact absurd ⟨_, rfl, h1⟩ hn
    · simp only [List.cons.injEq, and_true] at h2
      obtain ⟨rfl, rfl, rfl, rfl, rfl, rfl⟩ := h2
      exact hK h' y
theorem d_Uncolons {s : ByteArray} {a b c d e f : UInt8} {x : Int} {h : Hp} {K : Int → Int → Int → Int → Int → Int → Int → Hp → Prop} (D : ColOf s.data.toList a b c d e f x)
    (hK : ∀ h', Ext none' h h' → K a.toNat b.toNat c.toNat d.toNat e.toNat f.toNat x h') : C30 s h K := by
  refine c_Uncolons ?_ ?_
  · intro b0 b1 b2 b3 b4 b5 ec h' y
    rcases D with ⟨h1, rfl⟩ | ⟨h1, _⟩
    · have := colons_inj (l := [b0, b1, b2, b3, b4, b5]) (m := [a, b, c, d, e, f]) rfl rfl (by rw [← ec, h1])
      simp only [List.cons.injEq, and_true] at this
      obtain ⟨rfl, rfl, rfl, rfl, rfl, rfl⟩ := this
      exact hK h' y
    · exact absurd ⟨_, rfl, ec⟩ h1
  · intro hn h' y
    rcases D with ⟨h1, _⟩ | ⟨_, h2, rfl⟩
    · exact absurd ⟨_, rfl, h1⟩ hn
    · simp only [List.cons.injEq, and_true] at h2
      obtain ⟨rfl, rfl, rfl, rfl, rfl, rfl⟩ := h2
      exact hK h' y
/-- a card address, laid place for place into a row of its own -/
theorem macs {M : List Asn} {h : Hp} {b : Nat} {n0 n1 n2 n3 n4 n5 : UInt8} {F : Hp → Prop} (hs : Sat ([] ++ M) h) (hb : h b = none)
    (hF : ∀ h', Sat ([] ++ (M ++ [row b 49 (bc [n0, n1, n2, n3, n4, n5])])) h' → F h') :
    st (upd h b (.cells ⟨[.int .u8 0, .int .u8 0, .int .u8 0, .int .u8 0, .int .u8 0, .int .u8 0]⟩ 49)) (bk b) (.int .u8 n0.toNat) fun h1 => st h1 ((bk b).add 1) (.int .u8 n1.toNat) fun h2 => st h2 ((bk b).add 2) (.int .u8 n2.toNat) fun h3 =>
      st h3 ((bk b).add 3) (.int .u8 n3.toNat) fun h4 => st h4 ((bk b).add 4) (.int .u8 n4.toNat) fun h5 => st h5 ((bk b).add 5) (.int .u8 n5.toNat) F := by
  have hs : Sat ([] ++ (M ++ [row b 49 [.int .u8 0, .int .u8 0, .int .u8 0, .int .u8 0, .int .u8 0, .int .u8 0]])) _ := hs.new hb _
  have get : ∀ A : Asn, (M ++ [A])[M.length]? = some A := fun A => by simp
  have set : ∀ A B : Asn, (M ++ [A]).set M.length B = M ++ [B] := fun A B => by simp
  revert hs
  generalize upd h b _ = h0
  intro hs
  simp only [add_bk]
  refine hs.st M.length (get _) (by simp) rfl ?_
  intro h1 hs; rw [set] at hs
  refine hs.st M.length (get _) (by simp) rfl ?_
  intro h2 hs; rw [set] at hs
  refine hs.st M.length (get _) (by simp) rfl ?_
  intro h3 hs; rw [set] at hs
  refine hs.st M.length (get _) (by simp) rfl ?_
  intro h4 hs; rw [set] at hs
  refine hs.st M.length (get _) (by simp) rfl ?_
  intro h5 hs; rw [set] at hs
  refine hs.st M.length (get _) (by simp) rfl ?_
  intro h6 hs; rw [set] at hs
  exact hF h6 hs
theorem colons_len (a b c d e f : UInt8) : (colons [a, b, c, d, e, f]).length = 17 := rfl
end Go.Proofs.YtlioifgejijcoaaDoor

set_option linter.unusedVariables false
set_option maxRecDepth 100000
namespace Go.Proofs.YtlioifgejijcoaaDoor
open Go Go.Hw
/-! ### 10 slipway/slipwaylaw01.OctetRead -/
noncomputable def B10 : Code := match Tryd.f10.body with | some c => c | none => .skip
def N10_j1 (x0_ip : Int) (x4_m : Option Addr) (x7_up : Bool) (x8_a : Int) (x9_e : Int) (x10_b : Option Addr) (x11_f : Int) (x16_one : Bool) (x17_two : Bool) (h : Hp) (K_ret : Bool → Hp → Prop) : Prop :=
  bif x7_up then
    bif (x8_a == x0_ip) then
      bif (x9_e == 0) then
        nn x10_b fun a0 =>
        xI .u8 (cell h a0) fun n0 =>
        xI .u8 (cell h (a0.add 1)) fun n1 =>
        xI .u8 (cell h (a0.add 2)) fun n2 =>
        xI .u8 (cell h (a0.add 3)) fun n3 =>
        xI .u8 (cell h (a0.add 4)) fun n4 =>
        xI .u8 (cell h (a0.add 5)) fun n5 =>
        nn x4_m fun a1 =>
        xI .u8 (cell h a1) fun n6 =>
        xI .u8 (cell h (a1.add 1)) fun n7 =>
        xI .u8 (cell h (a1.add 2)) fun n8 =>
        xI .u8 (cell h (a1.add 3)) fun n9 =>
        xI .u8 (cell h (a1.add 4)) fun n10 =>
        xI .u8 (cell h (a1.add 5)) fun n11 =>
        bif ((n0 == n6) && ((n1 == n7) && ((n2 == n8) && ((n3 == n9) && ((n4 == n10) && ((n5 == n11) && true)))))) then
          bif (x11_f == 0) then
            bif x16_one then
              K_ret x17_two h
            else
              K_ret false h
          else
            K_ret false h
        else
          K_ret false h
      else
        K_ret false h
    else
      K_ret false h
  else
    K_ret false h
noncomputable def N10_j1_t : Xf := pieceT [(0, .c (.int .u32)), (4, .c (.ptr)), (7, .c (.bool)), (8, .c (.int .u32)), (9, .c (.int .i64)), (10, .c (.ptr)), (11, .c (.int .i64)), (16, .c (.bool)), (17, .c (.bool))] (codeAt B10 [1, 1, 1, 1, 1, 1, 1, 1]) fun x h Q => N10_j1 x.1 x.2.1 x.2.2.1 x.2.2.2.1 x.2.2.2.2.1 x.2.2.2.2.2.1 x.2.2.2.2.2.2.1 x.2.2.2.2.2.2.2.1 x.2.2.2.2.2.2.2.2 h (fun o0 h' => Q .ret (Sg.env [(6, .c (.bool))] o0) h')
theorem N10_j1_ok : Sound Tryd.prog Tryd.f10.ntmps N10_j1_t (codeAt B10 [1, 1, 1, 1, 1, 1, 1, 1]) := by
  refine piece_sound (fun e => match e with | .ret => [6] | _ => []) ?_
  intro x h Q hb
  refine den_sound hE hm _ .leaf _ _ _ (annOk_leaf) ?_
  refine cast ?_ hb
  kernel_rfl
def N10_j0 (x0_ip : Int) (x2_s : ByteArray) (x4_m : Option Addr) (x7_up : Bool) (x8_a : Int) (x9_e : Int) (x10_b : Option Addr) (x11_f : Int) (x14_d : Option Addr) (x15_h : Int) (x16_one : Bool) (h : Hp) (K_ret : Bool → Hp → Prop) : Prop :=
  bif (x15_h == 10) then
    nn x14_d fun a0 =>
    xI .u8 (cell h a0) fun n0 =>
    xI .u8 (cell h (a0.add 1)) fun n1 =>
    xI .u8 (cell h (a0.add 2)) fun n2 =>
    xI .u8 (cell h (a0.add 3)) fun n3 =>
    xI .u8 (cell h (a0.add 4)) fun n4 =>
    xI .u8 (cell h (a0.add 5)) fun n5 =>
    bif ((n0 == 0) && ((n1 == 0) && ((n2 == 0) && ((n3 == 0) && ((n4 == 0) && ((n5 == 0) && true)))))) then
      N10_j1 x0_ip x4_m x7_up x8_a x9_e x10_b x11_f x16_one true h
        (fun b0 h0 =>
          K_ret b0 h0)
    else
      bif (x15_h == 0) then
        nn x14_d fun a1 =>
        xI .u8 (cell h a1) fun n6 =>
        xI .u8 (cell h (a1.add 1)) fun n7 =>
        xI .u8 (cell h (a1.add 2)) fun n8 =>
        xI .u8 (cell h (a1.add 3)) fun n9 =>
        xI .u8 (cell h (a1.add 4)) fun n10 =>
        xI .u8 (cell h (a1.add 5)) fun n11 =>
        C33 n6 n7 n8 n9 n10 n11 h fun s0 h1 =>
        N10_j1 x0_ip x4_m x7_up x8_a x9_e x10_b x11_f x16_one (s0.toList == x2_s.toList) h1
          (fun b1 h2 =>
            K_ret b1 h2)
      else
        N10_j1 x0_ip x4_m x7_up x8_a x9_e x10_b x11_f x16_one false h
          (fun b2 h3 =>
            K_ret b2 h3)
  else
    bif (x15_h == 0) then
      nn x14_d fun a2 =>
      xI .u8 (cell h a2) fun n12 =>
      xI .u8 (cell h (a2.add 1)) fun n13 =>
      xI .u8 (cell h (a2.add 2)) fun n14 =>
      xI .u8 (cell h (a2.add 3)) fun n15 =>
      xI .u8 (cell h (a2.add 4)) fun n16 =>
      xI .u8 (cell h (a2.add 5)) fun n17 =>
      C33 n12 n13 n14 n15 n16 n17 h fun s1 h4 =>
      N10_j1 x0_ip x4_m x7_up x8_a x9_e x10_b x11_f x16_one (s1.toList == x2_s.toList) h4
        (fun b3 h5 =>
          K_ret b3 h5)
    else
      N10_j1 x0_ip x4_m x7_up x8_a x9_e x10_b x11_f x16_one false h
        (fun b4 h6 =>
          K_ret b4 h6)
noncomputable def N10_j0_t : Xf := pieceT [(0, .c (.int .u32)), (2, .c (.str)), (4, .c (.ptr)), (7, .c (.bool)), (8, .c (.int .u32)), (9, .c (.int .i64)), (10, .c (.ptr)), (11, .c (.int .i64)), (14, .c (.ptr)), (15, .c (.int .i64)), (16, .c (.bool))] (codeAt B10 [1, 1, 1, 1, 1, 1, 1]) fun x h Q => N10_j0 x.1 x.2.1 x.2.2.1 x.2.2.2.1 x.2.2.2.2.1 x.2.2.2.2.2.1 x.2.2.2.2.2.2.1 x.2.2.2.2.2.2.2.1 x.2.2.2.2.2.2.2.2.1 x.2.2.2.2.2.2.2.2.2.1 x.2.2.2.2.2.2.2.2.2.2 h (fun o0 h' => Q .ret (Sg.env [(6, .c (.bool))] o0) h')
theorem N10_j0_ok : Sound Tryd.prog Tryd.f10.ntmps N10_j0_t (codeAt B10 [1, 1, 1, 1, 1, 1, 1]) := by
  refine piece_sound (fun e => match e with | .ret => [6] | _ => []) ?_
  intro x h Q hb
  refine den_sound hE hm _ (.two .leaf (.xf N10_j1_t)) _ _ _ (⟨annOk_leaf, N10_j1_ok⟩) ?_
  refine cast ?_ hb
  kernel_rfl
def N10 (x0 : Int) (x1_0 : Int) (x1_1 : Int) (x1_2 : Int) (x1_3 : Int) (x1_4 : Int) (x1_5 : Int) (x2 : ByteArray) (h : Hp) (K : Bool → Hp → Prop) : Prop :=
  nw h (.cells ⟨[.int .u8 x1_0, .int .u8 x1_1, .int .u8 x1_2, .int .u8 x1_3, .int .u8 x1_4, .int .u8 x1_5]⟩ 49) fun b0 h0 =>
  C15 h0 fun b1 h1 =>
  C31 x0 h1 fun s0 h2 =>
  C27 s0 h2 fun n0 n1 h3 =>
  xI .u8 (cell h3 (bk b0)) fun n2 =>
  xI .u8 (cell h3 ((bk b0).add 1)) fun n3 =>
  xI .u8 (cell h3 ((bk b0).add 2)) fun n4 =>
  xI .u8 (cell h3 ((bk b0).add 3)) fun n5 =>
  xI .u8 (cell h3 ((bk b0).add 4)) fun n6 =>
  xI .u8 (cell h3 ((bk b0).add 5)) fun n7 =>
  C33 n2 n3 n4 n5 n6 n7 h3 fun s1 h4 =>
  C29 s1 h4 fun n8 n9 n10 n11 n12 n13 n14 h5 =>
  nw h5 (.cells ⟨[.int .u8 0, .int .u8 0, .int .u8 0, .int .u8 0, .int .u8 0, .int .u8 0]⟩ 49) fun b2 h6 =>
  st h6 (bk b2) (.int .u8 n8) fun h7 =>
  st h7 ((bk b2).add 1) (.int .u8 n9) fun h8 =>
  st h8 ((bk b2).add 2) (.int .u8 n10) fun h9 =>
  st h9 ((bk b2).add 3) (.int .u8 n11) fun h10 =>
  st h10 ((bk b2).add 4) (.int .u8 n12) fun h11 =>
  st h11 ((bk b2).add 5) (.int .u8 n13) fun h12 =>
  C27 x2 h12 fun n15 n16 h13 =>
  C29 x2 h13 fun n17 n18 n19 n20 n21 n22 n23 h14 =>
  nw h14 (.cells ⟨[.int .u8 0, .int .u8 0, .int .u8 0, .int .u8 0, .int .u8 0, .int .u8 0]⟩ 49) fun b3 h15 =>
  st h15 (bk b3) (.int .u8 n17) fun h16 =>
  st h16 ((bk b3).add 1) (.int .u8 n18) fun h17 =>
  st h17 ((bk b3).add 2) (.int .u8 n19) fun h18 =>
  st h18 ((bk b3).add 3) (.int .u8 n20) fun h19 =>
  st h19 ((bk b3).add 4) (.int .u8 n21) fun h20 =>
  st h20 ((bk b3).add 5) (.int .u8 n22) fun h21 =>
  bif (n16 == 10) then
    bif (n15 == 0) then
      N10_j0 x0 x2 (some (bk b0)) b1 n0 n1 (some (bk b2)) n14 (some (bk b3)) n23 true h21
        (fun b4 h22 =>
          K b4 h22)
    else
      bif (n16 == 0) then
        C31 n15 h21 fun s2 h23 =>
        N10_j0 x0 x2 (some (bk b0)) b1 n0 n1 (some (bk b2)) n14 (some (bk b3)) n23 (s2.toList == x2.toList) h23
          (fun b5 h24 =>
            K b5 h24)
      else
        N10_j0 x0 x2 (some (bk b0)) b1 n0 n1 (some (bk b2)) n14 (some (bk b3)) n23 false h21
          (fun b6 h25 =>
            K b6 h25)
  else
    bif (n16 == 0) then
      C31 n15 h21 fun s3 h26 =>
      N10_j0 x0 x2 (some (bk b0)) b1 n0 n1 (some (bk b2)) n14 (some (bk b3)) n23 (s3.toList == x2.toList) h26
        (fun b7 h27 =>
          K b7 h27)
    else
      N10_j0 x0 x2 (some (bk b0)) b1 n0 n1 (some (bk b2)) n14 (some (bk b3)) n23 false h21
        (fun b8 h28 =>
          K b8 h28)
theorem S10 {x0 : Int} {x1_0 : Int} {x1_1 : Int} {x1_2 : Int} {x1_3 : Int} {x1_4 : Int} {x1_5 : Int} {x2 : ByteArray} {h : Hp} {K : Bool → Hp → Prop} (hn : N10 x0 x1_0 x1_1 x1_2 x1_3 x1_4 x1_5 x2 h K) : C10 x0 x1_0 x1_1 x1_2 x1_3 x1_4 x1_5 x2 h K := by
  refine calls_of_D Tryd.func10 (c := B10) rfl (by kernel_rfl) ?_
  refine den_sound hE hm _ (.two .leaf (.two .leaf (.two .leaf (.two .leaf (.two .leaf (.two .leaf (.two .leaf (.xf N10_j0_t)))))))) _ _ _ (⟨annOk_leaf, ⟨annOk_leaf, ⟨annOk_leaf, ⟨annOk_leaf, ⟨annOk_leaf, ⟨annOk_leaf, ⟨annOk_leaf, N10_j0_ok⟩⟩⟩⟩⟩⟩⟩) ?_
  refine cast ?_ hn
  kernel_rfl
end Go.Proofs.YtlioifgejijcoaaDoor
