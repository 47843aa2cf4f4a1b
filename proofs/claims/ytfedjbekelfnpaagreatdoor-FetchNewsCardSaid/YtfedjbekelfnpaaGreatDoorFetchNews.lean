/-
  FetchNews: for every config, bound and digest, the law's function slipwaylaw21.FetchNews returns true and leaves all that was there as it was. (Printed by tools/mkfn.py.)
-/
import Derived.Test.YtfedjbekelfnpaaGreatDoorPe
import Derived.Test.YtfedjbekelfnpaaGreatDoorPf
import Derived.Test.YtfedjbekelfnpaaGreatDoorPg
import Derived.Test.YtfedjbekelfnpaaGreatDoorPc
set_option linter.unusedSimpArgs false
set_option linter.unusedVariables false
namespace Go.Proofs.YtfedjbekelfnpaaGreatDoor
open Go Go.Hw
open Go.ChangeShapes Go.WideShapes Go.ChangeAt Go.RowKit

set_option maxRecDepth 100000 in
theorem awake_reckoned : Ix.runC Tryz.prog glN 1000000 1000 8 [] (Ix.H0 glN erN tabL) (fun y _ => Ix.CV.eq y (.bool true)) = true := by kernel_rfl
theorem tab_ext {σ : Ix.Sig} {h h' : Hp} {g : Nat} {cs : List Ix.CV} (H : Ix.TabAt σ h g cs) (he : Ext none' h h') : Ix.TabAt σ h' g cs := by
  obtain ⟨vs, e, fr, h1, h2⟩ := H
  exact ⟨vs, e, fr, he _ _ h1 (fun e => e), h2⟩
/-- the variables, as they are laid -/
def Laid (h : Hp) : Prop := ∃ bs : List Addr, bs.length = erN ∧ ∀ x ∈ tabL, Ix.TabAt (Ix.σ0 glN bs) h x.1 x.2
theorem Laid.ext {h h' : Hp} (H : Laid h) (he : Ext none' h h') : Laid h' := let ⟨bs, h1, h2⟩ := H; ⟨bs, h1, fun x hx => tab_ext (h2 x hx) he⟩
theorem laid_of {W : World} (h : laidMetH Tryz.prog laidL W) : Laid (hpOf W) := tabs_of h
theorem c_awake {h : Hp} {K : Bool → Hp → Prop} (L : Laid h) (hK : ∀ h', Ext none' h h' → K true h') : C8 h K := by
  obtain ⟨bs, hb, ht⟩ := L
  unfold C8
  exact (Ix.closed (bs := bs) follows_mixed (by kernel_rfl) awake_reckoned hb ht (K := fun v h' => v = .bool true ∧ Ext none' h h') fun h' he => ⟨rfl, he⟩).mono fun v h' ⟨e, he⟩ => by subst e; exact hK h' he

/-! ### hosts, names -/
def isHost (ip : Int) : Bool := decide (1 ≤ ip / 16777216) && decide (ip / 16777216 ≤ 223) && decide (ip / 16777216 ≠ 127)
theorem c_isHost {ip : Int} {h : Hp} {K : Bool → Hp → Prop} (hK : K (isHost ip) h) : C31 ip h K := by
  apply S31; unfold N31
  rw [Int.fdiv_eq_ediv_of_nonneg _ (by decide), show ((2 : Int) ^ 24) = 16777216 from rfl]
  unfold isHost at hK
  by_cases h1 : ip / 16777216 > 0
  · by_cases h2 : ip / 16777216 < 224
    · have e1 : (1 : Int) ≤ ip / 16777216 := by omega
      have e2 : ip / 16777216 ≤ 223 := by omega
      have e3 : (ip / 16777216 != 127) = decide (ip / 16777216 ≠ 127) := by by_cases e : ip / 16777216 = 127 <;> simp [e]
      simp only [h1, h2, e1, e2, decide_true, cond_true, Bool.true_and] at hK ⊢
      rw [e3]; exact hK
    · have e2 : ¬ ip / 16777216 ≤ 223 := by omega
      simp only [h1, h2, e2, decide_true, decide_false, cond_true, cond_false, Bool.and_false, Bool.false_and] at hK ⊢; exact hK
  · have e1 : ¬ (1 : Int) ≤ ip / 16777216 := by omega
    simp only [h1, e1, decide_false, cond_false, Bool.false_and] at hK ⊢; exact hK
theorem c_IsHost {ip : Int} {h : Hp} {K : Bool → Hp → Prop} (h0 : 0 ≤ ip) (h1 : ip < 4294967296) (hK : K (isHost ip) h) : C32 ip h K := by
  apply S32; unfold N32
  rw [Int.tdiv_eq_ediv_of_nonneg h0, wu32i (by omega) (by omega)]
  unfold isHost at hK
  by_cases h1 : ip / 16777216 ≥ 1
  · by_cases h2 : ip / 16777216 ≤ 223
    · have e1 : (1 : Int) ≤ ip / 16777216 := by omega
      have e3 : (ip / 16777216 != 127) = decide (ip / 16777216 ≠ 127) := by by_cases e : ip / 16777216 = 127 <;> simp [e]
      simp only [h1, h2, e1, decide_true, cond_true, Bool.true_and] at hK ⊢
      rw [e3]; exact hK
    · simp only [h1, h2, decide_true, decide_false, cond_true, cond_false, Bool.and_false, Bool.false_and] at hK ⊢; exact hK
  · have e1 : ¬ (1 : Int) ≤ ip / 16777216 := by omega
    simp only [h1, e1, decide_false, cond_false, Bool.false_and] at hK ⊢; exact hK


def hasZero (s : ByteArray) : Bool := decide ((0 : UInt8) ∈ s.data.toList)
theorem c_contains0 {s : ByteArray} {h : Hp} {K : Bool → Hp → Prop} (hK : K (hasZero s) h) : C30 s ⟨⟨[0]⟩⟩ h K := by
  intro w hw
  subst hw
  refine (Tryz.strings_Contains_one s 0 w).mono ?_
  rintro e w' ⟨rfl, rfl⟩
  have eq : decide (0 ≤ Lib.indexByte s.data.toList 0) = hasZero s := by
    unfold hasZero
    rw [decide_eq_decide]
    have hg := Lib.indexByte_ge s.data.toList 0
    constructor
    · intro h0
      obtain ⟨o, ho⟩ := Int.eq_ofNat_of_zero_le h0
      obtain ⟨h1, _⟩ := Lib.indexByte_some ho
      exact List.mem_of_getElem? h1
    · intro hm
      obtain ⟨i, hi, he⟩ := List.getElem_of_mem hm
      by_cases hn : Lib.indexByte s.data.toList 0 = -1
      · exact absurd (by rw [List.getElem?_eq_getElem hi, he]) (Lib.indexByte_none hn i)
      · omega
  rw [eq]
  exact ⟨_, rfl, hK, Kp.refl _⟩

def fileOk (s : ByteArray) : Bool := decide (1 ≤ s.size) && (decide (s.size ≤ 64) && !hasZero s)

/-! ### holds -/
def noHold (n : Int) : Bool := decide (n < 0) || decide (n > 16777216)
theorem c_sum {h : Hp} {K : Option Addr → Hp → Prop} (hK : ∀ p h', Ext none' h h' → K p h') : C29 h K := by
  apply S29; unfold N29
  intro b e
  exact hK _ _ (Ext.new e)
set_option maxHeartbeats 2000000 in
theorem c_hold {n a0 a1 a2 a3 a4 a5 a6 a7 a8 a9 a10 a11 a12 a13 a14 a15 a16 a17 a18 a19 a20 a21 a22 a23 a24 a25 a26 a27 a28 a29 a30 a31 : Int} {h : Hp} {K : Option Addr → Hp → Prop} (hK : ∀ p h', Ext none' h h' → p.isNone = noHold n → K p h') : C9 n a0 a1 a2 a3 a4 a5 a6 a7 a8 a9 a10 a11 a12 a13 a14 a15 a16 a17 a18 a19 a20 a21 a22 a23 a24 a25 a26 a27 a28 a29 a30 a31 h K := by
  apply S9; unfold N9
  intro b e
  have x := Ext.new (S := none') (o := .cells ⟨[.int .u8 a0, .int .u8 a1, .int .u8 a2, .int .u8 a3, .int .u8 a4, .int .u8 a5, .int .u8 a6, .int .u8 a7, .int .u8 a8, .int .u8 a9, .int .u8 a10, .int .u8 a11, .int .u8 a12, .int .u8 a13, .int .u8 a14, .int .u8 a15, .int .u8 a16, .int .u8 a17, .int .u8 a18, .int .u8 a19, .int .u8 a20, .int .u8 a21, .int .u8 a22, .int .u8 a23, .int .u8 a24, .int .u8 a25, .int .u8 a26, .int .u8 a27, .int .u8 a28, .int .u8 a29, .int .u8 a30, .int .u8 a31]⟩ 27 (0, 0)) e
  have K : Blk (upd h b (.cells ⟨[.int .u8 a0, .int .u8 a1, .int .u8 a2, .int .u8 a3, .int .u8 a4, .int .u8 a5, .int .u8 a6, .int .u8 a7, .int .u8 a8, .int .u8 a9, .int .u8 a10, .int .u8 a11, .int .u8 a12, .int .u8 a13, .int .u8 a14, .int .u8 a15, .int .u8 a16, .int .u8 a17, .int .u8 a18, .int .u8 a19, .int .u8 a20, .int .u8 a21, .int .u8 a22, .int .u8 a23, .int .u8 a24, .int .u8 a25, .int .u8 a26, .int .u8 a27, .int .u8 a28, .int .u8 a29, .int .u8 a30, .int .u8 a31]⟩ 27 (0, 0))) b 27 [.int .u8 a0, .int .u8 a1, .int .u8 a2, .int .u8 a3, .int .u8 a4, .int .u8 a5, .int .u8 a6, .int .u8 a7, .int .u8 a8, .int .u8 a9, .int .u8 a10, .int .u8 a11, .int .u8 a12, .int .u8 a13, .int .u8 a14, .int .u8 a15, .int .u8 a16, .int .u8 a17, .int .u8 a18, .int .u8 a19, .int .u8 a20, .int .u8 a21, .int .u8 a22, .int .u8 a23, .int .u8 a24, .int .u8 a25, .int .u8 a26, .int .u8 a27, .int .u8 a28, .int .u8 a29, .int .u8 a30, .int .u8 a31] := Blk.upd_same
  revert x K
  generalize upd h b _ = h1
  intro x K
  by_cases h0 : n < 0
  · simp only [h0, decide_true, cond_true]
    exact hK none h1 x (by simp [noHold, h0])
  by_cases hb : n > 16777216
  · simp only [h0, hb, decide_true, decide_false, cond_true, cond_false]
    exact hK none h1 x (by simp [noHold, hb])
  simp only [h0, hb, decide_false, cond_false]
  simp only [add_bk, K.cell, bk, List.getElem?_cons_zero, List.getElem?_cons_succ, xI_some]
  refine c_sum fun p h2 x2 => ?_
  replace K := x2.blk K (fun e => e)
  simp only [add_bk, K.cell, bk, List.getElem?_cons_zero, List.getElem?_cons_succ, xI_some]
  refine ⟨by simp, ?_⟩
  intro b2 e2
  exact hK _ _ ((x.trans x2).trans (Ext.new e2)) (by simp [noHold, h0, hb])
set_option maxHeartbeats 2000000 in
theorem c_Hold {n a0 a1 a2 a3 a4 a5 a6 a7 a8 a9 a10 a11 a12 a13 a14 a15 a16 a17 a18 a19 a20 a21 a22 a23 a24 a25 a26 a27 a28 a29 a30 a31 : Int} {h : Hp} {K : Option Addr → Hp → Prop} (hK : ∀ p h', Ext none' h h' → p.isNone = noHold n → K p h') : C10 n a0 a1 a2 a3 a4 a5 a6 a7 a8 a9 a10 a11 a12 a13 a14 a15 a16 a17 a18 a19 a20 a21 a22 a23 a24 a25 a26 a27 a28 a29 a30 a31 h K := by
  apply S10; unfold N10
  intro b e
  have x := Ext.new (S := none') (o := .cells ⟨[.int .u8 a0, .int .u8 a1, .int .u8 a2, .int .u8 a3, .int .u8 a4, .int .u8 a5, .int .u8 a6, .int .u8 a7, .int .u8 a8, .int .u8 a9, .int .u8 a10, .int .u8 a11, .int .u8 a12, .int .u8 a13, .int .u8 a14, .int .u8 a15, .int .u8 a16, .int .u8 a17, .int .u8 a18, .int .u8 a19, .int .u8 a20, .int .u8 a21, .int .u8 a22, .int .u8 a23, .int .u8 a24, .int .u8 a25, .int .u8 a26, .int .u8 a27, .int .u8 a28, .int .u8 a29, .int .u8 a30, .int .u8 a31]⟩ 27 (0, 0)) e
  have K : Blk (upd h b (.cells ⟨[.int .u8 a0, .int .u8 a1, .int .u8 a2, .int .u8 a3, .int .u8 a4, .int .u8 a5, .int .u8 a6, .int .u8 a7, .int .u8 a8, .int .u8 a9, .int .u8 a10, .int .u8 a11, .int .u8 a12, .int .u8 a13, .int .u8 a14, .int .u8 a15, .int .u8 a16, .int .u8 a17, .int .u8 a18, .int .u8 a19, .int .u8 a20, .int .u8 a21, .int .u8 a22, .int .u8 a23, .int .u8 a24, .int .u8 a25, .int .u8 a26, .int .u8 a27, .int .u8 a28, .int .u8 a29, .int .u8 a30, .int .u8 a31]⟩ 27 (0, 0))) b 27 [.int .u8 a0, .int .u8 a1, .int .u8 a2, .int .u8 a3, .int .u8 a4, .int .u8 a5, .int .u8 a6, .int .u8 a7, .int .u8 a8, .int .u8 a9, .int .u8 a10, .int .u8 a11, .int .u8 a12, .int .u8 a13, .int .u8 a14, .int .u8 a15, .int .u8 a16, .int .u8 a17, .int .u8 a18, .int .u8 a19, .int .u8 a20, .int .u8 a21, .int .u8 a22, .int .u8 a23, .int .u8 a24, .int .u8 a25, .int .u8 a26, .int .u8 a27, .int .u8 a28, .int .u8 a29, .int .u8 a30, .int .u8 a31] := Blk.upd_same
  revert x K
  generalize upd h b _ = h1
  intro x K
  by_cases h0 : n < 0
  · simp only [h0, decide_true, cond_true]
    exact hK none h1 x (by simp [noHold, h0])
  by_cases h2 : n > 16777216
  · simp only [h0, h2, decide_true, decide_false, cond_true, cond_false]
    exact hK none h1 x (by simp [noHold, h2])
  simp only [h0, h2, decide_false, cond_false]
  simp only [add_bk, K.cell, bk, List.getElem?_cons_zero, List.getElem?_cons_succ, xI_some]
  intro b2 e2
  exact hK _ _ (x.trans (Ext.new e2)) (by simp [noHold, h0, h2])

/-! ### transfers -/
def mayF (ip : Int) (file : ByteArray) (block window : Int) : Bool := isHost ip && (fileOk file && (decide (8 ≤ block) && (decide (block ≤ 1428) && (decide (1 ≤ window) && decide (window ≤ 64)))))
theorem c_fetch {ip block window : Int} {file : ByteArray} {p : Option Addr} {h : Hp} {K : Option Addr → Hp → Prop} (hK : ∀ q h', Ext none' h h' → q.isNone = !(p.isSome && mayF ip file block window) → K q h') : C11 ip file block window p h K := by
  apply S11; unfold N11
  intro b e
  have x := Ext.new (S := none') (o := .cells ⟨[.int .u32 ip, .string file, .int .i64 block, .int .i64 window]⟩ 26 (0, 0)) e
  have B : Blk (upd h b (.cells ⟨[.int .u32 ip, .string file, .int .i64 block, .int .i64 window]⟩ 26 (0, 0))) b 26 [.int .u32 ip, .string file, .int .i64 block, .int .i64 window] := Blk.upd_same
  revert x B
  generalize upd h b _ = h1
  intro x B
  have j0 : ∀ nm : Bool, nm = fileOk file → N11_j0 p (some (bk b)) nm h1 K := by
    intro nm hn
    unfold N11_j0
    rw [peq_none]
    cases p with
    | none => exact hK none h1 x rfl
    | some a =>
      simp only [Option.isNone_some, cond_false, nn_some', add_bk, B.cell, bk, List.getElem?_cons_zero, List.getElem?_cons_succ, xI_some, xS_some]
      refine c_isHost ?_
      cases h0 : isHost ip with
      | false => exact hK none h1 x (by simp [mayF, h0])
      | true =>
        simp only [Bool.not_true, cond_false]
        cases h2 : nm with
        | false => exact hK none h1 x (by simp [mayF, ← hn, h2])
        | true =>
          rw [h2] at hn
          simp only [Bool.not_true, cond_false]
          by_cases h3 : block < 8
          · simp only [nn_some', add_mk, add_bk, B.cell, bk, List.getElem?_cons_zero, List.getElem?_cons_succ, xI_some, xS_some, h3, decide_true, cond_true]
            exact hK none h1 x (by simp [mayF]; omega)
          by_cases h4 : block > 1428
          · simp only [nn_some', add_mk, add_bk, B.cell, bk, List.getElem?_cons_zero, List.getElem?_cons_succ, xI_some, xS_some, h3, h4, decide_true, decide_false, cond_true, cond_false]
            exact hK none h1 x (by simp [mayF]; omega)
          by_cases h5 : window < 1
          · simp only [nn_some', add_mk, add_bk, B.cell, bk, List.getElem?_cons_zero, List.getElem?_cons_succ, xI_some, xS_some, h3, h4, h5, decide_true, decide_false, cond_true, cond_false]
            exact hK none h1 x (by simp [mayF]; omega)
          by_cases h6 : window > 64
          · simp only [nn_some', add_mk, add_bk, B.cell, bk, List.getElem?_cons_zero, List.getElem?_cons_succ, xI_some, xS_some, h3, h4, h5, h6, decide_true, decide_false, cond_true, cond_false]
            exact hK none h1 x (by simp [mayF]; omega)
          simp only [nn_some', add_mk, add_bk, B.cell, bk, List.getElem?_cons_zero, List.getElem?_cons_succ, xI_some, xS_some, h3, h4, h5, h6, decide_false, cond_false]
          intro b2 e2
          refine hK _ _ (x.trans (Ext.new e2)) ?_
          have g3 : 8 ≤ block := by omega
          have g4 : block ≤ 1428 := by omega
          have g5 : 1 ≤ window := by omega
          have g6 : window ≤ 64 := by omega
          simp [mayF, h0, ← hn, g3, g4, g5, g6]
  simp only [add_bk, B.cell, bk, List.getElem?_cons_zero, List.getElem?_cons_succ, xS_some]
  by_cases h1' : 1 ≤ file.size
  · have e1 : decide ((file.size : Int) ≥ 1) = true := decide_eq_true (by omega)
    rw [e1, cond_true]
    by_cases h2 : file.size ≤ 64
    · have e2 : decide ((file.size : Int) ≤ 64) = true := decide_eq_true (by omega)
      rw [e2, cond_true]
      refine c_contains0 ?_
      exact j0 _ (by simp [fileOk, h1', h2])
    · have e2 : decide ((file.size : Int) ≤ 64) = false := decide_eq_false (by omega)
      rw [e2, cond_false]
      exact j0 _ (by simp [fileOk, h2])
  · have e1 : decide ((file.size : Int) ≥ 1) = false := decide_eq_false (by omega)
    rw [e1, cond_false]
    exact j0 _ (by simp [fileOk, h1'])
theorem c_Fetch {ip block window : Int} {file : ByteArray} {p : Option Addr} {h : Hp} {K : Option Addr → Hp → Prop} (i0 : 0 ≤ ip) (i1 : ip < 4294967296) (hK : ∀ q h', Ext none' h h' → q.isNone = !(p.isSome && mayF ip file block window) → K q h') : C12 ip file block window p h K := by
  apply S12; unfold N12
  intro b e
  have x := Ext.new (S := none') (o := .cells ⟨[.int .u32 ip, .string file, .int .i64 block, .int .i64 window]⟩ 26 (0, 0)) e
  have B : Blk (upd h b (.cells ⟨[.int .u32 ip, .string file, .int .i64 block, .int .i64 window]⟩ 26 (0, 0))) b 26 [.int .u32 ip, .string file, .int .i64 block, .int .i64 window] := Blk.upd_same
  revert x B
  generalize upd h b _ = h1
  intro x B
  simp only [add_bk, B.cell, bk, List.getElem?_cons_zero, List.getElem?_cons_succ, xI_some, xS_some]
  refine c_IsHost i0 i1 ?_
  rw [peq_none]
  cases p with
  | none => exact hK none h1 x rfl
  | some a =>
    simp only [Option.isNone_some, cond_false]
    cases h0 : isHost ip with
    | false => exact hK none h1 x (by simp [mayF, h0])
    | true =>
      simp only [nn_some', add_mk, add_bk, B.cell, bk, List.getElem?_cons_zero, List.getElem?_cons_succ, xI_some, xS_some, Bool.not_true, cond_false]
      by_cases s1 : 1 ≤ file.size
      · have e1 : decide ((file.size : Int) < 1) = false := decide_eq_false (by omega)
        rw [e1, cond_false]
        by_cases s2 : file.size ≤ 64
        · have e2 : decide ((file.size : Int) > 64) = false := decide_eq_false (by omega)
          rw [e2, cond_false]
          by_cases h3 : block < 8
          · simp only [nn_some', add_mk, add_bk, B.cell, bk, List.getElem?_cons_zero, List.getElem?_cons_succ, xI_some, xS_some, h3, decide_true, cond_true]
            exact hK none h1 x (by simp [mayF]; omega)
          by_cases h4 : block > 1428
          · simp only [nn_some', add_mk, add_bk, B.cell, bk, List.getElem?_cons_zero, List.getElem?_cons_succ, xI_some, xS_some, h3, h4, decide_true, decide_false, cond_true, cond_false]
            exact hK none h1 x (by simp [mayF]; omega)
          by_cases h5 : window < 1
          · simp only [nn_some', add_mk, add_bk, B.cell, bk, List.getElem?_cons_zero, List.getElem?_cons_succ, xI_some, xS_some, h3, h4, h5, decide_true, decide_false, cond_true, cond_false]
            exact hK none h1 x (by simp [mayF]; omega)
          by_cases h6 : window > 64
          · simp only [nn_some', add_mk, add_bk, B.cell, bk, List.getElem?_cons_zero, List.getElem?_cons_succ, xI_some, xS_some, h3, h4, h5, h6, decide_true, decide_false, cond_true, cond_false]
            exact hK none h1 x (by simp [mayF]; omega)
          simp only [nn_some', add_mk, add_bk, B.cell, bk, List.getElem?_cons_zero, List.getElem?_cons_succ, xI_some, xS_some, h3, h4, h5, h6, decide_false, cond_false]
          unfold N12_l0
          obtain ⟨⟨l⟩⟩ := file
          have sz : (⟨⟨l⟩⟩ : ByteArray).size = l.length := rfl
          rw [sz] at s1 s2
          refine loopP_inv (fun (y : Int) hc => hc = h1 ∧ ∃ i : Nat, y = i ∧ i ≤ l.length ∧ ∀ c ∈ l.take i, c ≠ 0) (fun y _ => l.length - y.toNat) ?_ ⟨rfl, 0, rfl, Nat.zero_le _, by simp⟩
          rintro y hc ⟨rfl, i, rfl, hi, hz⟩
          unfold N12_l0_B N12_l0_b
          simp only [nn_some', add_mk, B.cell, List.getElem?_cons_zero, List.getElem?_cons_succ, xI_some, xS_some, sz]
          by_cases hlt : i < l.length
          · have : decide ((i : Int) < ((l.length : Nat) : Int)) = true := decide_eq_true (by omega)
            rw [this, cond_true]
            refine idx_of (by omega) (by omega) ?_
            rw [sbyte_at rfl hlt]
            by_cases z : l[i] = 0
            · have : ((((l[i]).toNat : Nat) : Int) == 0) = true := by rw [z]; rfl
              rw [this, cond_true]
              have : hasZero ⟨⟨l⟩⟩ = true := decide_eq_true (by show 0 ∈ l; rw [← z]; exact List.getElem_mem hlt)
              exact hK none _ x (by simp [mayF, fileOk, this])
            · have : ((((l[i]).toNat : Nat) : Int) == 0) = false := by
                rw [beq_eq_false_iff_ne]; intro hq; exact z (UInt8.toNat_inj.1 (by simp; omega))
              rw [this, cond_false]
              rw [nat_succ64 (by omega)]
              refine ⟨⟨trivial, i + 1, rfl, hlt, ?_⟩, by simp only [Int.toNat_natCast]; omega⟩
              intro c hc
              rw [← List.take_append_getElem hlt] at hc
              rcases List.mem_append.1 hc with hc | hc
              · exact hz c hc
              · simp at hc; rw [hc]; exact z
          · have : decide ((i : Int) < ((l.length : Nat) : Int)) = false := decide_eq_false (by omega)
            rw [this, cond_false]
            rw [List.take_of_length_le (by omega)] at hz
            have hz0 : hasZero ⟨⟨l⟩⟩ = false := decide_eq_false (fun hm => hz 0 hm rfl)
            intro b2 e2
            refine hK _ _ (x.trans (Ext.new e2)) ?_
            have g3 : 8 ≤ block := by omega
            have g4 : block ≤ 1428 := by omega
            have g5 : 1 ≤ window := by omega
            have g6 : window ≤ 64 := by omega
            simp [mayF, fileOk, hz0, h0, g3, g4, g5, g6, sz, s1, s2]
        · have e2 : decide ((file.size : Int) > 64) = true := decide_eq_true (by omega)
          rw [e2, cond_true]
          exact hK none h1 x (by simp [mayF, fileOk, s2])
      · have e1 : decide ((file.size : Int) < 1) = true := decide_eq_true (by omega)
        rw [e1, cond_true]
        exact hK none h1 x (by simp [mayF, fileOk, s1])

set_option maxHeartbeats 4000000 in
theorem fetchNews_walk {ip block window n a0 a1 a2 a3 a4 a5 a6 a7 a8 a9 a10 a11 a12 a13 a14 a15 a16 a17 a18 a19 a20 a21 a22 a23 a24 a25 a26 a27 a28 a29 a30 a31 : Int} {file : ByteArray} {h : Hp} (L : Laid h) (i0 : 0 ≤ ip) (i1 : ip < 4294967296) : C4 ip file block window n a0 a1 a2 a3 a4 a5 a6 a7 a8 a9 a10 a11 a12 a13 a14 a15 a16 a17 a18 a19 a20 a21 a22 a23 a24 a25 a26 a27 a28 a29 a30 a31 h fun v h' => v = true ∧ Ext none' h h' := by
  apply S4; unfold N4
  intro b e
  have x := Ext.new (S := none') (o := .cells ⟨[.int .u32 ip, .string file, .int .i64 block, .int .i64 window]⟩ 26 (0, 0)) e
  have B : Blk (upd h b (.cells ⟨[.int .u32 ip, .string file, .int .i64 block, .int .i64 window]⟩ 26 (0, 0))) b 26 [.int .u32 ip, .string file, .int .i64 block, .int .i64 window] := Blk.upd_same
  revert x B
  generalize upd h b _ = h1
  intro x B b2 e2
  have x2 := Ext.new (S := none') (o := .cells ⟨[.int .u8 a0, .int .u8 a1, .int .u8 a2, .int .u8 a3, .int .u8 a4, .int .u8 a5, .int .u8 a6, .int .u8 a7, .int .u8 a8, .int .u8 a9, .int .u8 a10, .int .u8 a11, .int .u8 a12, .int .u8 a13, .int .u8 a14, .int .u8 a15, .int .u8 a16, .int .u8 a17, .int .u8 a18, .int .u8 a19, .int .u8 a20, .int .u8 a21, .int .u8 a22, .int .u8 a23, .int .u8 a24, .int .u8 a25, .int .u8 a26, .int .u8 a27, .int .u8 a28, .int .u8 a29, .int .u8 a30, .int .u8 a31]⟩ 27 (0, 0)) e2
  have K : Blk (upd h1 b2 (.cells ⟨[.int .u8 a0, .int .u8 a1, .int .u8 a2, .int .u8 a3, .int .u8 a4, .int .u8 a5, .int .u8 a6, .int .u8 a7, .int .u8 a8, .int .u8 a9, .int .u8 a10, .int .u8 a11, .int .u8 a12, .int .u8 a13, .int .u8 a14, .int .u8 a15, .int .u8 a16, .int .u8 a17, .int .u8 a18, .int .u8 a19, .int .u8 a20, .int .u8 a21, .int .u8 a22, .int .u8 a23, .int .u8 a24, .int .u8 a25, .int .u8 a26, .int .u8 a27, .int .u8 a28, .int .u8 a29, .int .u8 a30, .int .u8 a31]⟩ 27 (0, 0))) b2 27 [.int .u8 a0, .int .u8 a1, .int .u8 a2, .int .u8 a3, .int .u8 a4, .int .u8 a5, .int .u8 a6, .int .u8 a7, .int .u8 a8, .int .u8 a9, .int .u8 a10, .int .u8 a11, .int .u8 a12, .int .u8 a13, .int .u8 a14, .int .u8 a15, .int .u8 a16, .int .u8 a17, .int .u8 a18, .int .u8 a19, .int .u8 a20, .int .u8 a21, .int .u8 a22, .int .u8 a23, .int .u8 a24, .int .u8 a25, .int .u8 a26, .int .u8 a27, .int .u8 a28, .int .u8 a29, .int .u8 a30, .int .u8 a31] := Blk.upd_same
  revert x2 K
  generalize upd h1 b2 _ = h2
  intro x2 K
  replace B := x2.blk B (fun e => e)
  replace x := x.trans x2
  refine c_awake (L.ext x) fun h3 x3 => ?_
  replace B := x3.blk B (fun e => e)
  replace K := x3.blk K (fun e => e)
  replace x := x.trans x3
  simp only [add_bk, K.cell, bk, List.getElem?_cons_zero, List.getElem?_cons_succ, xI_some]
  refine c_hold fun p0 h4 x4 q0 => ?_
  replace B := x4.blk B (fun e => e)
  replace K := x4.blk K (fun e => e)
  replace x := x.trans x4
  simp only [add_bk, K.cell, bk, List.getElem?_cons_zero, List.getElem?_cons_succ, xI_some]
  refine c_Hold fun p1 h5 x5 q1 => ?_
  replace B := x5.blk B (fun e => e)
  replace x := x.trans x5
  simp only [B.cell, List.getElem?_cons_zero, List.getElem?_cons_succ, xI_some, xS_some]
  refine c_fetch fun p2 h6 x6 q2 => ?_
  replace B := x6.blk B (fun e => e)
  replace x := x.trans x6
  simp only [B.cell, List.getElem?_cons_zero, List.getElem?_cons_succ, xI_some, xS_some]
  refine c_Fetch i0 i1 fun p3 h7 x7 q3 => ?_
  replace B := x7.blk B (fun e => e)
  replace x := x.trans x7
  simp only [B.cell, List.getElem?_cons_zero, List.getElem?_cons_succ, xI_some, xS_some]
  refine c_fetch fun p4 h8 x8 q4 => ?_
  replace x := x.trans x8
  simp only [cond_true, peq_none]
  have e0 : p0.isSome = p1.isSome := by rw [← Option.not_isNone, ← Option.not_isNone, q0, q1]
  rw [e0, ← q3] at q2
  rw [q0, q1, q2]
  simp only [beq_self_eq_true, cond_true]
  rw [q4]
  exact ⟨rfl, x⟩

set_option maxRecDepth 100000 in
theorem fetchNews_rw {H : Type} {enc : TypeId × Value → H} {W : World} {base : Nat} {args : Array Value} {ds : List (DataW H)} {p : List MemPlace}
    (hval : ∀ (j : Nat) t v, Tryz.f4.params[j]? = some t → args[j]? = some v → Value.okWide Tryz.prog W .any base t v)
    (hA : DataW.TrodAll enc Tryz.prog W 0 (fun _ => true) true Tryz.f4.params.toList args.toList ds p)
    (hwt : (DataW.weightsEach Tryz.prog Tryz.f4.params.toList ds).all (· ≤ reachBytes) = true)
    (hX : laidMetH Tryz.prog laidL W) (hsh : W.ShapedOpen Tryz.prog) :
    HCalls Tryz.prog 4 args (hpOf W) fun v h' => v = .bool true ∧ Ext none' (hpOf W) h' := by
  have ep : Tryz.f4.params = #[26, 3, 27] := by kernel_rfl
  rw [ep] at hA hval
  obtain ⟨v0, r0, d0, s0, p0, q0, ea, rfl, rfl, h0, hA⟩ := trodAll_cons hA
  obtain ⟨v1, r1, d1, s1, p1, q1, rfl, rfl, rfl, h1, hA⟩ := trodAll_cons hA
  obtain ⟨v2, r2, d2, s2, p2, q2, rfl, rfl, rfl, h2, hA⟩ := trodAll_cons hA
  obtain ⟨rfl, rfl, rfl⟩ := trodAll_nil hA
  have ea : args = #[v0, v1, v2] := Array.toList_inj.1 ea
  subst ea
  obtain ⟨n, rfl, wn⟩ := int_open (k := .i64) (by kernel_rfl) (hval 1 3 v1 rfl rfl) h1
  obtain ⟨l, hl, rfl⟩ := arr_open (e := 5) (n := 32) (by kernel_rfl) (by kernel_rfl) (by kernel_rfl) (by kernel_rfl) (hval 2 27 v2 rfl rfl) h2
  have hu : Tryz.prog.underlying 26 = some (.struct #[.mk "Server" 24 0 false "" "" 0, .mk "File" 9 1 false "" "" 8, .mk "Block" 3 2 false "" "" 24, .mk "Window" 3 3 false "" "" 32]) := by kernel_rfl
  obtain ⟨⟨cs⟩, rfl, hsz⟩ := okWide_struct hu (hval 0 26 v0 rfl rfl)
  obtain ⟨fuel, hf⟩ := h0
  replace hf : DataW.trod enc Tryz.prog W 0 (fun _ => true) true fuel 26 cs = some (d0, p0) := hf
  obtain ⟨xs, m, _, hxe, hcl, hxl, hx⟩ := DataW.trod_struct hu hf
  rw [show Tryz.prog.cellsOf 26 = 4 from by kernel_rfl] at hcl
  have hxl : xs.length = 4 := hxl
  match cs, hcl with
  | [u0, u1, u2, u3], _ =>
    match xs, hxl with
    | [y0, y1, y2, y3], _ =>
      have g0 := hx 0 _ rfl
      have g1 := hx 1 _ rfl
      have g2 := hx 2 _ rfl
      have g3 := hx 3 _ rfl
      simp only [show Tryz.prog.cellsOf 9 = 1 from by kernel_rfl, show Tryz.prog.cellsOf 3 = 1 from by kernel_rfl, show Tryz.prog.cellsOf 24 = 1 from by kernel_rfl,
        List.drop_zero, List.drop_succ_cons, List.take_succ_cons, List.take_zero, List.getElem?_cons_zero, List.getElem?_cons_succ] at g0 g1 g2 g3
      obtain ⟨ip, e0, _, w0⟩ := DataW.trod_int (k := .u32) (by kernel_rfl) g0
      obtain ⟨file, e1, _, _⟩ := DataW.trod_string (by kernel_rfl) g1
      obtain ⟨block, e2, _, _⟩ := DataW.trod_int (k := .i64) (by kernel_rfl) g2
      obtain ⟨window, e3, _, _⟩ := DataW.trod_int (k := .i64) (by kernel_rfl) g3
      cases e0; cases e1; cases e2; cases e3
      have w0 := wfb w0
      simp [IntKind.min, IntKind.max, IntKind.signed, IntKind.bits] at w0
      match l, hl with
      | [a0, a1, a2, a3, a4, a5, a6, a7, a8, a9, a10, a11, a12, a13, a14, a15, a16, a17, a18, a19, a20, a21, a22, a23, a24, a25, a26, a27, a28, a29, a30, a31], _ =>
        have hc := fetchNews_walk (ip := ip) (block := block) (window := window) (file := file) (n := n) (a0 := (a0.toNat : Int)) (a1 := (a1.toNat : Int)) (a2 := (a2.toNat : Int)) (a3 := (a3.toNat : Int)) (a4 := (a4.toNat : Int)) (a5 := (a5.toNat : Int)) (a6 := (a6.toNat : Int)) (a7 := (a7.toNat : Int)) (a8 := (a8.toNat : Int)) (a9 := (a9.toNat : Int)) (a10 := (a10.toNat : Int)) (a11 := (a11.toNat : Int)) (a12 := (a12.toNat : Int)) (a13 := (a13.toNat : Int)) (a14 := (a14.toNat : Int)) (a15 := (a15.toNat : Int)) (a16 := (a16.toNat : Int)) (a17 := (a17.toNat : Int)) (a18 := (a18.toNat : Int)) (a19 := (a19.toNat : Int)) (a20 := (a20.toNat : Int)) (a21 := (a21.toNat : Int)) (a22 := (a22.toNat : Int)) (a23 := (a23.toNat : Int)) (a24 := (a24.toNat : Int)) (a25 := (a25.toNat : Int)) (a26 := (a26.toNat : Int)) (a27 := (a27.toNat : Int)) (a28 := (a28.toNat : Int)) (a29 := (a29.toNat : Int)) (a30 := (a30.toNat : Int)) (a31 := (a31.toNat : Int)) (laid_of hX) w0.1 (by omega)
        refine HCalls.mono hc ?_
        intro v h' hv
        obtain ⟨x, hx, rfl, he⟩ := VT.on_some hv
        cases hx
        exact ⟨rfl, he⟩

set_option maxRecDepth 100000 in
theorem fetchNews_lifted (os : Os) (started : os.Started) (H : Type) (enc : TypeId × Value → H) :
    ReturnsInHanded {} Tryz.checked os 4 .any (fun w args => (Rows.fetchNewsSpec.pre enc Tryz.prog Tryz.f4 [] false w args ∧ laidMetH Tryz.prog laidL w) ∧ sizedMet enc Tryz.prog Tryz.f4 (OpenSpec.ofChange Rows.fetchNewsSpec) false w args)
      (Rows.fetchNewsSpec.post enc Tryz.prog Tryz.f4 false true false false) := by
  refine law_lift (C := Tryz.checked) (X := fun w => laidMetH Tryz.prog laidL w) (tb := 4) (fun _ _ hh h => h.of_heap hh) own_knob started (by kernel_rfl) Tryz.func4
    (ChangeSpec.witness_at (enc := enc) (C := Tryz.checked) (os := os) (X := fun w _ => laidMetH Tryz.prog laidL w) false (laidWorld os) #[.agg #[.int .u32 0, .string ⟨#[]⟩, .int .i64 0, .int .i64 0], .int .i64 0, .agg #[.int .u8 0, .int .u8 0, .int .u8 0, .int .u8 0, .int .u8 0, .int .u8 0, .int .u8 0, .int .u8 0, .int .u8 0, .int .u8 0, .int .u8 0, .int .u8 0, .int .u8 0, .int .u8 0, .int .u8 0, .int .u8 0, .int .u8 0, .int .u8 0, .int .u8 0, .int .u8 0, .int .u8 0, .int .u8 0, .int .u8 0, .int .u8 0, .int .u8 0, .int .u8 0, .int .u8 0, .int .u8 0, .int .u8 0, .int .u8 0, .int .u8 0, .int .u8 0]] 8 rfl (by kernel_rfl) (by kernel_rfl) (by kernel_rfl) (by kernel_rfl) (by kernel_rfl) (laid_met os _))
    laid_out ?_ (by kernel_rfl) (by kernel_rfl) rfl ?_ ?_
  · have : (Tryz.f4.params.toList.all fun t => Tryz.prog.readableRec t && decide (t < Tryz.prog.types.size)) = true := by kernel_rfl
    intro t ht
    have := List.all_eq_true.1 this t ht
    rw [Bool.and_eq_true, decide_eq_true_eq] at this
    exact this
  · intro ds hl
    have hl : ds.length = 3 := hl
    match ds, hl with
    | [a0, a1, a2], _ => exact ⟨rfl, rfl, rfl⟩
  · intro W base args ds p hval hA hwt hX hsh
    exact fetchNews_rw hval hA hwt hX hsh

theorem fetchNews_row : Rows.FetchNewsSaid :=
  OpenClaim.holds_of_wide 4 Tryz.f4 rfl rfl rfl rfl rfl rfl rfl ⟨rfl, rfl, rfl, rfl, rfl⟩ rfl rfl rfl rfl rfl (by kernel_rfl) Tryz.func4 (by kernel_rfl)
    (of_decide_eq_true (by kernel_rfl)) (by unfold Func.isWrapper; first | (rw [if_pos (by decide +kernel)]; kernel_rfl) | (rw [if_neg (by decide +kernel)]; exact ⟨rfl, rfl⟩))
    (fun os started H enc _ => fetchNews_lifted os started H enc)

/-- the statement -/
theorem fetchNews_card : Rows.FetchNewsCardSaid :=
  Claim7.holds_tied_plain_at .later [] [.data, .data, .data, .sentinel, .sentinel, .sentinel, .sentinel] true (true, "07b2a5efc8bf13ac9c53d73f6120ea57849f4ee7a03bd5d76484620bc13cc5b3") true
    fetchNews_row (fun _ h => by cases h) (by kernel_rfl) (fun _ h => by cases h) fetchNews_row_tie rfl ⟨rfl, rfl⟩ (by kernel_rfl) rfl
    (fun f fn hf hfn => by
      obtain rfl : f = 4 := Option.some.inj ((show Tryz.prog.funcNamed "slipway/slipwaylaw21.FetchNews" = some 4 by kernel_rfl).symm.trans hf) |>.symm
      obtain rfl : fn = Tryz.f4 := (Option.some.inj (Tryz.func4.symm.trans hfn)).symm
      have hall : (Tryz.f4.params.toList.all fun t => !(Tryz.prog.wantsStandIn t)) = true := by kernel_rfl
      refine ⟨by kernel_rfl, fun j t ht => ?_⟩
      have := List.all_eq_true.1 hall t (by rw [← Array.getElem?_toList] at ht; exact List.mem_of_getElem? ht)
      rw [Bool.not_eq_true'] at this
      exact this)
    (by kernel_rfl)
#print axioms fetchNews_card

end Go.Proofs.YtfedjbekelfnpaaGreatDoor
