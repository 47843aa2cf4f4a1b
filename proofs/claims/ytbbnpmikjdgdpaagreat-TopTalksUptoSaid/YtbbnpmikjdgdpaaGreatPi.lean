/-
 TopTalks: the walk of its body, whole.
-/
import Derived.Test.YtbbnpmikjdgdpaaGreatPh
import Derived.Test.YtbbnpmikjdgdpaaGreatPc
import Derived.HandedShaped
import Derived.JoinedOf
import Derived.LaidSub
import Derived.Test.YtbbnpmikjdgdpaaGreatPd
import Derived.OpenShut
import Derived.SizedLaws
import Derived.Deep.DeepHandedRow
import Derived.JoinedCond
import Derived.Test.YtbbnpmikjdgdpaaGreatRows
import Derived.WalkKit
import Derived.ProofKit
import Derived.Stop.LaidErr
import Derived.Lib.LaidTab
set_option linter.unusedSimpArgs false
set_option linter.unusedVariables false
set_option maxRecDepth 20000
namespace Go.Proofs.YtbbnpmikjdgdpaaGreat
open Go Go.Hw
instance (u : Ud) : Decidable u.may := by unfold Ud.may; exact inferInstance
section
variable {L : List Asn} {h : Hp} {ma ca ba mb_ cb bb : Nat} {now : Int} {Q W : List UdE} {s1 sw : Sl}
theorem talks_j3 {i z1 : Nat} {x65 : Sl} {x66 x67 : Int} {SA SB : StS} {e : UdE} {K0 K1 : Sl → Hp → Prop} {K2 : Bool → Hp → Prop}
  (hs : Sat (L ++ [row z1 34 (utC e), mch ma ca ba, mch mb_ cb bb, stackA ba ca SA, stackA bb cb SB, Hw.own 34 3 sw (W.flatMap utC)]) h) (hn : 0 ≤ now ∧ now + 600 ≤ maxT)
  (hT : TS now i SA SB (W.map UdE.ud)) (hW : ∀ e ∈ W, (∀ h', Sat L h' → RdB h' e.s e.data)) (hl : W.length ≤ 8) (h1 : i = 1 → Int.tmod e.dst 2 ≠ 0)
  (hK : ∀ (SA' SB' : StS) (W' : List UdE) (sw' : Sl) (h' : Hp), TI now i SA' SB' (W'.map UdE.ud) → (∀ e ∈ W', e ∈ W) → Sat (L ++ [mch ma ca ba, mch mb_ cb bb, stackA ba ca SA', stackA bb cb SB', Hw.own 34 3 sw' (W'.flatMap utC)]) h' → K0 sw' h' ∧ K1 sw' h') :
  N3_j3 now (some (bk ma)) (some (bk mb_)) sw (some (bk z1)) x65 x66 x67 h K0 K1 K2 := by
 unfold N3_j3
 have wn := hs.elemN 5 rfl utC_w (by decide)
 simp only [nn_some', add_bk]
 unfold utC at hs
 refine hs.lI 0 rfl rfl ?_
 have g : Sat (L ++ [mch ma ca ba, mch mb_ cb bb, stackA ba ca SA, stackA bb cb SB, Hw.own 34 3 sw (W.flatMap utC)]) h := hs.sel [1, 2, 3, 4, 5] (by decide) rfl
 have look : ∀ {Kx : Sl → Hp → Prop} {Ky : Bool → Hp → Prop}, (∀ s h', K0 s h' ∧ K1 s h' → Kx s h') → N3_j4 now (some (bk ma)) (some (bk mb_)) sw x65 x66 x67 h Kx Ky := by
  intro Kx Ky hx
  refine talks_j4 g hn hT hW hl fun SA' SB' h' hT' g' => ?_
  exact hx _ _ (hK SA' SB' [] ⟨none, 0, 0⟩ h' hT' (by simp) g')
 by_cases k1 : Int.tmod e.dst 2 = 0
 ·rw [show (Int.tmod e.dst 2 == 0) = true by simp [k1], cond_true]
  by_cases k2 : W.length < 8
  ·rw [show decide (((sw.n : Nat) : Int) < 8) = true from decide_eq_true (by omega), cond_true]
   refine (hK SA SB W sw h ?_ (fun _ h => h) g).1
   rcases hT with ⟨q, _⟩ | ⟨hi, id, tq, la, lb, cB, e1, e2, e3, e4, e5, e6⟩
   ·exact absurd k1 (h1 q)
   ·exact .inr ⟨hi, id, tq, la, lb, cB, e1, e2, e3, by rw [List.length_map]; omega, e5, e6⟩
  ·rw [show decide (((sw.n : Nat) : Int) < 8) = false from decide_eq_false (by omega), cond_false]
   exact look fun s h' q => q.2
 ·rw [show (Int.tmod e.dst 2 == 0) = false by simp [k1], cond_false]
  exact look fun s h' q => q.2
theorem TI.len {i : Nat} {SA SB : StS} {W : List Ud} (h : TI now i SA SB W) : W.length < 8 := by
 rcases h with ⟨_, _, _, rfl⟩ | ⟨_, _, _, _, _, _, _, _, _, h, _⟩
 ·simp
 ·exact h
theorem talks_j2 {i z1 z2 : Nat} {x65 : Sl} {x66 x67 : Int} {SA SB : StS} {e : UdE} {mayb : Bool} {K0 K1 : Sl → Hp → Prop} {K2 : Bool → Hp → Prop}
  (hs : Sat (L ++ [row z1 34 (utC e), row z2 36 [.int .u32 167772161, .int .u32 167772162, .int .i64 e.src, .int .i64 7, e.s.v], mch ma ca ba, mch mb_ cb bb, stackA ba ca SA, stackA bb cb SB, Hw.own 34 3 sw (W.flatMap utC)]) h) (hn : 0 ≤ now ∧ now + 600 ≤ maxT)
  (hT : TI now i SA SB (W.map UdE.ud)) (hW : ∀ e ∈ W, (∀ h', Sat L h' → RdB h' e.s e.data)) (he : ∀ h', Sat L h' → RdB h' e.s e.data) (hel : e.data.length ≤ 1099511627776) (h0 : i = 0 → e.ud = u1 ∧ Int.tmod e.dst 2 ≠ 0) (hi : i ≤ 2000000) (hm : mayb = decide e.ud.may)
  (hK : ∀ (SA' SB' : StS) (W' : List UdE) (sw' : Sl) (h' : Hp), TI now (i + 1) SA' SB' (W'.map UdE.ud) → (∀ e' ∈ W', e' ∈ W ∨ e' = e) → Sat (L ++ [mch ma ca ba, mch mb_ cb bb, stackA ba ca SA', stackA bb cb SB', Hw.own 34 3 sw' (W'.flatMap utC)]) h' → K0 sw' h' ∧ K1 sw' h') :
  N3_j2 now (some (bk ma)) (some (bk mb_)) sw (some (bk z1)) (some (bk z2)) mayb x65 x66 x67 h K0 K1 K2 := by
 unfold N3_j2
 have wn := hs.elemN 6 rfl utC_w (by decide)
 have wl := hT.len
 rw [List.length_map] at wl
 have hsend := hT.send (u := e.ud) hn (fun q => (h0 q).1)
 rw [show e.ud.src = e.src from rfl, show e.ud.data = e.data from rfl] at hsend
 obtain ⟨t1, t2, t3, t4⟩ := hsend
 simp only [nn_some', add_bk]
 unfold mch at hs
 refine hs.lP 2 (k := 1) rfl rfl ?_
 refine hs.lI 1 (k := 0) rfl rfl ?_
 refine hs.lI 1 rfl rfl ?_
 refine hs.lI 1 rfl rfl ?_
 refine hs.lI 1 rfl rfl ?_
 refine hs.lL 1 rfl rfl ?_
 have g1 := hs.part [0, 2, 3, 5, 6, 4] (by decide) rfl (M1 := [row z1 34 (utC e), row ma 30 [.pointer (some (bk ca)), .pointer (some (bk ba))], row mb_ 30 [.pointer (some (bk cb)), .pointer (some (bk bb))], stackA bb cb SB, Hw.own 34 3 sw (W.flatMap utC)]) (M2 := [stackA ba ca SA])
 refine c_ssend g1 t1 (fun h' g => he h' g.left) (by decide) (by decide) hel (by omega) fun h1 g2 => ?_
 have g2 : Sat (L ++ [row z1 34 (utC e), mch ma ca ba, mch mb_ cb bb, stackA ba ca (sendS SA 167772161 167772162 e.src 7 e.data now).2, stackA bb cb SB, Hw.own 34 3 sw (W.flatMap utC)]) h1 := (Sat.asc g2).sel [0, 1, 2, 5, 3, 4] (by decide) rfl
 rw [hm, show ((sendS SA 167772161 167772162 e.src 7 e.data now).1 == 0) = decide e.ud.may from t3, show (!(decide e.ud.may == decide e.ud.may)) = false by simp, cond_false]
 clear hs g1
 generalize sendS SA 167772161 167772162 e.src 7 e.data now = R at t3 t4 g2
 by_cases k : e.ud.may
 ·rw [if_pos k] at t4
  rw [decide_eq_true k, cond_true]
  have g3 := g2
  unfold utC at g3
  refine g3.lI 0 (k := 0) rfl rfl ?_
  refine g3.lI 0 rfl rfl ?_
  refine g3.lL 0 rfl rfl ?_
  refine g2.push 5 rfl (k := 1) (ns := utC e) ut_a ut_z rfl utC_plain ?_ ?_
  ·have : (sw.n + 1) * 2 * Tryz.prog.bytesOf 34 ≤ (sw.n + 1) * 2 * 64 := Nat.mul_le_mul_left _ ut_b
   omega
  ·intro sw' h2 g4 _
   have g4 : Sat (L ++ [row z1 34 (utC e), mch ma ca ba, mch mb_ cb bb, stackA ba ca R.2, stackA bb cb SB, Hw.own 34 3 sw' ((W ++ [e]).flatMap utC)]) h2 := by
    rw [List.flatMap_append, List.flatMap_singleton]; exact g4
   refine talks_j3 (i := i + 1) (W := W ++ [e]) g4 hn (by rw [List.map_append]; exact t4) ?_ (by rw [List.length_append, List.length_singleton]; omega) (fun q => (h0 (by omega)).2) ?_
   ·intro x hx
    rcases List.mem_append.1 hx with hx | hx
    ·exact hW x hx
    ·simp at hx; subst hx; exact he
   ·intro SA' SB' W' sw2 h' hT' hsub g'
    refine hK SA' SB' W' sw2 h' hT' (fun x hx => ?_) g'
    rcases List.mem_append.1 (hsub x hx) with hx | hx
    ·exact .inl hx
    ·simp at hx; exact .inr hx
 ·rw [if_neg k] at t4
  rw [decide_eq_false k, cond_false]
  refine talks_j3 (i := i + 1) (W := W) g2 hn t4 hW (by omega) (fun q => (h0 (by omega)).2) ?_
  intro SA' SB' W' sw2 h' hT' hsub g'
  exact hK SA' SB' W' sw2 h' hT' (fun x hx => .inl (hsub x hx)) g'
theorem talks_l1 {K1 : Hp → Prop} {K2 : Bool → Hp → Prop} {e0 : UdE} {Q0 : List UdE}
  (hs : Sat (L ++ [Hw.own 34 3 s1 (Q.flatMap utC), mch ma ca ba, mch mb_ cb bb, stackA ba ca (gA 0 c0A [] []), stackA bb cb (gB c0B [] [] [])]) h) (hn : 0 ≤ now ∧ now + 600 ≤ maxT)
  (hQ : ∀ e ∈ Q, (∀ h', Sat L h' → RdB h' e.s e.data) ∧ e.data.length ≤ 1099511627776) (hl : Q.length ≤ 2000000) (hf : Q = e0 :: Q0) (he0 : e0.ud = u1 ∧ e0.dst = 1)
  (hK : ∀ h', Ext none' h h' ∨ True → Sat L h' → K1 h') :
  N3_l1 now (some (bk ma)) (some (bk mb_)) s1 ((s1.n : Nat) : Int) ⟨none, 0, 0⟩ 0 h K1 K2 := by
 have sn := hs.elemN 0 rfl utC_w (by decide)
 unfold N3_l1
 have g0 := hs.addNil 34 3
 have g0 : Sat (L ++ [Hw.own 34 3 s1 (Q.flatMap utC), mch ma ca ba, mch mb_ cb bb, stackA ba ca (gA 0 c0A [] []), stackA bb cb (gB c0B [] [] []), Hw.own 34 3 ⟨none, 0, 0⟩ (([] : List UdE).flatMap utC)]) h := g0
 refine loopP_inv (fun (z : Sl × Int) hc => ∃ (i : Nat) (SA SB : StS) (W : List UdE), z.2 = i ∧ i ≤ Q.length ∧ TI now i SA SB (W.map UdE.ud) ∧ (∀ e ∈ W, e ∈ Q) ∧
  Sat (L ++ [Hw.own 34 3 s1 (Q.flatMap utC), mch ma ca ba, mch mb_ cb bb, stackA ba ca SA, stackA bb cb SB, Hw.own 34 3 z.1 (W.flatMap utC)]) hc) (fun z _ => Q.length - z.2.toNat) ?_
  ⟨0, _, _, [], rfl, Nat.zero_le _, .inl ⟨rfl, rfl, rfl, rfl⟩, by simp, g0⟩
 clear g0 hs
 rintro ⟨sw, z⟩ hc ⟨i, SA, SB, W, hz, hi, hT, hsub, g⟩
 simp only at hz g
 subst hz
 unfold N3_l1_B N3_l1_b
 dsimp only
 by_cases hlt : i < Q.length
 ·rw [show decide ((i : Int) < ((s1.n : Nat) : Int)) = true from decide_eq_true (by omega), cond_true]
  have hx : Q[i]? = some Q[i] := List.getElem?_eq_getElem hlt
  have hxm := List.getElem_mem hlt
  have h0 : i = 0 → Q[i].ud = u1 ∧ Int.tmod Q[i].dst 2 ≠ 0 := by
   intro q
   subst q
   have : Q[0] = e0 := by subst hf; rfl
   rw [this, he0.1, he0.2]
   exact ⟨rfl, by decide⟩
  obtain ⟨he, hel⟩ := hQ _ hxm
  generalize Q[i] = e at hx hxm h0 he hel
  have nx : IntKind.wrap .i64 ((i : Int) + 1) = ((i + 1 : Nat) : Int) := nat_succ64 (by omega)
  refine g.elem 0 rfl utC_w (by decide) hx rfl ?_
  intro r hr2 rd
  simp only [add_bk, Int.toNat_natCast]
  simp only [add_mk]
  refine xI_of (rd (k := 0) rfl) ?_
  refine xI_of (rd (k := 1) rfl) ?_
  refine xL_of (s := e.s) (rd (k := 2) rfl) ?_
  refine g.nw ?_
  intro z1 h1 hs _
  simp only [List.cons_append, List.nil_append] at hs
  repeat (first | (refine Sat.st hs 0 rfl (by simp) rfl ?_; intro _ hs; simp only [List.set_cons_zero, List.set_cons_succ] at hs) | (refine Sat.st hs 1 rfl (by simp) rfl ?_; intro _ hs; simp only [List.set_cons_zero, List.set_cons_succ] at hs) | (refine Sat.st hs 2 rfl (by simp) rfl ?_; intro _ hs; simp only [List.set_cons_zero, List.set_cons_succ] at hs) | (refine Sat.st hs 3 rfl (by simp) rfl ?_; intro _ hs; simp only [List.set_cons_zero, List.set_cons_succ] at hs) | (refine Sat.st hs 4 rfl (by simp) rfl ?_; intro _ hs; simp only [List.set_cons_zero, List.set_cons_succ] at hs) | (refine Sat.st hs 5 rfl (by simp) rfl ?_; intro _ hs; simp only [List.set_cons_zero, List.set_cons_succ] at hs) | (refine Sat.st hs 6 rfl (by simp) rfl ?_; intro _ hs; simp only [List.set_cons_zero, List.set_cons_succ] at hs) | (refine Sat.lI hs 0 rfl rfl ?_) | (refine Sat.lI hs 1 rfl rfl ?_) | (refine Sat.lI hs 2 rfl rfl ?_) | (refine Sat.lI hs 3 rfl rfl ?_) | (refine Sat.lI hs 4 rfl rfl ?_) | (refine Sat.lI hs 5 rfl rfl ?_) | (refine Sat.lI hs 6 rfl rfl ?_) | (refine Sat.lL hs 0 rfl rfl ?_) | (refine Sat.lL hs 1 rfl rfl ?_) | (refine Sat.lL hs 2 rfl rfl ?_) | (refine Sat.lL hs 3 rfl rfl ?_) | (refine Sat.lL hs 4 rfl rfl ?_) | (refine Sat.lL hs 5 rfl rfl ?_) | (refine Sat.lL hs 6 rfl rfl ?_) | (refine Sat.lP hs 0 rfl rfl ?_) | (refine Sat.lP hs 1 rfl rfl ?_) | (refine Sat.lP hs 2 rfl rfl ?_) | (refine Sat.lP hs 3 rfl rfl ?_) | (refine Sat.lP hs 4 rfl rfl ?_) | (refine Sat.lP hs 5 rfl rfl ?_) | (refine Sat.lP hs 6 rfl rfl ?_) | (refine Sat.lB hs 0 rfl rfl ?_) | (refine Sat.lB hs 1 rfl rfl ?_) | (refine Sat.lB hs 2 rfl rfl ?_) | (refine Sat.lB hs 3 rfl rfl ?_) | (refine Sat.lB hs 4 rfl rfl ?_) | (refine Sat.lB hs 5 rfl rfl ?_) | (refine Sat.lB hs 6 rfl rfl ?_) | (refine Sat.lS hs 0 rfl rfl ?_) | (refine Sat.lS hs 1 rfl rfl ?_) | (refine Sat.lS hs 2 rfl rfl ?_) | (refine Sat.lS hs 3 rfl rfl ?_) | (refine Sat.lS hs 4 rfl rfl ?_) | (refine Sat.lS hs 5 rfl rfl ?_) | (refine Sat.lS hs 6 rfl rfl ?_) | (refine Sat.lM hs 0 rfl rfl ?_) | (refine Sat.lM hs 1 rfl rfl ?_) | (refine Sat.lM hs 2 rfl rfl ?_) | (refine Sat.lM hs 3 rfl rfl ?_) | (refine Sat.lM hs 4 rfl rfl ?_) | (refine Sat.lM hs 5 rfl rfl ?_) | (refine Sat.lM hs 6 rfl rfl ?_) | (refine Sat.lA hs 0 rfl rfl ?_) | (refine Sat.lA hs 1 rfl rfl ?_) | (refine Sat.lA hs 2 rfl rfl ?_) | (refine Sat.lA hs 3 rfl rfl ?_) | (refine Sat.lA hs 4 rfl rfl ?_) | (refine Sat.lA hs 5 rfl rfl ?_) | (refine Sat.lA hs 6 rfl rfl ?_) | (simp only [nn_some', add_bk]))
  refine Sat.nw hs ?_
  intro z2 h2 hs2 _
  clear hs
  simp only [List.cons_append, List.nil_append] at hs2
  repeat (first | (refine Sat.st hs2 0 rfl (by simp) rfl ?_; intro _ hs2; simp only [List.set_cons_zero, List.set_cons_succ] at hs2) | (refine Sat.st hs2 1 rfl (by simp) rfl ?_; intro _ hs2; simp only [List.set_cons_zero, List.set_cons_succ] at hs2) | (refine Sat.st hs2 2 rfl (by simp) rfl ?_; intro _ hs2; simp only [List.set_cons_zero, List.set_cons_succ] at hs2) | (refine Sat.st hs2 3 rfl (by simp) rfl ?_; intro _ hs2; simp only [List.set_cons_zero, List.set_cons_succ] at hs2) | (refine Sat.st hs2 4 rfl (by simp) rfl ?_; intro _ hs2; simp only [List.set_cons_zero, List.set_cons_succ] at hs2) | (refine Sat.st hs2 5 rfl (by simp) rfl ?_; intro _ hs2; simp only [List.set_cons_zero, List.set_cons_succ] at hs2) | (refine Sat.st hs2 6 rfl (by simp) rfl ?_; intro _ hs2; simp only [List.set_cons_zero, List.set_cons_succ] at hs2) | (refine Sat.st hs2 7 rfl (by simp) rfl ?_; intro _ hs2; simp only [List.set_cons_zero, List.set_cons_succ] at hs2) | (refine Sat.lI hs2 0 rfl rfl ?_) | (refine Sat.lI hs2 1 rfl rfl ?_) | (refine Sat.lI hs2 2 rfl rfl ?_) | (refine Sat.lI hs2 3 rfl rfl ?_) | (refine Sat.lI hs2 4 rfl rfl ?_) | (refine Sat.lI hs2 5 rfl rfl ?_) | (refine Sat.lI hs2 6 rfl rfl ?_) | (refine Sat.lI hs2 7 rfl rfl ?_) | (refine Sat.lL hs2 0 rfl rfl ?_) | (refine Sat.lL hs2 1 rfl rfl ?_) | (refine Sat.lL hs2 2 rfl rfl ?_) | (refine Sat.lL hs2 3 rfl rfl ?_) | (refine Sat.lL hs2 4 rfl rfl ?_) | (refine Sat.lL hs2 5 rfl rfl ?_) | (refine Sat.lL hs2 6 rfl rfl ?_) | (refine Sat.lL hs2 7 rfl rfl ?_) | (refine Sat.lP hs2 0 rfl rfl ?_) | (refine Sat.lP hs2 1 rfl rfl ?_) | (refine Sat.lP hs2 2 rfl rfl ?_) | (refine Sat.lP hs2 3 rfl rfl ?_) | (refine Sat.lP hs2 4 rfl rfl ?_) | (refine Sat.lP hs2 5 rfl rfl ?_) | (refine Sat.lP hs2 6 rfl rfl ?_) | (refine Sat.lP hs2 7 rfl rfl ?_) | (refine Sat.lB hs2 0 rfl rfl ?_) | (refine Sat.lB hs2 1 rfl rfl ?_) | (refine Sat.lB hs2 2 rfl rfl ?_) | (refine Sat.lB hs2 3 rfl rfl ?_) | (refine Sat.lB hs2 4 rfl rfl ?_) | (refine Sat.lB hs2 5 rfl rfl ?_) | (refine Sat.lB hs2 6 rfl rfl ?_) | (refine Sat.lB hs2 7 rfl rfl ?_) | (refine Sat.lS hs2 0 rfl rfl ?_) | (refine Sat.lS hs2 1 rfl rfl ?_) | (refine Sat.lS hs2 2 rfl rfl ?_) | (refine Sat.lS hs2 3 rfl rfl ?_) | (refine Sat.lS hs2 4 rfl rfl ?_) | (refine Sat.lS hs2 5 rfl rfl ?_) | (refine Sat.lS hs2 6 rfl rfl ?_) | (refine Sat.lS hs2 7 rfl rfl ?_) | (refine Sat.lM hs2 0 rfl rfl ?_) | (refine Sat.lM hs2 1 rfl rfl ?_) | (refine Sat.lM hs2 2 rfl rfl ?_) | (refine Sat.lM hs2 3 rfl rfl ?_) | (refine Sat.lM hs2 4 rfl rfl ?_) | (refine Sat.lM hs2 5 rfl rfl ?_) | (refine Sat.lM hs2 6 rfl rfl ?_) | (refine Sat.lM hs2 7 rfl rfl ?_) | (refine Sat.lA hs2 0 rfl rfl ?_) | (refine Sat.lA hs2 1 rfl rfl ?_) | (refine Sat.lA hs2 2 rfl rfl ?_) | (refine Sat.lA hs2 3 rfl rfl ?_) | (refine Sat.lA hs2 4 rfl rfl ?_) | (refine Sat.lA hs2 5 rfl rfl ?_) | (refine Sat.lA hs2 6 rfl rfl ?_) | (refine Sat.lA hs2 7 rfl rfl ?_) | (simp only [nn_some', add_bk]))
  have esn : e.s.n = e.data.length := (he _ hs2.left).n
  have ga : Sat ((L ++ [Hw.own 34 3 s1 (Q.flatMap utC)]) ++ [row z1 34 (utC e), row z2 36 [.int .u32 167772161, .int .u32 167772162, .int .i64 e.src, .int .i64 7, e.s.v], mch ma ca ba, mch mb_ cb bb, stackA ba ca SA, stackA bb cb SB, Hw.own 34 3 sw (W.flatMap utC)]) _ := hs2.part [0, 6, 7, 1, 2, 3, 4, 5] (by decide) rfl
  have go : ∀ {hz : Hp} {mayb : Bool} {K0 K1 : Sl → Hp → Prop} {K2 : Bool → Hp → Prop}, Sat ((L ++ [Hw.own 34 3 s1 (Q.flatMap utC)]) ++ [row z1 34 (utC e), row z2 36 [.int .u32 167772161, .int .u32 167772162, .int .i64 e.src, .int .i64 7, e.s.v], mch ma ca ba, mch mb_ cb bb, stackA ba ca SA, stackA bb cb SB, Hw.own 34 3 sw (W.flatMap utC)]) hz → mayb = decide e.ud.may → (∀ s h', ((∃ (i' : Nat) (SA SB : StS) (W : List UdE), ((i + 1 : Nat) : Int) = i' ∧ i' ≤ Q.length ∧ TI now i' SA SB (W.map UdE.ud) ∧ (∀ e ∈ W, e ∈ Q) ∧
    Sat (L ++ [Hw.own 34 3 s1 (Q.flatMap utC), mch ma ca ba, mch mb_ cb bb, stackA ba ca SA, stackA bb cb SB, Hw.own 34 3 s (W.flatMap utC)]) h') ∧ Q.length - ((i + 1 : Nat) : Int).toNat < Q.length - (i : Int).toNat) → K0 s h' ∧ K1 s h') →
    N3_j2 now (some (bk ma)) (some (bk mb_)) sw (some (bk z1)) (some (bk z2)) mayb s1 ((s1.n : Nat) : Int) (i : Int) hz K0 K1 K2 := by
   intro hz mayb K0 K1 K2 ga hm hk
   refine talks_j2 ga hn hT (fun x hx h' g' => (hQ x (hsub x hx)).1 h' g'.left) (fun h' g' => he h' g'.left) hel h0 (by omega) hm ?_
   intro SA' SB' W' sw' h' hT' hsub' g'
   refine hk sw' h' ⟨⟨i + 1, SA', SB', W', rfl, hlt, hT', fun x hx => ?_, Sat.asc g'⟩, by omega⟩
   rcases hsub' x hx with q | rfl
   ·exact hsub x q
   ·exact hxm
  rw [nx]
  by_cases k1 : 0 ≤ e.src
  ·rw [show decide (e.src ≥ 0) = true from decide_eq_true k1, cond_true]
   repeat (first | (refine Sat.st hs2 0 rfl (by simp) rfl ?_; intro _ hs2; simp only [List.set_cons_zero, List.set_cons_succ] at hs2) | (refine Sat.st hs2 1 rfl (by simp) rfl ?_; intro _ hs2; simp only [List.set_cons_zero, List.set_cons_succ] at hs2) | (refine Sat.st hs2 2 rfl (by simp) rfl ?_; intro _ hs2; simp only [List.set_cons_zero, List.set_cons_succ] at hs2) | (refine Sat.st hs2 3 rfl (by simp) rfl ?_; intro _ hs2; simp only [List.set_cons_zero, List.set_cons_succ] at hs2) | (refine Sat.st hs2 4 rfl (by simp) rfl ?_; intro _ hs2; simp only [List.set_cons_zero, List.set_cons_succ] at hs2) | (refine Sat.st hs2 5 rfl (by simp) rfl ?_; intro _ hs2; simp only [List.set_cons_zero, List.set_cons_succ] at hs2) | (refine Sat.st hs2 6 rfl (by simp) rfl ?_; intro _ hs2; simp only [List.set_cons_zero, List.set_cons_succ] at hs2) | (refine Sat.st hs2 7 rfl (by simp) rfl ?_; intro _ hs2; simp only [List.set_cons_zero, List.set_cons_succ] at hs2) | (refine Sat.lI hs2 0 rfl rfl ?_) | (refine Sat.lI hs2 1 rfl rfl ?_) | (refine Sat.lI hs2 2 rfl rfl ?_) | (refine Sat.lI hs2 3 rfl rfl ?_) | (refine Sat.lI hs2 4 rfl rfl ?_) | (refine Sat.lI hs2 5 rfl rfl ?_) | (refine Sat.lI hs2 6 rfl rfl ?_) | (refine Sat.lI hs2 7 rfl rfl ?_) | (refine Sat.lL hs2 0 rfl rfl ?_) | (refine Sat.lL hs2 1 rfl rfl ?_) | (refine Sat.lL hs2 2 rfl rfl ?_) | (refine Sat.lL hs2 3 rfl rfl ?_) | (refine Sat.lL hs2 4 rfl rfl ?_) | (refine Sat.lL hs2 5 rfl rfl ?_) | (refine Sat.lL hs2 6 rfl rfl ?_) | (refine Sat.lL hs2 7 rfl rfl ?_) | (refine Sat.lP hs2 0 rfl rfl ?_) | (refine Sat.lP hs2 1 rfl rfl ?_) | (refine Sat.lP hs2 2 rfl rfl ?_) | (refine Sat.lP hs2 3 rfl rfl ?_) | (refine Sat.lP hs2 4 rfl rfl ?_) | (refine Sat.lP hs2 5 rfl rfl ?_) | (refine Sat.lP hs2 6 rfl rfl ?_) | (refine Sat.lP hs2 7 rfl rfl ?_) | (refine Sat.lB hs2 0 rfl rfl ?_) | (refine Sat.lB hs2 1 rfl rfl ?_) | (refine Sat.lB hs2 2 rfl rfl ?_) | (refine Sat.lB hs2 3 rfl rfl ?_) | (refine Sat.lB hs2 4 rfl rfl ?_) | (refine Sat.lB hs2 5 rfl rfl ?_) | (refine Sat.lB hs2 6 rfl rfl ?_) | (refine Sat.lB hs2 7 rfl rfl ?_) | (refine Sat.lS hs2 0 rfl rfl ?_) | (refine Sat.lS hs2 1 rfl rfl ?_) | (refine Sat.lS hs2 2 rfl rfl ?_) | (refine Sat.lS hs2 3 rfl rfl ?_) | (refine Sat.lS hs2 4 rfl rfl ?_) | (refine Sat.lS hs2 5 rfl rfl ?_) | (refine Sat.lS hs2 6 rfl rfl ?_) | (refine Sat.lS hs2 7 rfl rfl ?_) | (refine Sat.lM hs2 0 rfl rfl ?_) | (refine Sat.lM hs2 1 rfl rfl ?_) | (refine Sat.lM hs2 2 rfl rfl ?_) | (refine Sat.lM hs2 3 rfl rfl ?_) | (refine Sat.lM hs2 4 rfl rfl ?_) | (refine Sat.lM hs2 5 rfl rfl ?_) | (refine Sat.lM hs2 6 rfl rfl ?_) | (refine Sat.lM hs2 7 rfl rfl ?_) | (refine Sat.lA hs2 0 rfl rfl ?_) | (refine Sat.lA hs2 1 rfl rfl ?_) | (refine Sat.lA hs2 2 rfl rfl ?_) | (refine Sat.lA hs2 3 rfl rfl ?_) | (refine Sat.lA hs2 4 rfl rfl ?_) | (refine Sat.lA hs2 5 rfl rfl ?_) | (refine Sat.lA hs2 6 rfl rfl ?_) | (refine Sat.lA hs2 7 rfl rfl ?_) | (simp only [nn_some', add_bk]))
   by_cases k2 : e.src ≤ 65535
   ·rw [show decide (e.src ≤ 65535) = true from decide_eq_true k2, cond_true]
    refine hs2.lL 6 (k := 2) rfl rfl ?_
    refine go ga ?_ (fun s h' q => ⟨q, q⟩)
    refine decide_eq_decide.2 ?_
    unfold Ud.may
    show ((e.s.n : Nat) : Int) ≤ 1472 ↔ (0 ≤ e.src ∧ e.src ≤ 65535) ∧ e.data.length ≤ 1472
    omega
   ·rw [show decide (e.src ≤ 65535) = false from decide_eq_false k2, cond_false]
    refine go ga ?_ (fun s h' q => ⟨q, q⟩)
    exact (decide_eq_false fun q => k2 q.1.2).symm
  ·rw [show decide (e.src ≥ 0) = false from decide_eq_false (by omega), cond_false]
   refine go ga ?_ (fun s h' q => ⟨q, q⟩)
   exact (decide_eq_false fun q => k1 q.1.1).symm
 ·rw [show decide ((i : Int) < ((s1.n : Nat) : Int)) = false from decide_eq_false (by omega), cond_false]
  exact hK _ (.inr trivial) g.left
end
end Go.Proofs.YtbbnpmikjdgdpaaGreat

/-
 A law's row out of a walk: it returns true, only new blocks; what the row lists as laid, and the world's shape, are the walk's to use.
-/
set_option linter.unusedSimpArgs false
set_option linter.unusedVariables false
namespace Go.Hw
open Go
open Go.ChangeShapes Go.WideShapes Go.ChangeAt Go.RowKit
section
variable {H : Type} {enc : TypeId × Value → H}
end
end Go.Hw

/-
 Arguments opened: numbers, byte slices, arrays of bytes, strings; what they read as on the abstract heap.
-/
set_option linter.unusedSimpArgs false
set_option linter.unusedVariables false
namespace Go.Hw
open Go
open Go.ChangeShapes Go.WideShapes Go.ChangeAt Go.RowKit
section
variable {H : Type} {enc : TypeId × Value → H} {P : Program}
theorem int_open {r : Reach} {W : World} {b0 : Nat} {sp : Nat → Bool} {held : Bool} {t : TypeId} {k : IntKind} {v : Value} {d : DataW H} {ps : List MemPlace} (ht : P.underlying t = some (.int k)) (hval : Value.okWide P W r b0 t v) (hd : DataW.Trod enc P W 0 sp held t v d ps) :
  ∃ n, v = .int k n ∧ (Lit.int k n).wf = true := by
 obtain ⟨n, h1, _, _, h2⟩ := open_int ht hval hd
 exact ⟨n, h1, h2⟩
end
end Go.Hw

/-
 A law's row with a condition (the second form), out of a walk: it returns true, only new blocks.
-/
set_option linter.unusedSimpArgs false
set_option linter.unusedVariables false
namespace Go.Hw
open Go
open Go.ChangeShapes Go.WideShapes Go.ChangeAt Go.RowKit
section
variable {H : Type} {enc : TypeId × Value → H}
theorem law_lift_row {C : Checked} {os : Os} {f : FuncId} {fn : Func} {s : ChangeSpec} {s' : OpenSpec} {F : Stop.Interp} {laid : List (String × DataW Unit)} {tb : TypeId}
  (own : ownKnob C.prog.godebug = none) (started : os.Started) (noInit : C.prog.inits.idxOf? f = none) (hfn : C.prog.funcs[f]? = some fn)
  (witness : ∃ (w : World) (tape : Tape) (i : Input), w.os = os ∧ (w.forCall tape i).Shaped C.prog ∧ i.vars = [] ∧ Input.okWide C.prog (w.forCall tape i) .any w.heap.size f i ∧
   s'.preRow enc C.prog fn [] false laid (w.forCall tape i).memory i.args ∧ ({} : Assume).holds C.prog (lone (Frame.enter C.prog f i.args .normal) [] (w.forCall tape i)))
  (hl : laidOutB C.prog = true) (hr : ∀ t ∈ fn.params.toList, C.prog.readableRec t = true ∧ t < C.prog.types.size) (hrt : fn.resultTypes = #[tb]) (hb : C.prog.underlying tb = some .bool)
  (hvs : s.vars = []) (hvs' : s'.vars = []) (hat : s'.at F = s) (hbare : s'.bare.plain.varTypes C.prog = [])
  (hspec : ∀ ds : List (DataW H), ds.length = fn.params.size → (s.fn H ds).results = [.lit (.bool true)] ∧ (s.fn H ds).args = ds ∧ (s.fn H ds).vars = [])
  (walk : ∀ (W : World) (base : Nat) (args : Array Value) (ds : List (DataW H)) (p : List MemPlace),
   (∀ (j : Nat) t v, fn.params[j]? = some t → args[j]? = some v → Value.okWide C.prog W .any base t v) →
   DataW.TrodAll enc C.prog W 0 (fun _ => true) true fn.params.toList args.toList ds p →
   (DataW.weightsEach C.prog fn.params.toList ds).all (· ≤ reachBytes) = true →
   (∀ k, s'.cond = some k → k H ds = true) →
   laidMetH C.prog laid W → W.ShapedOpen C.prog →
   HCalls C.prog f args (hpOf W) fun v h' => v = .bool true ∧ Ext none' (hpOf W) h') :
  ReturnsInHanded {} C os f .any (s'.preRow enc C.prog fn [] false laid) ((s'.at F).post enc C.prog fn false true false false) := by
 refine returnsInHanded_of_row own started noInit hfn witness ?_
 intro W base args ds gs before hval hW _ hk hwt hL hsh _
 have hW' := hW
 obtain ⟨p, q, hA0, hV, hpq, hfz, hnd⟩ := hW
 have hA : DataW.TrodAll enc C.prog W 0 (fun _ => true) true fn.params.toList args.toList ds p := hA0
 rw [hvs'] at hV
 obtain ⟨rfl, rfl⟩ := trodVars_none hV
 rw [hbare] at hwt
 simp only [List.append_nil] at hwt hk
 have hlen : ds.length = fn.params.size := by
  have : ∀ {ts : List TypeId} {vs : List Value} {ds : List (DataW H)} {p : List MemPlace}, DataW.TrodAll enc C.prog W 0 (fun _ => true) true ts vs ds p → ds.length = ts.length := by
   intro ts
   induction ts with
   | nil => intro vs ds p h; obtain ⟨_, rfl, _⟩ := trodAll_nil h; rfl
   | cons t ts ih => intro vs ds p h; obtain ⟨_, _, _, _, _, _, _, rfl, _, _, h2⟩ := trodAll_cons h; simp [ih h2]
  have := this hA
  rw [this]; simp
 have hc2 := walk W base args ds p hval hA hwt hk hL hsh
 refine (hc2 _ rfl).mono ?_
 rintro e W' ⟨v, rfl, ⟨rfl, he⟩, hp⟩
 obtain ⟨s1, s2, s3⟩ := hspec ds hlen
 rw [hvs'] at hW'
 exact ⟨_, rfl, by rw [hat]; exact law_post hl hr hrt hb hW' hvs s1 s2 s3 hp he⟩
end
end Go.Hw

/-
 A plain law's row (nothing laid) out of a walk.
-/
set_option linter.unusedSimpArgs false
set_option linter.unusedVariables false
namespace Go.Hw
open Go
open Go.ChangeShapes Go.WideShapes Go.ChangeAt Go.RowKit
section
variable {H : Type} {enc : TypeId × Value → H}
end
end Go.Hw

/-
 The frame of the laws of a seat in which nothing is laid.
-/
set_option linter.unusedVariables false
namespace Go.Proofs.YtbbnpmikjdgdpaaGreat
open Go Go.Hw
open Go.ChangeShapes Go.WideShapes Go.ChangeAt Go.RowKit
theorem own_knob : ownKnob Tryz.prog.godebug = none := by kernel_rfl
theorem laid_out : laidOutB Tryz.prog = true := by kernel_rfl
noncomputable def laidWorld (os : Os) : World := World.holding Tryz.prog os ⟨#[], #[], []⟩
abbrev laidL : List (String × DataW Unit) := []
theorem laid_met (os : Os) (args : Array Value) : laidMetH Tryz.prog laidL ((laidWorld os).forCall (fun _ _ => 0) ⟨#[], args, []⟩).memory := by
 have h : laidMet Tryz.prog laidL ((laidWorld os).forCall (fun _ _ => 0) ⟨#[], args, []⟩).memory := laidMet_of_run' 8 (by kernel_rfl) (by kernel_rfl)
 exact h
end Go.Proofs.YtbbnpmikjdgdpaaGreat

/-
 What the second form's bound gives.
-/
set_option linter.unusedSimpArgs false
set_option linter.unusedVariables false
namespace Go.Proofs.YtbbnpmikjdgdpaaGreat
open Go Go.Hw
theorem bulk_one {H : Type} (d : DataW H) : 1 ≤ Rows.uptoBulk d := by
 cases d with
 | lit l => cases l <;> simp [Rows.uptoBulk]
 | _ => simp [Rows.uptoBulk]
theorem bulk_in {H : Type} {d : DataW H} {l : List (DataW H)} (h : d ∈ l) : Rows.uptoBulk d ≤ Rows.uptoBulkAll l := by
 induction l with
 | nil => cases h
 | cons x r ih =>
  simp only [Rows.uptoBulkAll]
  rcases List.mem_cons.1 h with e | e
  ·subst e; omega
  ·have := ih e; omega
theorem bulk_len {H : Type} (l : List (DataW H)) : l.length ≤ Rows.uptoBulkAll l := by
 induction l with
 | nil => simp [Rows.uptoBulkAll]
 | cons x r ih => have := bulk_one x; simp only [Rows.uptoBulkAll, List.length_cons]; omega
theorem bulk_slice {H : Type} (e s : List (DataW H)) : e.length ≤ Rows.uptoBulk (.slice e s) := by
 have := bulk_len e
 simp only [Rows.uptoBulk]; omega
theorem bulk_str {H : Type} (b : List UInt8) : b.length ≤ Rows.uptoBulk (DataW.lit (H := H) (.string b)) := by simp [Rows.uptoBulk]
theorem bulk_all {H : Type} {l : List (DataW H)} (hk : Rows.uptoSmall H l = true) {d : DataW H} (hd : d ∈ l) : Rows.uptoBulk d ≤ 1048576 := Nat.le_trans (bulk_in hd) (of_decide_eq_true hk)
end Go.Proofs.YtbbnpmikjdgdpaaGreat

/-
 Arguments opened whatever their type: numbers, strings, slices of elements of several cells, structs and arrays flat; sizes by a measure.
-/
set_option linter.unusedSimpArgs false
set_option linter.unusedVariables false
namespace Go.Hw
open Go
open Go.ChangeShapes Go.WideShapes Go.ChangeAt Go.RowKit
inductive Sh where
 | int (k : IntKind)
 | bool
 | str
 | row (f : List Sh)
def All2 (R : Sh → Value → Prop) : List Sh → List Value → Prop
 | [], [] => True
 | t :: ts, v :: vs => R t v ∧ All2 R ts vs
 | _, _ => False
def CellOk (h : Hp) (B : Nat) : Nat → Sh → Value → Prop
 | 0, _, _ => False
 | _ + 1, .int k, v => ∃ n, v = .int k n ∧ (Lit.int k n).wf = true
 | _ + 1, .bool, v => ∃ b, v = .bool b
 | _ + 1, .str, v => ∃ s : ByteArray, v = .string s ∧ s.data.toList.length ≤ B
 | n + 1, .row f, v => ∃ (s : Sl) (es : List (List Value)), v = s.v ∧ s.n ≤ s.c ∧ s.n = es.length ∧ es.length ≤ B ∧
   ∀ (i : Nat) (cs : List Value), es[i]? = some cs → (∃ a, s.p = some a ∧ ∀ (j : Nat) (v : Value), cs[j]? = some v → cell h (a.add (i * f.length + j)) = some v) ∧ All2 (CellOk h B n) f cs
theorem All2.len {R : Sh → Value → Prop} : ∀ {ts : List Sh} {vs : List Value}, All2 R ts vs → ts.length = vs.length
 | [], [], _ => rfl
 | _ :: ts, _ :: vs, h => by simp [All2.len (ts := ts) (vs := vs) h.2]
 | [], _ :: _, h => h.elim
 | _ :: _, [], h => h.elim
theorem All2.mono {R R' : Sh → Value → Prop} (hR : ∀ t v, R t v → R' t v) : ∀ {ts : List Sh} {vs : List Value}, All2 R ts vs → All2 R' ts vs
 | [], [], _ => trivial
 | _ :: ts, _ :: vs, h => ⟨hR _ _ h.1, All2.mono hR (ts := ts) (vs := vs) h.2⟩
 | [], _ :: _, h => h.elim
 | _ :: _, [], h => h.elim
theorem All2.app {R : Sh → Value → Prop} : ∀ {ts ts' : List Sh} {vs vs' : List Value}, All2 R ts vs → All2 R ts' vs' → All2 R (ts ++ ts') (vs ++ vs')
 | [], _, [], _, _, h' => h'
 | _ :: ts, _, _ :: vs, _, h, h' => ⟨h.1, All2.app (ts := ts) (vs := vs) h.2 h'⟩
 | [], _, _ :: _, _, h, _ => h.elim
 | _ :: _, _, [], _, h, _ => h.elim
theorem CellOk.up {h : Hp} {B : Nat} : ∀ {n : Nat} {t : Sh} {v : Value}, CellOk h B n t v → CellOk h B (n + 1) t v := by
 intro n
 induction n with
 | zero => intro t v h; exact h.elim
 | succ n ih =>
  intro t v hc
  cases t with
  | int k => exact hc
  | bool => exact hc
  | str => exact hc
  | row f =>
   obtain ⟨s, es, h1, h2, h3, h4, h5⟩ := hc
   exact ⟨s, es, h1, h2, h3, h4, fun i cs hi => ⟨(h5 i cs hi).1, (h5 i cs hi).2.mono fun t v => ih⟩⟩
def shFields (P : Program) (sh : TypeId → Option (List Sh)) : List Field → Nat → Option (List Sh)
 | [], _ => some []
 | f :: fs, off => if f.offset = off then match sh f.type, shFields P sh fs (off + P.cellsOf f.type) with
  | some a, some b => if a.length = P.cellsOf f.type then some (a ++ b) else none
  | _, _ => none
  else none
def shOf (P : Program) : Nat → TypeId → Option (List Sh)
 | 0, _ => none
 | n + 1, t => match P.underlying t with
  | some (.int k) => some [.int k]
  | some .bool => some [.bool]
  | some .string => some [.str]
  | some (.slice e) => match shOf P n e with
   | some f => if f.length = P.cellsOf e then some [.row f] else none
   | none => none
  | some (.struct fs) => match shFields P (shOf P n) fs.toList 0 with
   | some a => if a.length = P.cellsOf t then some a else none
   | none => none
  | some (.array m e) => match shOf P n e with
   | some f => if f.length = P.cellsOf e ∧ P.cellsOf t = m * P.cellsOf e then some ((List.replicate m f).flatten) else none
   | none => none
  | _ => none
section
variable {H : Type} {enc : TypeId × Value → H} {P : Program}
structure Meas (bulk : DataW H → Nat) : Prop where
 sl : ∀ (es rest : List (DataW H)), es.length ≤ bulk (.slice es rest) ∧ ∀ e ∈ es, bulk e ≤ bulk (.slice es rest)
 ag : ∀ (es : List (DataW H)), ∀ e ∈ es, bulk e ≤ bulk (.agg es)
 st : ∀ (l : List UInt8), l.length ≤ bulk (.lit (.string l))
theorem fields_ok {R : Sh → Value → Prop} {sh : TypeId → Option (List Sh)} : ∀ (fs : List Field) (off : Nat) (ts : List Sh) (cs : List Value), shFields P sh fs off = some ts → cs.length = off + ts.length →
  (∀ f ∈ fs, ∀ a, sh f.type = some a → All2 R a ((cs.drop f.offset).take (P.cellsOf f.type))) → All2 R ts (cs.drop off) := by
 intro fs
 induction fs with
 | nil =>
  intro off ts cs h hl _
  simp only [shFields, Option.some.injEq] at h
  subst h
  rw [List.drop_of_length_le (by simp at hl; omega)]; trivial
 | cons f fs ih =>
  intro off ts cs h hl hf
  simp only [shFields] at h
  split at h
  ·rename_i ho
   subst ho
   split at h
   ·rename_i a b ha hb
    split at h
    ·rename_i hal
     cases h
     rw [List.length_append] at hl
     have h1 := hf f List.mem_cons_self a ha
     have h2 := ih (f.offset + P.cellsOf f.type) b cs hb (by omega) fun g hg => hf g (List.mem_cons_of_mem _ hg)
     have e : cs.drop f.offset = (cs.drop f.offset).take (P.cellsOf f.type) ++ cs.drop (f.offset + P.cellsOf f.type) := by
      conv => lhs; rw [← List.take_append_drop (P.cellsOf f.type) (cs.drop f.offset), List.drop_drop]
     rw [e]
     exact h1.app h2
    ·cases h
   ·cases h
  ·cases h
theorem array_ok {R : Sh → Value → Prop} {f : List Sh} (hn : 0 ≤ f.length) : ∀ (m : Nat) (cs : List Value), cs.length = m * f.length → (∀ i, i < m → All2 R f ((cs.drop (i * f.length)).take f.length)) → All2 R (List.replicate m f).flatten cs := by
 intro m
 induction m with
 | zero => intro cs hl _; rw [Nat.zero_mul] at hl; rw [List.length_eq_zero_iff.1 hl]; exact trivial
 | succ m ih =>
  intro cs hl h
  rw [Nat.add_mul, Nat.one_mul] at hl
  have h0 := h 0 (by omega)
  rw [Nat.zero_mul, List.drop_zero] at h0
  have h1 := ih (cs.drop f.length) (by rw [List.length_drop]; omega) fun i hi => by
   have := h (i + 1) (by omega)
   rw [Nat.add_mul, Nat.one_mul, Nat.add_comm, ← List.drop_drop] at this
   exact this
  rw [List.replicate_succ, List.flatten_cons, ← List.take_append_drop f.length cs]
  exact h0.app h1
theorem trod_sh {bulk : DataW H → Nat} (hb : Meas bulk) {W : World} {sp : Nat → Bool} {held : Bool} {B : Nat} : ∀ (n fuel : Nat) (t : TypeId) (cs : List Value) (x : DataW H × List MemPlace) (ts : List Sh), shOf P n t = some ts →
  DataW.trod enc P W 0 sp held fuel t cs = some x → bulk x.1 ≤ B → All2 (CellOk (hpOf W) B n) ts cs := by
 intro n
 induction n with
 | zero => intro fuel t cs x ts h; simp [shOf] at h
 | succ n ih =>
  intro fuel t cs x ts h hf hB
  unfold shOf at h
  split at h
  ·rename_i k hu
   cases h
   obtain ⟨m, rfl, rfl, hw⟩ := DataW.trod_int hu hf
   exact ⟨⟨m, rfl, hw⟩, trivial⟩
  ·rename_i hu
   cases h
   obtain ⟨b, rfl, _⟩ := DataW.trod_bool hu hf
   exact ⟨⟨b, rfl⟩, trivial⟩
  ·rename_i hu
   cases h
   obtain ⟨s, rfl, rfl, _⟩ := DataW.trod_string hu hf
   exact ⟨⟨s, rfl, Nat.le_trans (hb.st _) hB⟩, trivial⟩
  ·rename_i e hu
   split at h
   ·rename_i f hsf
    split at h
    ·rename_i hfl
     cases h
     rcases DataW.trod_slice hu hf with ⟨rfl, rfl⟩ | ⟨a, len, cap, elems, rest, m, _, rfl, hx, _, hlc, _, hlen, hel, _, _⟩
     ·exact ⟨⟨⟨none, 0, 0⟩, [], rfl, Nat.le_refl _, rfl, Nat.zero_le _, by intro i cs hi; simp at hi⟩, trivial⟩
     ·have hxd : x.1 = .slice (elems.map (·.1)) (rest.map (·.1)) := congrArg Prod.fst hx
      rw [hxd] at hB
      obtain ⟨m1, m2⟩ := hb.sl (elems.map (·.1)) (rest.map (·.1))
      rw [List.length_map] at m1
      have each : ∀ i ∈ List.range len, ∃ cs' : List Value, (∀ (j : Nat) (v : Value), cs'[j]? = some v → cell (hpOf W) (a.add (i * f.length + j)) = some v) ∧ All2 (CellOk (hpOf W) B n) f cs' := by
       intro i hi
       have hi := List.mem_range.1 hi
       have h2 := hel i hi
       have hil : i < elems.length := by omega
       rw [List.getElem?_eq_getElem hil] at h2
       obtain ⟨cs', h3, h4⟩ := Option.bind_eq_some_iff.1 h2
       refine ⟨cs', ?_, ih m e cs' elems[i] f hsf h4 (Nat.le_trans (m2 _ (List.mem_map.2 ⟨_, List.getElem_mem hil, rfl⟩)) hB)⟩
       intro j v hj
       obtain ⟨_, h5, h6⟩ := World.cells?_some h3
       have hjl := (List.getElem?_eq_some_iff.1 hj).1
       have := h6 j (by omega)
       rw [add_add, ← hfl] at this
       rw [cell_hp, this, hj]
      obtain ⟨css, hcl, hcs⟩ := pick_all (fun (i : Nat) (cs' : List Value) => (∀ (j : Nat) (v : Value), cs'[j]? = some v → cell (hpOf W) (a.add (i * f.length + j)) = some v) ∧ All2 (CellOk (hpOf W) B n) f cs') each
      simp only [List.length_range] at hcl
      refine ⟨⟨⟨some a, len, cap⟩, css, rfl, hlc, hcl.symm, by omega, fun i cs' hi => ?_⟩, trivial⟩
      have hil : i < len := by rw [← hcl]; exact (List.getElem?_eq_some_iff.1 hi).1
      obtain ⟨cs'', q1, q2⟩ := hcs i i (by simp [hil])
      rw [hi] at q1
      cases q1
      exact ⟨⟨a, rfl, q2.1⟩, q2.2⟩
    ·cases h
   ·cases h
  ·rename_i fs hu
   split at h
   ·rename_i a ha
    split at h
    ·rename_i hal
     cases h
     obtain ⟨xs, m, _, hxe, hl, hxl, hx⟩ := DataW.trod_struct hu hf
     have := fields_ok (R := CellOk (hpOf W) B (n + 1)) fs.toList 0 ts cs ha (by omega) (by
      intro f hfm a' ha'
      obtain ⟨i, hi, hfi⟩ := List.getElem_of_mem hfm
      have hfi' : fs[i]? = some f := by
       rw [← Array.getElem?_toList, List.getElem?_eq_getElem hi, hfi]
      have h3 := hx i f hfi'
      have hxi : i < xs.length := by rw [hxl]; simpa using hi
      rw [List.getElem?_eq_getElem hxi] at h3
      refine (ih m f.type _ xs[i] a' ha' h3 (Nat.le_trans ?_ hB)).mono fun t v => CellOk.up
      rw [hxe]
      exact hb.ag _ _ (List.mem_map.2 ⟨_, List.getElem_mem hxi, rfl⟩))
     rw [List.drop_zero] at this
     exact this
    ·cases h
   ·cases h
  ·rename_i m e hu
   split at h
   ·rename_i f hsf
    split at h
    ·rename_i hc
     obtain ⟨hfl, hct⟩ := hc
     cases h
     obtain ⟨xs, q, _, hxe, hl, hxl, hel⟩ := DataW.trod_array hu hf
     rw [hct, ← hfl] at hl
     refine array_ok (Nat.zero_le _) m cs hl fun i hi => ?_
     have h3 := hel i hi
     have hxi : i < xs.length := by omega
     rw [List.getElem?_eq_getElem hxi, ← hfl] at h3
     refine (ih q e _ xs[i] f hsf h3 (Nat.le_trans ?_ hB)).mono fun t v => CellOk.up
     rw [hxe]
     exact hb.ag _ _ (List.mem_map.2 ⟨_, List.getElem_mem hxi, rfl⟩)
    ·cases h
   ·cases h
  ·cases h
end
theorem all2_cons {R : Sh → Value → Prop} {t : Sh} {ts : List Sh} {vs : List Value} (h : All2 R (t :: ts) vs) : ∃ v r, vs = v :: r ∧ R t v ∧ All2 R ts r := by
 cases vs with
 | nil => exact h.elim
 | cons v r => exact ⟨v, r, rfl, h.1, h.2⟩
theorem all2_nil {R : Sh → Value → Prop} {vs : List Value} (h : All2 R [] vs) : vs = [] := by
 cases vs with
 | nil => rfl
 | cons v r => exact h.elim
theorem ok_int {h : Hp} {B n : Nat} {k : IntKind} {v : Value} (hc : CellOk h B (n + 1) (.int k) v) : ∃ a, v = .int k a ∧ (Lit.int k a).wf = true := hc
theorem RdE.ofRow {α : Type} {h : Hp} {B n : Nat} {f : List Sh} {v : Value} {g : α → List Value} {p : α → Prop} (hc : CellOk h B (n + 1) (.row f) v) (hg : ∀ cs, All2 (CellOk h B n) f cs → ∃ x, cs = g x ∧ p x) :
  ∃ (s : Sl) (Q : List α), v = s.v ∧ RdE h s g Q ∧ s.n ≤ s.c ∧ Q.length ≤ B ∧ ∀ x ∈ Q, p x := by
 obtain ⟨s, es, h1, h2, h3, h4, h5⟩ := hc
 have each : ∀ cs ∈ es, ∃ x, cs = g x ∧ p x := by
  intro cs hm
  obtain ⟨i, hi, rfl⟩ := List.getElem_of_mem hm
  exact hg _ (h5 i _ (List.getElem?_eq_getElem hi)).2
 obtain ⟨Q, hQl, hQ⟩ := pick_all (fun (cs : List Value) (x : α) => cs = g x ∧ p x) each
 have hes : es = Q.map g := by
  apply List.ext_getElem?
  intro i
  cases he : es[i]? with
  | none =>
   have := List.getElem?_eq_none_iff.1 he
   rw [List.getElem?_map, List.getElem?_eq_none_iff.2 (by omega)]; rfl
  | some cs =>
   obtain ⟨x, q1, q2⟩ := hQ i cs he
   rw [List.getElem?_map, q1, q2.1]; rfl
 refine ⟨s, Q, h1, ⟨by omega, ?_⟩, h2, by omega, ?_⟩
 ·intro k v hk
  -- in which element the cell lies
  have key : ∀ (Q : List α) (off : Nat), (∀ (i : Nat) (x : α), Q[i]? = some x → (g x).length = f.length ∧ (∃ a, s.p = some a ∧ ∀ (j : Nat) (v : Value), (g x)[j]? = some v → cell h (a.add ((off + i) * f.length + j)) = some v)) →
    ∀ (k : Nat) (v : Value), (Q.flatMap g)[k]? = some v → ∃ a, s.p = some a ∧ cell h (a.add (off * f.length + k)) = some v := by
   intro Q
   induction Q with
   | nil => intro off _ k v hk; simp at hk
   | cons x Q ih =>
    intro off hq k v hk
    obtain ⟨hl, a, ha, hc⟩ := hq 0 x rfl
    rw [List.flatMap_cons] at hk
    by_cases hkl : k < (g x).length
    ·rw [List.getElem?_append_left hkl] at hk
     exact ⟨a, ha, by have := hc k v hk; rwa [Nat.add_zero] at this⟩
    ·rw [List.getElem?_append_right (by omega)] at hk
     obtain ⟨a', ha', hc'⟩ := ih (off + 1) (fun i y hy => by
      obtain ⟨q1, a2, q2, q3⟩ := hq (i + 1) y (by simpa using hy)
      exact ⟨q1, a2, q2, fun j v hj => by rw [show off + 1 + i = off + (i + 1) by omega]; exact q3 j v hj⟩) _ v hk
     refine ⟨a', ha', ?_⟩
     rw [show off * f.length + k = (off + 1) * f.length + (k - (g x).length) by rw [Nat.add_mul]; omega]
     exact hc'
  have := key Q 0 (fun i x hx => by
   have he : es[i]? = some (g x) := by rw [hes, List.getElem?_map, hx]; rfl
   obtain ⟨⟨a, q1, q2⟩, q3⟩ := h5 i (g x) he
   exact ⟨q3.len.symm, a, q1, fun j v hj => by rw [Nat.zero_add]; exact q2 j v hj⟩) k v hk
  rw [Nat.zero_mul, Nat.zero_add] at this
  exact this
 ·intro x hx
  obtain ⟨i, hi, rfl⟩ := List.getElem_of_mem hx
  have hil : i < es.length := by omega
  obtain ⟨y, q1, q2⟩ := hQ i es[i] (List.getElem?_eq_getElem hil)
  rw [List.getElem?_eq_getElem hi] at q1
  cases q1
  exact q2.2
theorem u8_of {n : Int} (hw : (Lit.int .u8 n).wf = true) : ∃ b : UInt8, Value.int .u8 n = .int .u8 b.toNat := by
 simp [Lit.wf, IntKind.min, IntKind.max, IntKind.signed, IntKind.bits] at hw
 exact ⟨UInt8.ofNat n.toNat, by rw [putd_u8 (by omega) (by omega)]⟩
theorem RdB.ofRow {h : Hp} {B n : Nat} {v : Value} (hc : CellOk h B (n + 2) (.row [.int .u8]) v) : ∃ (s : Sl) (l : List UInt8), v = s.v ∧ RdB h s l ∧ l.length ≤ B := by
 obtain ⟨s, Q, h1, h2, h3, h4, _⟩ := RdE.ofRow (α := UInt8) (g := fun b => [.int .u8 (b.toNat : Int)]) (p := fun _ => True) hc (by
  intro cs hcs
  match cs, hcs with
  | [v], ⟨⟨m, hv, hw⟩, _⟩ =>
   obtain ⟨b, hb⟩ := u8_of hw
   exact ⟨b, by rw [hv, hb], trivial⟩)
 refine ⟨s, Q, h1, ⟨h2.n, h3, ?_⟩, h4⟩
 have e : ∀ Q : List UInt8, Q.flatMap (fun b => [Value.int .u8 (b.toNat : Int)]) = bc Q := by
  intro Q
  induction Q with
  | nil => rfl
  | cons b Q ih => rw [List.flatMap_cons, ih]; rfl
 have := h2.r
 rw [e] at this
 exact this
end Go.Hw
