/-
 The driver: Poll.
-/
import Derived.Test.YtbbnpmikjdgdpaaGreatPe
import Derived.Test.YtbbnpmikjdgdpaaGreatPd
import Derived.Sort.AssemblyPlain
import Derived.Sort.LotD4
import Derived.Sort.LotD5
set_option linter.unusedSimpArgs false
set_option linter.unusedVariables false
set_option maxRecDepth 20000
namespace Go.Proofs.YtbbnpmikjdgdpaaGreat
open Go Go.Hw
structure FrS where
 dst : M6
 src : M6
 kind : Int
 data : List UInt8
def frX (x : FrS × Sl) : List Value := frC x.1.dst x.1.src x.1.kind x.2
theorem frX_w (x : FrS × Sl) : (frX x).length = 14 := rfl
theorem frX_plain {x : FrS × Sl} : ∀ v ∈ frX x, plain v = true := by
 intro v hv
 simp only [frX, frC, List.mem_cons, List.not_mem_nil, or_false] at hv
 rcases hv with rfl | rfl | rfl | rfl | rfl | rfl | rfl | rfl | rfl | rfl | rfl | rfl | rfl | rfl <;> rfl
theorem fr_a : Tryz.prog.cellsOf 110 = 14 := by kernel_rfl
theorem fr_z : (zc Tryz.prog 110).length = 14 := by kernel_rfl
theorem fr_b : Tryz.prog.bytesOf 110 ≤ 64 := by rw [show Tryz.prog.bytesOf 110 = 48 by kernel_rfl]; omega
def framesA (s : Sl) (o : List FrS) : Asn := exs fun X : List (FrS × Sl) => star [Hw.own 110 14 s (X.flatMap frX), star (X.map fun x => Hw.own 5 1 x.2 (Hw.bc x.1.data)), pur (X.map Prod.fst = o)]
def frOf (l : List UInt8) : FrS := ⟨macOf l 0, macOf l 6, kindOf l, l.drop 14⟩
def takeF (own : M6) (l : List UInt8) : Option FrS := if openE l = 0 ∧ mineB own (macOf l 0) (macOf l 6) = true then some (frOf l) else none
section
variable {L M : List Asn} {h : Hp} {s : Sl} {o : List FrS}
theorem frames_open (hs : Sat (L ++ [framesA s o]) h) : ∃ X : List (FrS × Sl), Sat (L ++ [Hw.own 110 14 s (X.flatMap frX), star (X.map fun x => Hw.own 5 1 x.2 (Hw.bc x.1.data))]) h ∧ X.map Prod.fst = o := by
 obtain ⟨X, hs⟩ := hs.exOut
 have hs : Sat (L ++ [star [Hw.own 110 14 s (X.flatMap frX), star (X.map fun x => Hw.own 5 1 x.2 (Hw.bc x.1.data)), pur (X.map Prod.fst = o)]]) h := hs
 have hs := hs.open
 exact ⟨X, hs.sel [0, 1] (by decide) rfl, hs.pur 2 rfl⟩
theorem frames_shut {X : List (FrS × Sl)} (hs : Sat (L ++ [Hw.own 110 14 s (X.flatMap frX), star (X.map fun x => Hw.own 5 1 x.2 (Hw.bc x.1.data))]) h) (hX : X.map Prod.fst = o) : Sat (L ++ [framesA s o]) h := by
 have h1 : Sat (L ++ [Hw.own 110 14 s (X.flatMap frX), star (X.map fun x => Hw.own 5 1 x.2 (Hw.bc x.1.data)), pur (X.map Prod.fst = o)]) h := hs.andPur hX
 have h2 := h1.close
 unfold framesA
 exact h2.exIn X
theorem frames_n (hs : Sat (L ++ [framesA s o]) h) : s.n = o.length := by
 obtain ⟨X, g, hX⟩ := frames_open hs
 have := g.elemN 0 rfl frX_w (by decide)
 rw [this, ← hX, List.length_map]
theorem frames_nil (hs : Sat (L ++ M) h) : Sat (L ++ (M ++ [framesA ⟨none, 0, 0⟩ []])) h := by
 have h1 := Sat.csa (hs.addNil 110 14)
 have h2 : Sat (((L ++ M) ++ [Hw.own 110 14 ⟨none, 0, 0⟩ (([] : List (FrS × Sl)).flatMap frX)]) ++ []) h := by rw [List.append_nil]; exact h1
 have h3 : Sat ((L ++ M) ++ [Hw.own 110 14 ⟨none, 0, 0⟩ (([] : List (FrS × Sl)).flatMap frX), star (([] : List (FrS × Sl)).map fun x => Hw.own 5 1 x.2 (Hw.bc x.1.data))]) h := Sat.asc h2.close
 exact Sat.asc (frames_shut (X := []) h3 rfl)
theorem frames_push {x : FrS} {d : Sl} {F : Sl → Hp → Prop} (hs : Sat (L ++ [framesA s o, Hw.own 5 1 d (Hw.bc x.data)]) h) (ho : o.length ≤ 1000000)
  (hF : ∀ s' h', Sat (L ++ [framesA s' (o ++ [x])]) h' → F s' h') : nw h (.cells ⟨frX (x, d)⟩ 110) fun b h0 => apK Tryz.prog 110 s (.slice (some (bk b)) 1 1) h0 F := by
 have g1 : Sat ((L ++ [Hw.own 5 1 d (Hw.bc x.data)]) ++ [framesA s o]) h := hs.part [1, 0] (by decide) rfl
 obtain ⟨X, g2, hX⟩ := frames_open g1
 have hn : s.n = o.length := frames_n g1
 refine g2.push 0 rfl (k := 1) (ns := frX (x, d)) fr_a fr_z rfl frX_plain ?_ ?_
 ·have : (s.n + 1) * 2 * Tryz.prog.bytesOf 110 ≤ (s.n + 1) * 2 * 64 := Nat.mul_le_mul_left _ fr_b
  omega
 ·intro s' h' g3 _
  have g4 : Sat ((L ++ [Hw.own 110 14 s' (X.flatMap frX ++ frX (x, d))]) ++ [star (X.map fun x => Hw.own 5 1 x.2 (Hw.bc x.1.data)), Hw.own 5 1 d (Hw.bc x.data)]) h' := (Sat.asc g3).part [1, 2, 0] (by decide) rfl
  have g5 := g4.into
  have e1 : (X.map fun x => Hw.own 5 1 x.2 (Hw.bc x.1.data)) ++ [Hw.own 5 1 d (Hw.bc x.data)] = (X ++ [(x, d)]).map fun x => Hw.own 5 1 x.2 (Hw.bc x.1.data) := by simp
  have e2 : X.flatMap frX ++ frX (x, d) = (X ++ [(x, d)]).flatMap frX := by simp
  rw [e1, e2] at g5
  exact hF s' h' (frames_shut (X := X ++ [(x, d)]) (Sat.asc g5) (by rw [List.map_append, hX]; rfl))
end
section
variable {L : List Asn} {h : Hp} {b bc : Nat} {N : NcS} {out : Sl} {o : List FrS}
theorem poll_j3 {l : List UInt8} {q : List (List UInt8)} {bd : Int} {Kn : Hp → Prop} (hs : Sat (L ++ [nicA b bc N]) h) (hq : N.rq = l :: q) (hK : ∀ h', Sat (L ++ [nicA b bc { N with rq := q }]) h' → Kn h') : N43_j3 (some (bk b)) bd out (N.rn : Int) h Kn := by
 unfold N43_j3
 obtain ⟨u, g⟩ := nic_open hs
 have rng := card_rng (Sat.csa g (A := [_]))
 simp only [NcS.cd] at rng
 simp only [nn_some', add_bk]
 refine g.lP 0 rfl rfl ?_
 refine g.lI 0 rfl rfl ?_
 refine c_give (k := N.cd u) (Sat.csa g (A := [_])) hq fun h1 g1 => ?_
 have g1 : Sat (L ++ [row b 79 (nicC bc N u), cardA bc { N.cd u with rh := (u.rh + 1) % N.rn, rq := q }]) h1 := Sat.asc g1
 refine g1.lI 0 rfl rfl ?_
 refine c_nnext (a := u.rh) (n := N.rn) (by omega) (by omega) ?_
 refine g1.st 0 rfl (by simp [nicC]) rfl ?_
 intro h2 g2
 exact hK h2 (nic_shut (N := { N with rq := q }) (x := { u with rh := (u.rh + 1) % N.rn }) g2)
theorem poll_j2 {zf : Nat} {f : FrS} {y : Sl} {x : Bool} {bd sz : Int} {Kn : Sl → Hp → Prop} (hs : Sat (L ++ [nicA b bc N, row zf 110 (frC f.dst f.src f.kind y), Hw.own 5 1 y (Hw.bc f.data), framesA out o]) h) (ho : o.length ≤ 1000000)
  (hK : ∀ h' s, Sat (L ++ [nicA b bc N, framesA s (o ++ if x then [f] else [])]) h' → Kn s h') : N43_j2 (some (bk b)) bd out sz (some (bk zf)) x h Kn := by
 unfold N43_j2
 cases x with
 | true =>
  rw [cond_true]
  simp only [nn_some', add_bk]
  refine Sat.lI hs 1 (k := 0) rfl rfl ?_
  refine Sat.lI hs 1 rfl rfl ?_
  refine Sat.lI hs 1 rfl rfl ?_
  refine Sat.lI hs 1 rfl rfl ?_
  refine Sat.lI hs 1 rfl rfl ?_
  refine Sat.lI hs 1 rfl rfl ?_
  refine Sat.lI hs 1 rfl rfl ?_
  refine Sat.lI hs 1 rfl rfl ?_
  refine Sat.lI hs 1 rfl rfl ?_
  refine Sat.lI hs 1 rfl rfl ?_
  refine Sat.lI hs 1 rfl rfl ?_
  refine Sat.lI hs 1 rfl rfl ?_
  refine Sat.lI hs 1 rfl rfl ?_
  refine Sat.lL hs 1 rfl rfl ?_
  have g1 : Sat ((L ++ [nicA b bc N]) ++ [framesA out o, Hw.own 5 1 y (Hw.bc f.data)]) h := hs.part [0, 3, 2] (by decide) rfl
  refine frames_push (x := f) g1 ho fun s h1 g2 => ?_
  have g3 : Sat ((L ++ [framesA s (o ++ [f])]) ++ [nicA b bc N]) h1 := (Sat.asc g2).part [1, 0] (by decide) rfl
  obtain ⟨u, g4⟩ := nic_open g3
  refine g4.lI 0 (k := 0) rfl rfl ?_
  refine Sat.st g4 0 (k := 0) rfl (by simp [nicC]) rfl ?_
  intro h2 g5
  exact hK h2 s ((Sat.asc (nic_shut (x := { u with a := IntKind.wrap .i64 (u.a + 1) }) g5)).sel [1, 0] (by decide) rfl)
 | false =>
  rw [cond_false]
  simp only [nn_some', add_bk]
  have g3 : Sat ((L ++ [framesA out o]) ++ [nicA b bc N]) h := hs.part [3, 0] (by decide) rfl
  obtain ⟨u, g4⟩ := nic_open g3
  refine g4.lI 0 rfl rfl ?_
  refine Sat.st g4 0 rfl (by simp [nicC]) rfl ?_
  intro h2 g5
  have := hK h2 out
  rw [show (if (false = true) then [f] else []) = ([] : List FrS) from rfl, List.append_nil] at this
  exact this ((Sat.asc (nic_shut (x := { u with b := IntKind.wrap .i64 (u.b + 1) }) g5)).sel [1, 0] (by decide) rfl)
theorem poll_j1 {z : Nat} {y : Sl} {l : List UInt8} {q : List (List UInt8)} {bd : Int} {Ke Kn : Sl → Hp → Prop} (hs : Sat (L ++ [nicA b bc N, row z 153 [.bool false, y.v], Hw.own 5 1 y (Hw.bc l), framesA out o]) h) (ho : o.length ≤ 1000000) (hq : N.rq = l :: q) (hl : l.length ≤ 1514)
  (hK : ∀ h' s, Sat (L ++ [nicA b bc { N with rq := q }, framesA s (o ++ (takeF N.own l).toList)]) h' → Kn s h') : N43_j1 (some (bk b)) bd out (N.rn : Int) (some (bk z)) 0 h Ke Kn := by
 unfold N43_j1
 rw [show ((0 : Int) != 0) = false from rfl, cond_false]
 simp only [nn_some', add_bk]
 refine hs.lB 1 (k := 0) rfl rfl ?_
 rw [cond_false]
 refine hs.lL 1 rfl rfl ?_
 -- what follows, in either case
 have rest : ∀ {zf : Nat} {f : FrS} {y2 : Sl} {x : Bool} {h' : Hp}, Sat (L ++ [nicA b bc N, row zf 110 (frC f.dst f.src f.kind y2), Hw.own 5 1 y2 (Hw.bc f.data), framesA out o]) h' → (if x then [f] else []) = (takeF N.own l).toList →
   N43_j2 (some (bk b)) bd out (N.rn : Int) (some (bk zf)) x h' fun s3 h17 => N43_j3 (some (bk b)) bd s3 (N.rn : Int) h17 fun h18 => Kn s3 h18 := by
  intro zf f y2 x h' g e
  refine poll_j2 g ho fun h1 s g1 => ?_
  rw [e] at g1
  have g2 : Sat ((L ++ [framesA s (o ++ (takeF N.own l).toList)]) ++ [nicA b bc N]) h1 := g1.part [1, 0] (by decide) rfl
  refine poll_j3 g2 hq fun h2 g3 => ?_
  exact hK h2 s ((Sat.asc g3).sel [1, 0] (by decide) rfl)
 refine c_fopen (hs.own 2 rfl).rdb (by omega) (fun q1 h1 he => ?_) (fun q1 h1 y2 hy => ?_)
 ·have g1 := hs.ext he
  refine Sat.nw g1 ?_
  intro zf h2 hs _
  simp only [List.cons_append, List.nil_append] at hs
  refine Sat.st hs 4 (k := 0) rfl (by simp) rfl fun h7 hs => ?_
  simp only [List.set_cons_zero, List.set_cons_succ] at hs
  refine Sat.st hs 4 rfl (by simp) rfl fun h7 hs => ?_
  simp only [List.set_cons_zero, List.set_cons_succ] at hs
  refine Sat.st hs 4 rfl (by simp) rfl fun h7 hs => ?_
  simp only [List.set_cons_zero, List.set_cons_succ] at hs
  refine Sat.st hs 4 rfl (by simp) rfl fun h7 hs => ?_
  simp only [List.set_cons_zero, List.set_cons_succ] at hs
  refine Sat.st hs 4 rfl (by simp) rfl fun h7 hs => ?_
  simp only [List.set_cons_zero, List.set_cons_succ] at hs
  refine Sat.st hs 4 rfl (by simp) rfl fun h7 hs => ?_
  simp only [List.set_cons_zero, List.set_cons_succ] at hs
  refine Sat.st hs 4 rfl (by simp) rfl fun h7 hs => ?_
  simp only [List.set_cons_zero, List.set_cons_succ] at hs
  refine Sat.st hs 4 rfl (by simp) rfl fun h7 hs => ?_
  simp only [List.set_cons_zero, List.set_cons_succ] at hs
  refine Sat.st hs 4 rfl (by simp) rfl fun h7 hs => ?_
  simp only [List.set_cons_zero, List.set_cons_succ] at hs
  refine Sat.st hs 4 rfl (by simp) rfl fun h7 hs => ?_
  simp only [List.set_cons_zero, List.set_cons_succ] at hs
  refine Sat.st hs 4 rfl (by simp) rfl fun h7 hs => ?_
  simp only [List.set_cons_zero, List.set_cons_succ] at hs
  refine Sat.st hs 4 rfl (by simp) rfl fun h7 hs => ?_
  simp only [List.set_cons_zero, List.set_cons_succ] at hs
  refine Sat.st hs 4 rfl (by simp) rfl fun h7 hs => ?_
  simp only [List.set_cons_zero, List.set_cons_succ] at hs
  refine Sat.st hs 4 rfl (by simp) rfl fun h7 hs => ?_
  simp only [List.set_cons_zero, List.set_cons_succ] at hs
  rw [show (openE l == 0) = false by simp [q1], cond_false]
  have g2 := Sat.addNil 5 1 hs
  have g3 : Sat (L ++ [nicA b bc N, row zf 110 (frC ⟨0, 0, 0, 0, 0, 0⟩ ⟨0, 0, 0, 0, 0, 0⟩ 0 ⟨none, 0, 0⟩), Hw.own 5 1 ⟨none, 0, 0⟩ (Hw.bc []), framesA out o]) h7 := Sat.sel g2 [0, 4, 5, 3] (by decide) rfl
  exact rest (f := ⟨⟨0, 0, 0, 0, 0, 0⟩, ⟨0, 0, 0, 0, 0, 0⟩, 0, []⟩) (x := false) g3 (by have e : takeF N.own l = none := if_neg (fun w => q1 w.1); rw [e]; rfl)
 ·have g1 := hs.addNew hy
  refine Sat.nw g1 ?_
  intro zf h2 hs _
  simp only [List.cons_append, List.nil_append] at hs
  refine Sat.st hs 5 (k := 0) rfl (by simp) rfl fun h7 hs => ?_
  simp only [List.set_cons_zero, List.set_cons_succ] at hs
  refine Sat.st hs 5 rfl (by simp) rfl fun h7 hs => ?_
  simp only [List.set_cons_zero, List.set_cons_succ] at hs
  refine Sat.st hs 5 rfl (by simp) rfl fun h7 hs => ?_
  simp only [List.set_cons_zero, List.set_cons_succ] at hs
  refine Sat.st hs 5 rfl (by simp) rfl fun h7 hs => ?_
  simp only [List.set_cons_zero, List.set_cons_succ] at hs
  refine Sat.st hs 5 rfl (by simp) rfl fun h7 hs => ?_
  simp only [List.set_cons_zero, List.set_cons_succ] at hs
  refine Sat.st hs 5 rfl (by simp) rfl fun h7 hs => ?_
  simp only [List.set_cons_zero, List.set_cons_succ] at hs
  refine Sat.st hs 5 rfl (by simp) rfl fun h7 hs => ?_
  simp only [List.set_cons_zero, List.set_cons_succ] at hs
  refine Sat.st hs 5 rfl (by simp) rfl fun h7 hs => ?_
  simp only [List.set_cons_zero, List.set_cons_succ] at hs
  refine Sat.st hs 5 rfl (by simp) rfl fun h7 hs => ?_
  simp only [List.set_cons_zero, List.set_cons_succ] at hs
  refine Sat.st hs 5 rfl (by simp) rfl fun h7 hs => ?_
  simp only [List.set_cons_zero, List.set_cons_succ] at hs
  refine Sat.st hs 5 rfl (by simp) rfl fun h7 hs => ?_
  simp only [List.set_cons_zero, List.set_cons_succ] at hs
  refine Sat.st hs 5 rfl (by simp) rfl fun h7 hs => ?_
  simp only [List.set_cons_zero, List.set_cons_succ] at hs
  refine Sat.st hs 5 rfl (by simp) rfl fun h7 hs => ?_
  simp only [List.set_cons_zero, List.set_cons_succ] at hs
  refine Sat.st hs 5 rfl (by simp) rfl fun h7 hs => ?_
  simp only [List.set_cons_zero, List.set_cons_succ] at hs
  rw [show ((0 : Int) == 0) = true from rfl, cond_true]
  have g3 : Sat (L ++ [nicA b bc N, row zf 110 (frC (frOf l).dst (frOf l).src (frOf l).kind y2), Hw.own 5 1 y2 (Hw.bc (frOf l).data), framesA out o]) h7 := hs.sel [0, 5, 4, 3] (by decide) rfl
  clear hs
  have g4 : Sat ((L ++ [row zf 110 (frC (frOf l).dst (frOf l).src (frOf l).kind y2), Hw.own 5 1 y2 (Hw.bc (frOf l).data), framesA out o]) ++ [nicA b bc N]) h7 := g3.part [1, 2, 3, 0] (by decide) rfl
  obtain ⟨u, g5⟩ := nic_open g4
  refine Sat.lI g5 0 rfl rfl ?_
  refine Sat.lI g5 0 rfl rfl ?_
  refine Sat.lI g5 0 rfl rfl ?_
  refine Sat.lI g5 0 rfl rfl ?_
  refine Sat.lI g5 0 rfl rfl ?_
  refine Sat.lI g5 0 rfl rfl ?_
  refine Sat.lI g3 1 (k := 0) rfl rfl ?_
  refine Sat.lI g3 1 rfl rfl ?_
  refine Sat.lI g3 1 rfl rfl ?_
  refine Sat.lI g3 1 rfl rfl ?_
  refine Sat.lI g3 1 rfl rfl ?_
  refine Sat.lI g3 1 rfl rfl ?_
  refine Sat.lI g3 1 rfl rfl ?_
  refine Sat.lI g3 1 rfl rfl ?_
  refine Sat.lI g3 1 rfl rfl ?_
  refine Sat.lI g3 1 rfl rfl ?_
  refine Sat.lI g3 1 rfl rfl ?_
  refine Sat.lI g3 1 rfl rfl ?_
  refine Sat.lI g3 1 rfl rfl ?_
  refine Sat.lL g3 1 rfl rfl ?_
  refine c_mine (own := N.own) (d := (frOf l).dst) (s := (frOf l).src) (kind := (frOf l).kind) (x := y2) (macOf_ok l 6) fun h8 he8 => ?_
  refine rest (f := frOf l) (x := mineB N.own (frOf l).dst (frOf l).src) (g3.ext he8) ?_
  unfold takeF
  show (if mineB N.own (macOf l 0) (macOf l 6) = true then [frOf l] else []) = _
  by_cases hm : mineB N.own (macOf l 0) (macOf l 6) = true
  ·rw [if_pos hm, if_pos ⟨q1, hm⟩]; rfl
  ·rw [if_neg hm, if_neg (fun w => hm w.2)]; rfl
theorem c_npoll {bud : Int} {K : Sl → Hp → Prop} (hs : Sat (L ++ [nicA b bc N]) h) (hl : ∀ l ∈ N.rq, l.length ≤ 1514) (hb : bud ≤ 4611686018427387904)
  (hK : ∀ h' s, Sat (L ++ [nicA b bc { N with rq := N.rq.drop bud.toNat }, framesA s ((N.rq.take bud.toNat).filterMap (takeF N.own))]) h' → K s h') : C43 (some (bk b)) bud h K := by
 apply S43; unfold N43 N43_l0
 have rng := nic_rng hs
 obtain ⟨u0, g0⟩ := nic_open hs
 simp only [nn_some', add_bk]
 refine g0.lP 0 rfl rfl ?_
 refine c_rings (Sat.csa g0 (A := [_])) ?_
 show loopP (N43_l0_B (some (bk b)) (N.rn : Int) _) (bud, ⟨none, 0, 0⟩) h
 have g1 : Sat (L ++ [nicA b bc { N with rq := N.rq.drop 0 }, framesA ⟨none, 0, 0⟩ ((N.rq.take 0).filterMap (takeF N.own))]) h := frames_nil hs
 refine loopP_inv (fun (x : Int × Sl) hc => ∃ k : Nat, x.1 = bud - k ∧ k ≤ N.rq.length ∧ (k : Int) ≤ max bud 0 ∧ Sat (L ++ [nicA b bc { N with rq := N.rq.drop k }, framesA x.2 ((N.rq.take k).filterMap (takeF N.own))]) hc) (fun x _ => x.1.toNat) ?_ ⟨0, by simp, Nat.zero_le _, by omega, g1⟩
 rintro ⟨bd, out⟩ hc ⟨k, hbd, hk, hkb, g2⟩
 simp only at hbd g2
 subst hbd
 unfold N43_l0_B N43_l0_b
 dsimp only
 have fl : ((N.rq.take k).filterMap (takeF N.own)).length ≤ 1000000 := by
  have := List.length_filterMap_le (takeF N.own) (N.rq.take k)
  rw [List.length_take] at this; omega
 by_cases h1 : bud - (k : Int) > 0
 ·rw [show decide (bud - (k : Int) > 0) = true from decide_eq_true h1, cond_true]
  simp only [nn_some', add_bk]
  have g3 : Sat ((L ++ [framesA out ((N.rq.take k).filterMap (takeF N.own))]) ++ [nicA b bc { N with rq := N.rq.drop k }]) hc := g2.part [1, 0] (by decide) rfl
  obtain ⟨u, g4⟩ := nic_open g3
  refine g4.lP 0 rfl rfl ?_
  refine g4.lI 0 rfl rfl ?_
  have next : IntKind.wrap .i64 (bud - (k : Int) - 1) = bud - ((k + 1 : Nat) : Int) := by rw [wi64i (by omega) (by omega)]; omega
  -- nothing there
  have none_ : ∀ {h' : Hp} {z : Nat} {y : Sl} {Kn : Sl → Hp → Prop}, N.rq.drop k = [] → Sat (L ++ [nicA b bc { N with rq := N.rq.drop k }, row z 153 [.bool true, y.v], framesA out ((N.rq.take k).filterMap (takeF N.own))]) h' → N43_j1 (some (bk b)) (bud - (k : Int)) out (N.rn : Int) (some (bk z)) 0 h' (fun s h1 => K s h1) Kn := by
   intro h' z y Kn hq g
   unfold N43_j1
   rw [show ((0 : Int) != 0) = false from rfl, cond_false]
   simp only [nn_some']
   refine g.lB 1 (k := 0) rfl rfl ?_
   rw [cond_true]
   have hkl : N.rq.length ≤ k := by have := congrArg List.length hq; simp at this; omega
   have e1 : N.rq.drop bud.toNat = N.rq.drop k := by rw [hq, List.drop_of_length_le (by omega)]
   have e2 : N.rq.take bud.toNat = N.rq.take k := by rw [List.take_of_length_le (by omega), List.take_of_length_le (by omega)]
   have := hK h' out
   rw [e1, e2] at this
   exact this (g.sel [0, 2] (by decide) rfl)
  have some_ : ∀ {h' : Hp} {z : Nat} {y : Sl} {l : List UInt8} {q : List (List UInt8)} {Ke : Sl → Hp → Prop}, N.rq.drop k = l :: q → Sat (L ++ [nicA b bc { N with rq := N.rq.drop k }, row z 153 [.bool false, y.v], Hw.own 5 1 y (Hw.bc l), framesA out ((N.rq.take k).filterMap (takeF N.own))]) h' →
    N43_j1 (some (bk b)) (bud - (k : Int)) out (N.rn : Int) (some (bk z)) 0 h' Ke (fun s2 h5 => (∃ k_1 : Nat, IntKind.wrap .i64 (bud - (k : Int) - 1) = bud - (k_1 : Int) ∧ k_1 ≤ N.rq.length ∧ (k_1 : Int) ≤ max bud 0 ∧ Sat (L ++ [nicA b bc { N with rq := N.rq.drop k_1 }, framesA s2 ((N.rq.take k_1).filterMap (takeF N.own))]) h5) ∧ (IntKind.wrap .i64 (bud - (k : Int) - 1)).toNat < (bud - (k : Int)).toNat) := by
   intro h' z y l q Ke hq g
   have hkl : k < N.rq.length := by have := congrArg List.length hq; simp at this; omega
   have hd := List.drop_eq_getElem_cons hkl
   rw [hq] at hd
   injection hd with hd1 hd2
   have hlm : l ∈ N.rq := by rw [hd1]; exact List.getElem_mem hkl
   refine poll_j1 (N := { N with rq := N.rq.drop k }) g fl hq (hl l hlm) fun h2 s g5 => ?_
   rw [next]
   refine ⟨⟨k + 1, rfl, hkl, by omega, ?_⟩, by omega⟩
   have e1 : (N.rq.take (k + 1)).filterMap (takeF N.own) = (N.rq.take k).filterMap (takeF N.own) ++ (takeF N.own l).toList := by
    rw [List.take_succ_eq_append_getElem hkl, List.filterMap_append, ← hd1]
    cases h9 : takeF N.own l <;> simp [h9]
   rw [e1, ← hd2]
   exact g5
  refine ⟨?_, ?_⟩
  ·refine c_crx (k := NcS.cd { N with rq := N.rq.drop k } u) (Sat.csa g4 (A := [_])) (fun hq h2 y g5 => ?_) (fun d r hq h2 y g5 => ?_)
   ·have g5 : Sat ((L ++ [framesA out ((N.rq.take k).filterMap (takeF N.own))]) ++ [row b 79 (nicC bc { N with rq := N.rq.drop k } u), cardA bc (NcS.cd { N with rq := N.rq.drop k } u)]) h2 := Sat.asc g5
    refine Sat.nw g5 ?_
    intro z h3 hs _
    simp only [List.cons_append, List.nil_append] at hs
    refine ⟨Sat.lI hs 0 rfl rfl ⟨rfl, rfl⟩, Sat.lP hs 0 rfl rfl ⟨rfl, rfl⟩, ?_⟩
    refine Sat.st hs 2 (k := 0) rfl (by simp) rfl fun h7 hs => ?_
    simp only [List.set_cons_zero, List.set_cons_succ] at hs
    refine Sat.st hs 2 rfl (by simp) rfl fun h7 hs => ?_
    simp only [List.set_cons_zero, List.set_cons_succ] at hs
    have g6 := Sat.part hs [2, 0, 1] (by decide) rfl (M1 := [row z 153 [.bool true, y.v]]) (M2 := [row b 79 (nicC bc { N with rq := N.rq.drop k } u), cardA bc (NcS.cd { N with rq := N.rq.drop k } u)])
    have g7 := Sat.asc (Sat.asc (nic_shut g6))
    exact none_ hq (g7.sel [2, 1, 0] (by decide) rfl)
   ·have g5 : Sat ((L ++ [framesA out ((N.rq.take k).filterMap (takeF N.own))]) ++ [row b 79 (nicC bc { N with rq := N.rq.drop k } u), cardA bc (NcS.cd { N with rq := N.rq.drop k } u), Hw.own 5 1 y (Hw.bc d)]) h2 := Sat.asc g5
    refine Sat.nw g5 ?_
    intro z h3 hs _
    simp only [List.cons_append, List.nil_append] at hs
    refine ⟨Sat.lI hs 0 rfl rfl ⟨rfl, rfl⟩, Sat.lP hs 0 rfl rfl ⟨rfl, rfl⟩, ?_⟩
    refine Sat.st hs 3 (k := 0) rfl (by simp) rfl fun h7 hs => ?_
    simp only [List.set_cons_zero, List.set_cons_succ] at hs
    refine Sat.st hs 3 rfl (by simp) rfl fun h7 hs => ?_
    simp only [List.set_cons_zero, List.set_cons_succ] at hs
    have g6 := Sat.part hs [2, 3, 0, 1] (by decide) rfl (M1 := [Hw.own 5 1 y (Hw.bc d), row z 153 [.bool false, y.v]]) (M2 := [row b 79 (nicC bc { N with rq := N.rq.drop k } u), cardA bc (NcS.cd { N with rq := N.rq.drop k } u)])
    have g7 := Sat.asc (Sat.asc (nic_shut g6))
    exact some_ hq (g7.sel [3, 2, 1, 0] (by decide) rfl)
  ·refine Sat.nw g4 ?_
   intro z h2 hs _
   simp only [List.cons_append, List.nil_append] at hs
   refine ⟨Sat.lI hs 0 rfl rfl ⟨rfl, rfl⟩, Sat.lP hs 0 rfl rfl ⟨rfl, rfl⟩, ?_⟩
   have g5 := Sat.part hs [0, 2, 1] (by decide) rfl (M1 := [row b 79 (nicC bc { N with rq := N.rq.drop k } u), row z 153 [.bool false, .slice none 0 0]]) (M2 := [cardA bc (NcS.cd { N with rq := N.rq.drop k } u)])
   refine c_crx (k := NcS.cd { N with rq := N.rq.drop k } u) g5 (fun hq h2 y g5 => ?_) (fun d r hq h2 y g5 => ?_)
   ·have hs := Sat.asc g5
    simp only [List.cons_append, List.nil_append] at hs
    refine Sat.st hs 1 (k := 0) rfl (by simp) rfl fun h7 hs => ?_
    simp only [List.set_cons_zero, List.set_cons_succ] at hs
    refine Sat.st hs 1 rfl (by simp) rfl fun h7 hs => ?_
    simp only [List.set_cons_zero, List.set_cons_succ] at hs
    have g6 := Sat.part hs [1, 0, 2] (by decide) rfl (M1 := [row z 153 [.bool true, y.v]]) (M2 := [row b 79 (nicC bc { N with rq := N.rq.drop k } u), cardA bc (NcS.cd { N with rq := N.rq.drop k } u)])
    have g7 := Sat.asc (Sat.asc (nic_shut g6))
    exact none_ hq (g7.sel [2, 1, 0] (by decide) rfl)
   ·have hs := Sat.asc g5
    simp only [List.cons_append, List.nil_append] at hs
    refine Sat.st hs 1 (k := 0) rfl (by simp) rfl fun h7 hs => ?_
    simp only [List.set_cons_zero, List.set_cons_succ] at hs
    refine Sat.st hs 1 rfl (by simp) rfl fun h7 hs => ?_
    simp only [List.set_cons_zero, List.set_cons_succ] at hs
    have g6 := Sat.part hs [3, 1, 0, 2] (by decide) rfl (M1 := [Hw.own 5 1 y (Hw.bc d), row z 153 [.bool false, y.v]]) (M2 := [row b 79 (nicC bc { N with rq := N.rq.drop k } u), cardA bc (NcS.cd { N with rq := N.rq.drop k } u)])
    have g7 := Sat.asc (Sat.asc (nic_shut g6))
    exact some_ hq (g7.sel [3, 2, 1, 0] (by decide) rfl)
 ·rw [show decide (bud - (k : Int) > 0) = false from decide_eq_false h1, cond_false]
  have e : bud.toNat = k := by omega
  have := hK hc out
  rw [e] at this
  exact this g2
end
end Go.Proofs.YtbbnpmikjdgdpaaGreat

set_option linter.unusedVariables false
set_option maxRecDepth 100000
namespace Go.Proofs.YtbbnpmikjdgdpaaGreat
open Go Go.Hw
noncomputable def B101 : Code := match Tryz.f101.body with | some c => c | none => .skip
def N101 (x0 x1 : Int) (h : Hp) (K : Bool → Hp → Prop) : Prop :=
 C110 x0 h fun b0 h0 =>
 bif b0 then
 C110 x1 h0 fun b1 h1 =>
 bif (!b1) then
 K true h1
 else
 K (decide (x0 < x1)) h1
 else
 K (decide (x0 < x1)) h0
theorem S101 {x0 x1 : Int} {h : Hp} {K : Bool → Hp → Prop} (hn : N101 x0 x1 h K) : C101 x0 x1 h K := by
 refine calls_of_D Tryz.func101 (c := B101) rfl (by kernel_rfl) ?_
 refine den_sound hE hm _ .leaf _ _ _ (annOk_leaf) ?_
 refine cast ?_ hn
 kernel_rfl
end Go.Proofs.YtbbnpmikjdgdpaaGreat

set_option linter.unusedVariables false
set_option maxRecDepth 100000
namespace Go.Proofs.YtbbnpmikjdgdpaaGreat
open Go Go.Hw
noncomputable def B110 : Code := match Tryz.f110.body with | some c => c | none => .skip
def N110 (x0 : Int) (h : Hp) (K : Bool → Hp → Prop) : Prop :=
 K (x0 != x0) h
theorem S110 {x0 : Int} {h : Hp} {K : Bool → Hp → Prop} (hn : N110 x0 h K) : C110 x0 h K := by
 refine calls_of_D Tryz.func110 (c := B110) rfl (by kernel_rfl) ?_
 refine den_sound hE hm _ .leaf _ _ _ (annOk_leaf) ?_
 refine cast ?_ hn
 kernel_rfl
end Go.Proofs.YtbbnpmikjdgdpaaGreat

set_option linter.unusedVariables false
set_option maxRecDepth 100000
namespace Go.Proofs.YtbbnpmikjdgdpaaGreat
open Go Go.Hw
noncomputable def B95 : Code := match Tryz.f95.body with | some c => c | none => .skip
def N95_l1_b (x0 : Sl) (x1 x2 x6 : Int) (Φ : Int → Hp → Prop) (x7 : Int) (h : Hp) (K2 : Hp → Prop) : Prop :=
 bif (decide (x7 > x1)) then
 idx x7 x0.n <|
 nn x0.p fun a0 =>
 xI .u32 (cell h (a0.add (x7.toNat * 1))) fun n0 =>
 idx (IntKind.wrap .i64 (x7 - 1)) x0.n <|
 nn x0.p fun a1 =>
 xI .u32 (cell h (a1.add ((IntKind.wrap .i64 (x7 - 1)).toNat * 1))) fun n1 =>
 C101 n0 n1 h fun b0 h0 =>
 bif b0 then
 idx (IntKind.wrap .i64 (x7 - 1)) x0.n <|
 nn x0.p fun a2 =>
 xI .u32 (cell h0 (a2.add ((IntKind.wrap .i64 (x7 - 1)).toNat * 1))) fun n2 =>
 idx x7 x0.n <|
 nn x0.p fun a3 =>
 xI .u32 (cell h0 (a3.add (x7.toNat * 1))) fun n3 =>
 idx x7 x0.n <|
 nn x0.p fun a4 =>
 st h0 (a4.add (x7.toNat * 1)) (.int .u32 n2) fun h1 =>
 idx (IntKind.wrap .i64 (x7 - 1)) x0.n <|
 nn x0.p fun a5 =>
 st h1 (a5.add ((IntKind.wrap .i64 (x7 - 1)).toNat * 1)) (.int .u32 n3) fun h2 =>
 Φ (IntKind.wrap .i64 (x7 - 1)) h2
 else
 K2 h0
 else
 K2 h
def N95_l1_B (x0 : Sl) (x1 x2 x6 : Int) (K2 : Hp → Prop) (s : Sg.T [(7, .c (.int .i64))]) (h : Hp) (Φ : Sg.T [(7, .c (.int .i64))] → Hp → Prop) : Prop :=
 N95_l1_b x0 x1 x2 x6 (fun x7 h => Φ x7 h) s h K2
def N95_l1 (x0 : Sl) (x1 x2 x6 x7 : Int) (h : Hp) (K2 : Hp → Prop) : Prop :=
 loopP (N95_l1_B x0 x1 x2 x6 K2) x7 h
noncomputable def N95_l1_t : Xf := loopT [(0, .c (.slice)), (1, .c (.int .i64)), (2, .c (.int .i64)), (6, .c (.int .i64))] [(7, .c (.int .i64))] (codeAt B95 [1, 0, 0, 1, 0, 0, 1, 0, 0]) fun F Q => N95_l1_B F.1 F.2.1 F.2.2.1 F.2.2.2 (fun h' => Q (.exit 2) (Sg.env [] ()) h')
theorem N95_l1_ok : Sound Tryz.prog Tryz.f95.ntmps N95_l1_t (codeAt B95 [1, 0, 0, 1, 0, 0, 1, 0]) := by
 refine loop_sound (fun e => match e with | .exit 2 => [] | _ => []) (by kernel_rfl) ?_
 intro F Q s h Φ hb
 refine den_sound hE hm _ (.two (.two (.ord [0, 1, 2, 3, 4, 5, 6, 7, 8, 9, 10, 11, 12, 13, 14]) .leaf) (.two (.one (.ord [0, 1, 2, 3, 4, 5, 6, 7, 8, 9, 10, 11, 12, 13, 14, 15, 16, 17])) .leaf)) _ _ _ (⟨⟨trivial, annOk_leaf⟩, ⟨trivial, annOk_leaf⟩⟩) ?_
 refine cast ?_ hb
 kernel_rfl
def N95_l0_b (x0 : Sl) (x1 x2 : Int) (Φ : Int → Hp → Prop) (x6 : Int) (h : Hp) (K0 : Hp → Prop) : Prop :=
 bif (decide (x6 < x2)) then
 N95_l1 x0 x1 x2 x6 x6 h
 (fun h0 =>
 Φ (IntKind.wrap .i64 (x6 + 1)) h0)
 else
 K0 h
def N95_l0_B (x0 : Sl) (x1 x2 : Int) (K0 : Hp → Prop) (s : Sg.T [(6, .c (.int .i64))]) (h : Hp) (Φ : Sg.T [(6, .c (.int .i64))] → Hp → Prop) : Prop :=
 N95_l0_b x0 x1 x2 (fun x6 h => Φ x6 h) s h K0
def N95_l0 (x0 : Sl) (x1 x2 x6 : Int) (h : Hp) (K0 : Hp → Prop) : Prop :=
 loopP (N95_l0_B x0 x1 x2 K0) x6 h
noncomputable def N95_l0_t : Xf := loopT [(0, .c (.slice)), (1, .c (.int .i64)), (2, .c (.int .i64))] [(6, .c (.int .i64))] (codeAt B95 [1, 0, 0]) fun F Q => N95_l0_B F.1 F.2.1 F.2.2 (fun h' => Q (.exit 0) (Sg.env [] ()) h')
theorem N95_l0_ok : Sound Tryz.prog Tryz.f95.ntmps N95_l0_t (codeAt B95 [1, 0]) := by
 refine loop_sound (fun e => match e with | .exit 0 => [] | _ => []) (by kernel_rfl) ?_
 intro F Q s h Φ hb
 refine den_sound hE hm _ (.two .leaf (.two (.one (.two .leaf (.one (.xf N95_l1_t)))) .leaf)) _ _ _ (⟨annOk_leaf, ⟨⟨annOk_leaf, N95_l1_ok⟩, annOk_leaf⟩⟩) ?_
 refine cast ?_ hb
 kernel_rfl
def N95 (x0 : Sl) (x1 x2 : Int) (h : Hp) (K : Hp → Prop) : Prop :=
 N95_l0 x0 x1 x2 (IntKind.wrap .i64 (x1 + 1)) h
 (fun h0 =>
 K h0)
theorem S95 {x0 : Sl} {x1 x2 : Int} {h : Hp} {K : Hp → Prop} (hn : N95 x0 x1 x2 h K) : C95 x0 x1 x2 h K := by
 refine calls_of_D Tryz.func95 (c := B95) rfl (by kernel_rfl) ?_
 refine den_sound hE hm _ (.two .leaf (.one (.xf N95_l0_t))) _ _ _ (⟨annOk_leaf, N95_l0_ok⟩) ?_
 refine cast ?_ hn
 kernel_rfl
end Go.Proofs.YtbbnpmikjdgdpaaGreat

set_option linter.unusedVariables false
set_option maxRecDepth 100000
namespace Go.Proofs.YtbbnpmikjdgdpaaGreat
open Go Go.Hw
noncomputable def B105 : Code := match Tryz.f105.body with | some c => c | none => .skip
def N105_j1 (x0 : Sl) (x2 x3 x8 x9 : Int) (x36 : Bool) (h : Hp) (Kn : Int → Hp → Prop) : Prop :=
 bif x36 then
 Kn (IntKind.wrap .i64 (x9 + 1)) h
 else
 Kn x9 h
noncomputable def N105_j1_t : Xf := pieceT [(0, .c (.slice)), (2, .c (.int .i64)), (3, .c (.int .i64)), (8, .c (.int .i64)), (9, .c (.int .i64)), (36, .c (.bool))] (codeAt B105 [1, 0, 0, 0, 1, 1, 0, 1]) fun x h Q => N105_j1 x.1 x.2.1 x.2.2.1 x.2.2.2.1 x.2.2.2.2.1 x.2.2.2.2.2 h (fun o0 h' => Q .normal (Sg.env [(9, .c (.int .i64))] o0) h')
theorem N105_j1_ok : Sound Tryz.prog Tryz.f105.ntmps N105_j1_t (codeAt B105 [1, 0, 0, 0, 1, 1, 0, 1]) := by
 refine piece_sound (fun e => match e with | .normal => [9] | _ => []) ?_
 intro x h Q hb
 refine den_sound hE hm _ .leaf _ _ _ (annOk_leaf) ?_
 refine cast ?_ hb
 kernel_rfl
def N105_j2 (x0 : Sl) (x2 x3 x8 x9 : Int) (h : Hp) (Kn : Int → Hp → Prop) (Kr : Hp → Prop) : Prop :=
 idx (IntKind.wrap .i64 (x3 + x8)) x0.n <|
 nn x0.p fun a0 =>
 xI .u32 (cell h (a0.add ((IntKind.wrap .i64 (x3 + x8)).toNat * 1))) fun n0 =>
 idx (IntKind.wrap .i64 (x3 + x9)) x0.n <|
 nn x0.p fun a1 =>
 xI .u32 (cell h (a1.add ((IntKind.wrap .i64 (x3 + x9)).toNat * 1))) fun n1 =>
 C101 n0 n1 h fun b0 h0 =>
 bif (!b0) then
 Kr h0
 else
 idx (IntKind.wrap .i64 (x3 + x9)) x0.n <|
 nn x0.p fun a2 =>
 xI .u32 (cell h0 (a2.add ((IntKind.wrap .i64 (x3 + x9)).toNat * 1))) fun n2 =>
 idx (IntKind.wrap .i64 (x3 + x8)) x0.n <|
 nn x0.p fun a3 =>
 xI .u32 (cell h0 (a3.add ((IntKind.wrap .i64 (x3 + x8)).toNat * 1))) fun n3 =>
 idx (IntKind.wrap .i64 (x3 + x8)) x0.n <|
 nn x0.p fun a4 =>
 st h0 (a4.add ((IntKind.wrap .i64 (x3 + x8)).toNat * 1)) (.int .u32 n2) fun h1 =>
 idx (IntKind.wrap .i64 (x3 + x9)) x0.n <|
 nn x0.p fun a5 =>
 st h1 (a5.add ((IntKind.wrap .i64 (x3 + x9)).toNat * 1)) (.int .u32 n3) fun h2 =>
 Kn x9 h2
noncomputable def N105_j2_t : Xf := pieceT [(0, .c (.slice)), (2, .c (.int .i64)), (3, .c (.int .i64)), (8, .c (.int .i64)), (9, .c (.int .i64))] (codeAt B105 [1, 0, 0, 0, 1, 1, 1]) fun x h Q => N105_j2 x.1 x.2.1 x.2.2.1 x.2.2.2.1 x.2.2.2.2 h (fun o0 h' => Q .normal (Sg.env [(8, .c (.int .i64))] o0) h') (fun h' => Q .ret (Sg.env [] ()) h')
theorem N105_j2_ok : Sound Tryz.prog Tryz.f105.ntmps N105_j2_t (codeAt B105 [1, 0, 0, 0, 1, 1, 1]) := by
 refine piece_sound (fun e => match e with | .normal => [8] | .ret => [] | _ => []) ?_
 intro x h Q hb
 refine den_sound hE hm _ (.two (.two (.ord [0, 1, 2, 3, 4, 5, 6, 7, 8, 9, 10, 11, 12, 13]) .leaf) (.two (.ord [0, 1, 2, 3, 4, 5, 6, 7, 8, 9, 10, 11, 12, 13, 14, 15, 16, 17, 18, 19, 20, 21, 22, 23]) .leaf)) _ _ _ (⟨⟨trivial, annOk_leaf⟩, ⟨trivial, annOk_leaf⟩⟩) ?_
 refine cast ?_ hb
 kernel_rfl
def N105_l0_b (x0 : Sl) (x2 x3 : Int) (Φ : Int → Hp → Prop) (x8 : Int) (h : Hp) (K0 Kr : Hp → Prop) : Prop :=
 bif (decide ((IntKind.wrap .i64 ((IntKind.wrap .i64 (2 * x8)) + 1)) ≥ x2)) then
 K0 h
 else
 bif (decide ((IntKind.wrap .i64 ((IntKind.wrap .i64 ((IntKind.wrap .i64 (2 * x8)) + 1)) + 1)) < x2)) then
 idx (IntKind.wrap .i64 (x3 + (IntKind.wrap .i64 ((IntKind.wrap .i64 (2 * x8)) + 1)))) x0.n <|
 nn x0.p fun a0 =>
 xI .u32 (cell h (a0.add ((IntKind.wrap .i64 (x3 + (IntKind.wrap .i64 ((IntKind.wrap .i64 (2 * x8)) + 1)))).toNat * 1))) fun n0 =>
 idx (IntKind.wrap .i64 ((IntKind.wrap .i64 (x3 + (IntKind.wrap .i64 ((IntKind.wrap .i64 (2 * x8)) + 1)))) + 1)) x0.n <|
 nn x0.p fun a1 =>
 xI .u32 (cell h (a1.add ((IntKind.wrap .i64 ((IntKind.wrap .i64 (x3 + (IntKind.wrap .i64 ((IntKind.wrap .i64 (2 * x8)) + 1)))) + 1)).toNat * 1))) fun n1 =>
 C101 n0 n1 h fun b0 h0 =>
 N105_j1 x0 x2 x3 x8 (IntKind.wrap .i64 ((IntKind.wrap .i64 (2 * x8)) + 1)) b0 h0
 (fun n2 h1 =>
 N105_j2 x0 x2 x3 x8 n2 h1
 (fun n3 h2 =>
 Φ n3 h2)
 (fun h3 =>
 Kr h3))
 else
 N105_j1 x0 x2 x3 x8 (IntKind.wrap .i64 ((IntKind.wrap .i64 (2 * x8)) + 1)) false h
 (fun n4 h4 =>
 N105_j2 x0 x2 x3 x8 n4 h4
 (fun n5 h5 =>
 Φ n5 h5)
 (fun h6 =>
 Kr h6))
def N105_l0_B (x0 : Sl) (x2 x3 : Int) (K0 Kr : Hp → Prop) (s : Sg.T [(8, .c (.int .i64))]) (h : Hp) (Φ : Sg.T [(8, .c (.int .i64))] → Hp → Prop) : Prop :=
 N105_l0_b x0 x2 x3 (fun x8 h => Φ x8 h) s h K0 Kr
def N105_l0 (x0 : Sl) (x2 x3 x8 : Int) (h : Hp) (K0 Kr : Hp → Prop) : Prop :=
 loopP (N105_l0_B x0 x2 x3 K0 Kr) x8 h
noncomputable def N105_l0_t : Xf := loopT [(0, .c (.slice)), (2, .c (.int .i64)), (3, .c (.int .i64))] [(8, .c (.int .i64))] (codeAt B105 [1, 0, 0]) fun F Q => N105_l0_B F.1 F.2.1 F.2.2 (fun h' => Q (.exit 0) (Sg.env [] ()) h') (fun h' => Q .ret (Sg.env [] ()) h')
theorem N105_l0_ok : Sound Tryz.prog Tryz.f105.ntmps N105_l0_t (codeAt B105 [1, 0]) := by
 refine loop_sound (fun e => match e with | .exit 0 => [] | .ret => [] | _ => []) (by kernel_rfl) ?_
 intro F Q s h Φ hb
 refine den_sound hE hm _ (.one (.two .leaf (.two .leaf (.two (.two (.ord [0, 1, 2, 3, 4, 5, 6, 7, 8, 9, 10, 11, 12, 13, 14, 15, 16, 17, 18, 19]) (.xf N105_j1_t)) (.xf N105_j2_t))))) _ _ _ (⟨annOk_leaf, ⟨annOk_leaf, ⟨⟨trivial, N105_j1_ok⟩, N105_j2_ok⟩⟩⟩) ?_
 refine cast ?_ hb
 kernel_rfl
def N105 (x0 : Sl) (x1 x2 x3 : Int) (h : Hp) (K : Hp → Prop) : Prop :=
 N105_l0 x0 x2 x3 x1 h
 (fun h0 =>
 K h0)
 (fun h1 =>
 K h1)
theorem S105 {x0 : Sl} {x1 x2 x3 : Int} {h : Hp} {K : Hp → Prop} (hn : N105 x0 x1 x2 x3 h K) : C105 x0 x1 x2 x3 h K := by
 refine calls_of_D Tryz.func105 (c := B105) rfl (by kernel_rfl) ?_
 refine den_sound hE hm _ (.two .leaf (.one (.xf N105_l0_t))) _ _ _ (⟨annOk_leaf, N105_l0_ok⟩) ?_
 refine cast ?_ hn
 kernel_rfl
end Go.Proofs.YtbbnpmikjdgdpaaGreat

set_option linter.unusedVariables false
set_option maxRecDepth 100000
namespace Go.Proofs.YtbbnpmikjdgdpaaGreat
open Go Go.Hw
noncomputable def B96 : Code := match Tryz.f96.body with | some c => c | none => .skip
def N96_l0_b (x0 : Sl) (x6 x7 x8 : Int) (Φ : Int → Hp → Prop) (x9 : Int) (h : Hp) (K0 : Hp → Prop) : Prop :=
 bif (decide (x9 ≥ 0)) then
 C105 x0 x9 x8 x6 h fun h0 =>
 Φ (IntKind.wrap .i64 (x9 - 1)) h0
 else
 K0 h
def N96_l0_B (x0 : Sl) (x6 x7 x8 : Int) (K0 : Hp → Prop) (s : Sg.T [(9, .c (.int .i64))]) (h : Hp) (Φ : Sg.T [(9, .c (.int .i64))] → Hp → Prop) : Prop :=
 N96_l0_b x0 x6 x7 x8 (fun x9 h => Φ x9 h) s h K0
def N96_l0 (x0 : Sl) (x6 x7 x8 x9 : Int) (h : Hp) (K0 : Hp → Prop) : Prop :=
 loopP (N96_l0_B x0 x6 x7 x8 K0) x9 h
noncomputable def N96_l0_t : Xf := loopT [(0, .c (.slice)), (6, .c (.int .i64)), (7, .c (.int .i64)), (8, .c (.int .i64))] [(9, .c (.int .i64))] (codeAt B96 [1, 1, 1, 0, 1, 0, 0]) fun F Q => N96_l0_B F.1 F.2.1 F.2.2.1 F.2.2.2 (fun h' => Q (.exit 0) (Sg.env [] ()) h')
theorem N96_l0_ok : Sound Tryz.prog Tryz.f96.ntmps N96_l0_t (codeAt B96 [1, 1, 1, 0, 1, 0]) := by
 refine loop_sound (fun e => match e with | .exit 0 => [] | _ => []) (by kernel_rfl) ?_
 intro F Q s h Φ hb
 refine den_sound hE hm _ .leaf _ _ _ (annOk_leaf) ?_
 refine cast ?_ hb
 kernel_rfl
def N96_l1_b (x0 : Sl) (x6 x7 : Int) (Φ : Int → Hp → Prop) (x10 : Int) (h : Hp) (K2 : Hp → Prop) : Prop :=
 bif (decide (x10 ≥ 0)) then
 idx (IntKind.wrap .i64 (x6 + x10)) x0.n <|
 nn x0.p fun a0 =>
 xI .u32 (cell h (a0.add ((IntKind.wrap .i64 (x6 + x10)).toNat * 1))) fun n0 =>
 idx x6 x0.n <|
 nn x0.p fun a1 =>
 xI .u32 (cell h (a1.add (x6.toNat * 1))) fun n1 =>
 idx x6 x0.n <|
 nn x0.p fun a2 =>
 st h (a2.add (x6.toNat * 1)) (.int .u32 n0) fun h0 =>
 idx (IntKind.wrap .i64 (x6 + x10)) x0.n <|
 nn x0.p fun a3 =>
 st h0 (a3.add ((IntKind.wrap .i64 (x6 + x10)).toNat * 1)) (.int .u32 n1) fun h1 =>
 C105 x0 x7 x10 x6 h1 fun h2 =>
 Φ (IntKind.wrap .i64 (x10 - 1)) h2
 else
 K2 h
def N96_l1_B (x0 : Sl) (x6 x7 : Int) (K2 : Hp → Prop) (s : Sg.T [(10, .c (.int .i64))]) (h : Hp) (Φ : Sg.T [(10, .c (.int .i64))] → Hp → Prop) : Prop :=
 N96_l1_b x0 x6 x7 (fun x10 h => Φ x10 h) s h K2
def N96_l1 (x0 : Sl) (x6 x7 x10 : Int) (h : Hp) (K2 : Hp → Prop) : Prop :=
 loopP (N96_l1_B x0 x6 x7 K2) x10 h
noncomputable def N96_l1_t : Xf := loopT [(0, .c (.slice)), (6, .c (.int .i64)), (7, .c (.int .i64))] [(10, .c (.int .i64))] (codeAt B96 [1, 1, 1, 1, 1, 0, 0]) fun F Q => N96_l1_B F.1 F.2.1 F.2.2 (fun h' => Q (.exit 2) (Sg.env [] ()) h')
theorem N96_l1_ok : Sound Tryz.prog Tryz.f96.ntmps N96_l1_t (codeAt B96 [1, 1, 1, 1, 1, 0]) := by
 refine loop_sound (fun e => match e with | .exit 2 => [] | _ => []) (by kernel_rfl) ?_
 intro F Q s h Φ hb
 refine den_sound hE hm _ (.two .leaf (.two (.one (.two (.ord [0, 1, 2, 3, 4, 5, 6, 7, 8, 9, 10, 11, 12, 13, 14, 15, 16, 17, 18, 19]) .leaf)) .leaf)) _ _ _ (⟨annOk_leaf, ⟨⟨trivial, annOk_leaf⟩, annOk_leaf⟩⟩) ?_
 refine cast ?_ hb
 kernel_rfl
def N96 (x0 : Sl) (x1 x2 : Int) (h : Hp) (K : Hp → Prop) : Prop :=
 N96_l0 x0 x1 0 (IntKind.wrap .i64 (x2 - x1)) (IntKind.wrap .i64 (Int.tdiv (IntKind.wrap .i64 ((IntKind.wrap .i64 (x2 - x1)) - 1)) 2)) h
 (fun h0 =>
 N96_l1 x0 x1 0 (IntKind.wrap .i64 ((IntKind.wrap .i64 (x2 - x1)) - 1)) h0
 (fun h1 =>
 K h1))
theorem S96 {x0 : Sl} {x1 x2 : Int} {h : Hp} {K : Hp → Prop} (hn : N96 x0 x1 x2 h K) : C96 x0 x1 x2 h K := by
 refine calls_of_D Tryz.func96 (c := B96) rfl (by kernel_rfl) ?_
 refine den_sound hE hm _ (.two .leaf (.two .leaf (.two .leaf (.two (.two .leaf (.one (.xf N96_l0_t))) (.two .leaf (.one (.xf N96_l1_t))))))) _ _ _ (⟨annOk_leaf, ⟨annOk_leaf, ⟨annOk_leaf, ⟨⟨annOk_leaf, N96_l0_ok⟩, ⟨annOk_leaf, N96_l1_ok⟩⟩⟩⟩⟩) ?_
 refine cast ?_ hn
 kernel_rfl
end Go.Proofs.YtbbnpmikjdgdpaaGreat

/-
 The sort of a row of uint32, first part: rows, exchanges, the insertion sort, the heap sort, as the plain functions of the kit's sort (Derived.Sort.Defs) have them.
-/
set_option linter.unusedSimpArgs false
set_option linter.unusedVariables false
namespace Go.Proofs.YtbbnpmikjdgdpaaGreat
open Go Go.Hw
def ur (d : Array Int) : List Value := d.toList.map fun n => .int .u32 n
abbrev UA (s : Sl) (d : Array Int) : Asn := Hw.own 25 1 s (ur d)
theorem ur_len (d : Array Int) : (ur d).length = d.size := by simp [ur]
theorem ur_get {d : Array Int} {i : Nat} (hi : i < d.size) : (ur d)[i]? = some (.int .u32 d[i]!) := by
 unfold ur
 rw [List.getElem?_map]
 simp [hi]
theorem ur_set (d : Array Int) (i : Nat) (v : Int) : (ur d).set i (.int .u32 v) = ur (d.setIfInBounds i v) := by
 unfold ur
 rw [Array.toList_setIfInBounds, List.map_set]
section
variable {L : List Asn} {s : Sl} {d : Array Int} {h : Hp}
theorem uaN (hs : Sat (L ++ [UA s d]) h) : s.n = d.size := by
 have := (hs.own 0 rfl).1; rw [ur_len] at this; omega
theorem rdU {x : Int} {i : Nat} {F : Int → Prop} (hs : Sat (L ++ [UA s d]) h) (hx : x = i) (hi : i < d.size) (hF : F d[i]!) : idx x s.n (nn s.p fun a => xI .u32 (cell h (a.add (x.toNat * 1))) F) := by
 have hn := uaN hs
 subst hx
 refine idx_of (by omega) (by omega) ?_
 rw [Int.toNat_natCast, Nat.mul_one]
 exact hs.oI 0 rfl (ur_get hi) hF
theorem stU {x v : Int} {i : Nat} {F : Hp → Prop} (hs : Sat (L ++ [UA s d]) h) (hx : x = i) (hi : i < d.size) (hF : ∀ h', Sat (L ++ [UA s (d.setIfInBounds i v)]) h' → F h') : idx x s.n (nn s.p fun a => st h (a.add (x.toNat * 1)) (.int .u32 v) F) := by
 have hn := uaN hs
 subst hx
 refine idx_of (by omega) (by omega) ?_
 rw [Int.toNat_natCast, Nat.mul_one]
 obtain ⟨b, hp, _⟩ := hs.cel 0 rfl (ur_get hi)
 rw [hp]
 simp only [nn_some']
 refine hs.stO 0 rfl (k := i) (by rw [ur_len]; exact hi) rfl hp ?_
 intro h1 hs1
 rw [ur_set] at hs1
 exact hF h1 hs1
theorem swU {x y : Int} {i j : Nat} {F : Hp → Prop} (hs : Sat (L ++ [UA s d]) h) (hx : x = i) (hy : y = j) (hi : i < d.size) (hj : j < d.size) (hF : ∀ h', Sat (L ++ [UA s (Sort.swp d i j)]) h' → F h') :
  idx y s.n (nn s.p fun a => xI .u32 (cell h (a.add (y.toNat * 1))) fun n2 => idx x s.n (nn s.p fun a => xI .u32 (cell h (a.add (x.toNat * 1))) fun n3 =>
   idx x s.n (nn s.p fun a => st h (a.add (x.toNat * 1)) (.int .u32 n2) fun h1 => idx y s.n (nn s.p fun a => st h1 (a.add (y.toNat * 1)) (.int .u32 n3) F)))) := by
 refine rdU hs hy hj ?_
 refine rdU hs hx hi ?_
 refine stU hs hx hi fun h1 hs1 => ?_
 exact stU hs1 hy (by simpa using hj) fun h2 hs2 => hF h2 hs2
end
theorem swp_size (d : Array Int) (i j : Nat) : (Sort.swp d i j).size = d.size := by simp [Sort.swp]
theorem c_less {x y : Int} {h : Hp} {K : Bool → Hp → Prop} (hK : K (Sort.ltInt x y) h) : C101 x y h K := by
 apply S101; unfold N101
 apply S110; unfold N110
 have : (x != x) = false := by simp
 simp only [this, cond_false]
 exact hK
theorem insInner_size (a : Nat) : ∀ (j : Nat) (d : Array Int), (Sort.insInner Sort.ltInt a j d).size = d.size
 | 0, d => rfl
 | j + 1, d => by
  rw [Sort.insInner]
  split
  ·rw [insInner_size a j, swp_size]
  ·rfl
theorem c_insInner {L : List Asn} {s : Sl} {a : Nat} {b i : Int} {j : Nat} {d : Array Int} {h : Hp} {K : Hp → Prop} (hs : Sat (L ++ [UA s d]) h) (hj : j < d.size) (hd : d.size ≤ 1099511627776)
  (hK : ∀ h', Sat (L ++ [UA s (Sort.insInner Sort.ltInt a j d)]) h' → K h') : N95_l1 s (a : Int) b i (j : Int) h K := by
 unfold N95_l1
 refine loopP_inv (fun (x : Int) hc => ∃ (k : Nat) (e : Array Int), x = k ∧ k ≤ j ∧ e.size = d.size ∧ Sort.insInner Sort.ltInt a k e = Sort.insInner Sort.ltInt a j d ∧ Sat (L ++ [UA s e]) hc) (fun x _ => x.toNat) ?_ ⟨j, d, rfl, Nat.le_refl _, rfl, rfl, hs⟩
 rintro x hc ⟨k, e, rfl, hk, he, hr, hs⟩
 unfold N95_l1_B N95_l1_b
 dsimp only
 by_cases hka : a < k
 ·have : decide ((k : Int) > (a : Int)) = true := decide_eq_true (by omega)
  rw [this, cond_true]
  obtain ⟨q, rfl⟩ : ∃ q, k = q + 1 := ⟨k - 1, by omega⟩
  have e1 : IntKind.wrap .i64 (((q + 1 : Nat) : Int) - 1) = (q : Int) := by rw [wi64i (by omega) (by omega)]; omega
  rw [e1]
  refine rdU hs rfl (by omega) ?_
  refine rdU hs rfl (by omega) ?_
  refine c_less ?_
  rw [Sort.insInner] at hr
  cases hl : Sort.ltInt e[q + 1]! e[q]! with
  | true =>
   rw [cond_true]
   rw [hl, if_pos (by simpa using hka)] at hr
   refine swU hs rfl rfl (by omega) (by omega) fun h1 hs1 => ?_
   exact ⟨⟨q, _, rfl, by omega, by rw [swp_size]; exact he, hr, hs1⟩, by simp only [Int.toNat_natCast]; omega⟩
  | false =>
   rw [cond_false]
   rw [hl, Bool.and_false, if_neg (by decide)] at hr
   refine hK hc ?_
   rw [← hr]; exact hs
 ·have : decide ((k : Int) > (a : Int)) = false := decide_eq_false (by omega)
  rw [this, cond_false]
  refine hK hc ?_
  rw [← hr]
  cases k with
  | zero => exact hs
  | succ q => rw [Sort.insInner, if_neg (by simp; omega)]; exact hs
theorem c_ins {L : List Asn} {s : Sl} {a b : Nat} {d : Array Int} {h : Hp} {K : Hp → Prop} (hs : Sat (L ++ [UA s d]) h) (hb : b ≤ d.size) (hab : a ≤ b) (hd : d.size ≤ 1099511627776)
  (hK : ∀ h', Sat (L ++ [UA s (Sort.insertionSort Sort.ltInt d a b)]) h' → K h') : C95 s (a : Int) (b : Int) h K := by
 apply S95; unfold N95 N95_l0
 have e0 : IntKind.wrap .i64 ((a : Int) + 1) = ((a + 1 : Nat) : Int) := by rw [wi64i (by omega) (by omega)]; omega
 rw [e0]
 refine loopP_inv (fun (x : Int) hc => ∃ (i : Nat) (e : Array Int), x = i ∧ i ≤ d.size + 1 ∧ e.size = d.size ∧ Sort.insOuter Sort.ltInt a b i e = Sort.insertionSort Sort.ltInt d a b ∧ Sat (L ++ [UA s e]) hc) (fun x _ => d.size + 1 - x.toNat) ?_ ⟨a + 1, d, rfl, by omega, rfl, rfl, hs⟩
 rintro x hc ⟨i, e, rfl, hi, he, hr, hs⟩
 unfold N95_l0_B N95_l0_b
 dsimp only
 rw [Sort.insOuter] at hr
 by_cases hib : i < b
 ·rw [if_pos hib] at hr
  have : decide ((i : Int) < (b : Int)) = true := decide_eq_true (by omega)
  rw [this, cond_true]
  refine c_insInner hs (by omega) (by omega) fun h1 hs1 => ?_
  have e1 : IntKind.wrap .i64 ((i : Int) + 1) = ((i + 1 : Nat) : Int) := by rw [wi64i (by omega) (by omega)]; omega
  rw [e1]
  exact ⟨⟨i + 1, _, rfl, by omega, by rw [insInner_size]; exact he, hr, hs1⟩, by simp only [Int.toNat_natCast]; omega⟩
 ·rw [if_neg hib] at hr
  have : decide ((i : Int) < (b : Int)) = false := decide_eq_false (by omega)
  rw [this, cond_false]
  refine hK hc ?_
  rw [← hr]; exact hs
end Go.Proofs.YtbbnpmikjdgdpaaGreat

set_option linter.unusedVariables false
set_option maxRecDepth 100000
namespace Go.Proofs.YtbbnpmikjdgdpaaGreat
open Go Go.Hw
noncomputable def B99 : Code := match Tryz.f99.body with | some c => c | none => .skip
def N99_l0_b (x0 : Sl) (Φ : Int → Int → Hp → Prop) (x6 x7 : Int) (h : Hp) (K0 : Hp → Prop) : Prop :=
 bif (decide (x6 < x7)) then
 idx x7 x0.n <|
 nn x0.p fun a0 =>
 xI .u32 (cell h (a0.add (x7.toNat * 1))) fun n0 =>
 idx x6 x0.n <|
 nn x0.p fun a1 =>
 xI .u32 (cell h (a1.add (x6.toNat * 1))) fun n1 =>
 idx x6 x0.n <|
 nn x0.p fun a2 =>
 st h (a2.add (x6.toNat * 1)) (.int .u32 n0) fun h0 =>
 idx x7 x0.n <|
 nn x0.p fun a3 =>
 st h0 (a3.add (x7.toNat * 1)) (.int .u32 n1) fun h1 =>
 Φ (IntKind.wrap .i64 (x6 + 1)) (IntKind.wrap .i64 (x7 - 1)) h1
 else
 K0 h
def N99_l0_B (x0 : Sl) (K0 : Hp → Prop) (s : Sg.T [(6, .c (.int .i64)), (7, .c (.int .i64))]) (h : Hp) (Φ : Sg.T [(6, .c (.int .i64)), (7, .c (.int .i64))] → Hp → Prop) : Prop :=
 N99_l0_b x0 (fun x6 x7 h => Φ (x6, x7) h) s.1 s.2 h K0
def N99_l0 (x0 : Sl) (x6 x7 : Int) (h : Hp) (K0 : Hp → Prop) : Prop :=
 loopP (N99_l0_B x0 K0) (x6, x7) h
noncomputable def N99_l0_t : Xf := loopT [(0, .c (.slice))] [(6, .c (.int .i64)), (7, .c (.int .i64))] (codeAt B99 [1, 1, 0, 0]) fun F Q => N99_l0_B F (fun h' => Q (.exit 0) (Sg.env [] ()) h')
theorem N99_l0_ok : Sound Tryz.prog Tryz.f99.ntmps N99_l0_t (codeAt B99 [1, 1, 0]) := by
 refine loop_sound (fun e => match e with | .exit 0 => [] | _ => []) (by kernel_rfl) ?_
 intro F Q s h Φ hb
 refine den_sound hE hm _ (.two .leaf (.one (.two (.ord [0, 1, 2, 3, 4, 5, 6, 7, 8, 9, 10, 11, 12, 13, 14, 15]) .leaf))) _ _ _ (⟨annOk_leaf, ⟨trivial, annOk_leaf⟩⟩) ?_
 refine cast ?_ hb
 kernel_rfl
def N99 (x0 : Sl) (x1 x2 : Int) (h : Hp) (K : Hp → Prop) : Prop :=
 N99_l0 x0 x1 (IntKind.wrap .i64 (x2 - 1)) h
 (fun h0 =>
 K h0)
theorem S99 {x0 : Sl} {x1 x2 : Int} {h : Hp} {K : Hp → Prop} (hn : N99 x0 x1 x2 h K) : C99 x0 x1 x2 h K := by
 refine calls_of_D Tryz.func99 (c := B99) rfl (by kernel_rfl) ?_
 refine den_sound hE hm _ (.two .leaf (.two .leaf (.one (.xf N99_l0_t)))) _ _ _ (⟨annOk_leaf, ⟨annOk_leaf, N99_l0_ok⟩⟩) ?_
 refine cast ?_ hn
 kernel_rfl
end Go.Proofs.YtbbnpmikjdgdpaaGreat

set_option linter.unusedVariables false
set_option maxRecDepth 100000
namespace Go.Proofs.YtbbnpmikjdgdpaaGreat
open Go Go.Hw
noncomputable def B103 : Code := match Tryz.f103.body with | some c => c | none => .skip
def N103_l0_b (x0 : Sl) (x1 x11 : Int) (Φ : Int → Hp → Prop) (x10 : Int) (h : Hp) (K0 : Int → Hp → Prop) : Prop :=
 bif (decide (x10 ≤ x11)) then
 idx x10 x0.n <|
 nn x0.p fun a0 =>
 xI .u32 (cell h (a0.add (x10.toNat * 1))) fun n0 =>
 idx x1 x0.n <|
 nn x0.p fun a1 =>
 xI .u32 (cell h (a1.add (x1.toNat * 1))) fun n1 =>
 C101 n0 n1 h fun b0 h0 =>
 bif b0 then
 Φ (IntKind.wrap .i64 (x10 + 1)) h0
 else
 K0 x10 h0
 else
 K0 x10 h
def N103_l0_B (x0 : Sl) (x1 x11 : Int) (K0 : Int → Hp → Prop) (s : Sg.T [(10, .c (.int .i64))]) (h : Hp) (Φ : Sg.T [(10, .c (.int .i64))] → Hp → Prop) : Prop :=
 N103_l0_b x0 x1 x11 (fun x10 h => Φ x10 h) s h K0
def N103_l0 (x0 : Sl) (x1 x11 x10 : Int) (h : Hp) (K0 : Int → Hp → Prop) : Prop :=
 loopP (N103_l0_B x0 x1 x11 K0) x10 h
noncomputable def N103_l0_t : Xf := loopT [(0, .c (.slice)), (1, .c (.int .i64)), (11, .c (.int .i64))] [(10, .c (.int .i64))] (codeAt B103 [1, 1, 1, 0, 0, 0]) fun F Q => N103_l0_B F.1 F.2.1 F.2.2 (fun o0 h' => Q (.exit 0) (Sg.env [(10, .c (.int .i64))] o0) h')
theorem N103_l0_ok : Sound Tryz.prog Tryz.f103.ntmps N103_l0_t (codeAt B103 [1, 1, 1, 0, 0]) := by
 refine loop_sound (fun e => match e with | .exit 0 => [10] | _ => []) (by kernel_rfl) ?_
 intro F Q s h Φ hb
 refine den_sound hE hm _ (.two (.two (.ord [0, 1, 2, 3, 4, 5, 6, 7, 8, 9, 10, 11, 12, 13]) .leaf) .leaf) _ _ _ (⟨⟨trivial, annOk_leaf⟩, annOk_leaf⟩) ?_
 refine cast ?_ hb
 kernel_rfl
def N103_l1_b (x0 : Sl) (x1 x10 : Int) (Φ : Int → Hp → Prop) (x11 : Int) (h : Hp) (K2 : Int → Hp → Prop) : Prop :=
 bif (decide (x10 ≤ x11)) then
 idx x11 x0.n <|
 nn x0.p fun a0 =>
 xI .u32 (cell h (a0.add (x11.toNat * 1))) fun n0 =>
 idx x1 x0.n <|
 nn x0.p fun a1 =>
 xI .u32 (cell h (a1.add (x1.toNat * 1))) fun n1 =>
 C101 n0 n1 h fun b0 h0 =>
 bif (!b0) then
 Φ (IntKind.wrap .i64 (x11 - 1)) h0
 else
 K2 x11 h0
 else
 K2 x11 h
def N103_l1_B (x0 : Sl) (x1 x10 : Int) (K2 : Int → Hp → Prop) (s : Sg.T [(11, .c (.int .i64))]) (h : Hp) (Φ : Sg.T [(11, .c (.int .i64))] → Hp → Prop) : Prop :=
 N103_l1_b x0 x1 x10 (fun x11 h => Φ x11 h) s h K2
def N103_l1 (x0 : Sl) (x1 x10 x11 : Int) (h : Hp) (K2 : Int → Hp → Prop) : Prop :=
 loopP (N103_l1_B x0 x1 x10 K2) x11 h
noncomputable def N103_l1_t : Xf := loopT [(0, .c (.slice)), (1, .c (.int .i64)), (10, .c (.int .i64))] [(11, .c (.int .i64))] (codeAt B103 [1, 1, 1, 1, 0, 0, 0]) fun F Q => N103_l1_B F.1 F.2.1 F.2.2 (fun o0 h' => Q (.exit 2) (Sg.env [(11, .c (.int .i64))] o0) h')
theorem N103_l1_ok : Sound Tryz.prog Tryz.f103.ntmps N103_l1_t (codeAt B103 [1, 1, 1, 1, 0, 0]) := by
 refine loop_sound (fun e => match e with | .exit 2 => [11] | _ => []) (by kernel_rfl) ?_
 intro F Q s h Φ hb
 refine den_sound hE hm _ (.two (.two (.ord [0, 1, 2, 3, 4, 5, 6, 7, 8, 9, 10, 11, 12, 13, 14]) .leaf) .leaf) _ _ _ (⟨⟨trivial, annOk_leaf⟩, annOk_leaf⟩) ?_
 refine cast ?_ hb
 kernel_rfl
def N103_l3_b (x0 : Sl) (x1 x11 : Int) (Φ : Int → Hp → Prop) (x10 : Int) (h : Hp) (K6 : Int → Hp → Prop) : Prop :=
 bif (decide (x10 ≤ x11)) then
 idx x10 x0.n <|
 nn x0.p fun a0 =>
 xI .u32 (cell h (a0.add (x10.toNat * 1))) fun n0 =>
 idx x1 x0.n <|
 nn x0.p fun a1 =>
 xI .u32 (cell h (a1.add (x1.toNat * 1))) fun n1 =>
 C101 n0 n1 h fun b0 h0 =>
 bif b0 then
 Φ (IntKind.wrap .i64 (x10 + 1)) h0
 else
 K6 x10 h0
 else
 K6 x10 h
def N103_l3_B (x0 : Sl) (x1 x11 : Int) (K6 : Int → Hp → Prop) (s : Sg.T [(10, .c (.int .i64))]) (h : Hp) (Φ : Sg.T [(10, .c (.int .i64))] → Hp → Prop) : Prop :=
 N103_l3_b x0 x1 x11 (fun x10 h => Φ x10 h) s h K6
def N103_l3 (x0 : Sl) (x1 x11 x10 : Int) (h : Hp) (K6 : Int → Hp → Prop) : Prop :=
 loopP (N103_l3_B x0 x1 x11 K6) x10 h
noncomputable def N103_l3_t : Xf := loopT [(0, .c (.slice)), (1, .c (.int .i64)), (11, .c (.int .i64))] [(10, .c (.int .i64))] (codeAt B103 [1, 1, 1, 1, 1, 1, 1, 1, 1, 0, 0, 0, 0, 0, 0, 0]) fun F Q => N103_l3_B F.1 F.2.1 F.2.2 (fun o0 h' => Q (.exit 6) (Sg.env [(10, .c (.int .i64))] o0) h')
theorem N103_l3_ok : Sound Tryz.prog Tryz.f103.ntmps N103_l3_t (codeAt B103 [1, 1, 1, 1, 1, 1, 1, 1, 1, 0, 0, 0, 0, 0, 0]) := by
 refine loop_sound (fun e => match e with | .exit 6 => [10] | _ => []) (by kernel_rfl) ?_
 intro F Q s h Φ hb
 refine den_sound hE hm _ (.two (.two (.ord [0, 1, 2, 3, 4, 5, 6, 7, 8, 9, 10, 11, 12, 13]) .leaf) .leaf) _ _ _ (⟨⟨trivial, annOk_leaf⟩, annOk_leaf⟩) ?_
 refine cast ?_ hb
 kernel_rfl
def N103_l4_b (x0 : Sl) (x1 x10 : Int) (Φ : Int → Hp → Prop) (x11 : Int) (h : Hp) (K8 : Int → Hp → Prop) : Prop :=
 bif (decide (x10 ≤ x11)) then
 idx x11 x0.n <|
 nn x0.p fun a0 =>
 xI .u32 (cell h (a0.add (x11.toNat * 1))) fun n0 =>
 idx x1 x0.n <|
 nn x0.p fun a1 =>
 xI .u32 (cell h (a1.add (x1.toNat * 1))) fun n1 =>
 C101 n0 n1 h fun b0 h0 =>
 bif (!b0) then
 Φ (IntKind.wrap .i64 (x11 - 1)) h0
 else
 K8 x11 h0
 else
 K8 x11 h
def N103_l4_B (x0 : Sl) (x1 x10 : Int) (K8 : Int → Hp → Prop) (s : Sg.T [(11, .c (.int .i64))]) (h : Hp) (Φ : Sg.T [(11, .c (.int .i64))] → Hp → Prop) : Prop :=
 N103_l4_b x0 x1 x10 (fun x11 h => Φ x11 h) s h K8
def N103_l4 (x0 : Sl) (x1 x10 x11 : Int) (h : Hp) (K8 : Int → Hp → Prop) : Prop :=
 loopP (N103_l4_B x0 x1 x10 K8) x11 h
noncomputable def N103_l4_t : Xf := loopT [(0, .c (.slice)), (1, .c (.int .i64)), (10, .c (.int .i64))] [(11, .c (.int .i64))] (codeAt B103 [1, 1, 1, 1, 1, 1, 1, 1, 1, 0, 0, 0, 0, 1, 0, 0, 0]) fun F Q => N103_l4_B F.1 F.2.1 F.2.2 (fun o0 h' => Q (.exit 8) (Sg.env [(11, .c (.int .i64))] o0) h')
theorem N103_l4_ok : Sound Tryz.prog Tryz.f103.ntmps N103_l4_t (codeAt B103 [1, 1, 1, 1, 1, 1, 1, 1, 1, 0, 0, 0, 0, 1, 0, 0]) := by
 refine loop_sound (fun e => match e with | .exit 8 => [11] | _ => []) (by kernel_rfl) ?_
 intro F Q s h Φ hb
 refine den_sound hE hm _ (.two (.two (.ord [0, 1, 2, 3, 4, 5, 6, 7, 8, 9, 10, 11, 12, 13, 14]) .leaf) .leaf) _ _ _ (⟨⟨trivial, annOk_leaf⟩, annOk_leaf⟩) ?_
 refine cast ?_ hb
 kernel_rfl
def N103_l2_b (x0 : Sl) (x1 : Int) (Φ : Int → Int → Hp → Prop) (x10 x11 : Int) (h : Hp) (K4 : Int → Hp → Prop) : Prop :=
 N103_l3 x0 x1 x11 x10 h
 (fun n0 h0 =>
 N103_l4 x0 x1 n0 x11 h0
 (fun n1 h1 =>
 bif (decide (n0 > n1)) then
 K4 n1 h1
 else
 idx n1 x0.n <|
 nn x0.p fun a0 =>
 xI .u32 (cell h1 (a0.add (n1.toNat * 1))) fun n2 =>
 idx n0 x0.n <|
 nn x0.p fun a1 =>
 xI .u32 (cell h1 (a1.add (n0.toNat * 1))) fun n3 =>
 idx n0 x0.n <|
 nn x0.p fun a2 =>
 st h1 (a2.add (n0.toNat * 1)) (.int .u32 n2) fun h2 =>
 idx n1 x0.n <|
 nn x0.p fun a3 =>
 st h2 (a3.add (n1.toNat * 1)) (.int .u32 n3) fun h3 =>
 Φ (IntKind.wrap .i64 (n0 + 1)) (IntKind.wrap .i64 (n1 - 1)) h3))
def N103_l2_B (x0 : Sl) (x1 : Int) (K4 : Int → Hp → Prop) (s : Sg.T [(10, .c (.int .i64)), (11, .c (.int .i64))]) (h : Hp) (Φ : Sg.T [(10, .c (.int .i64)), (11, .c (.int .i64))] → Hp → Prop) : Prop :=
 N103_l2_b x0 x1 (fun x10 x11 h => Φ (x10, x11) h) s.1 s.2 h K4
def N103_l2 (x0 : Sl) (x1 x10 x11 : Int) (h : Hp) (K4 : Int → Hp → Prop) : Prop :=
 loopP (N103_l2_B x0 x1 K4) (x10, x11) h
noncomputable def N103_l2_t : Xf := loopT [(0, .c (.slice)), (1, .c (.int .i64))] [(10, .c (.int .i64)), (11, .c (.int .i64))] (codeAt B103 [1, 1, 1, 1, 1, 1, 1, 1, 1, 0, 0, 0]) fun F Q => N103_l2_B F.1 F.2 (fun o0 h' => Q (.exit 4) (Sg.env [(11, .c (.int .i64))] o0) h')
theorem N103_l2_ok : Sound Tryz.prog Tryz.f103.ntmps N103_l2_t (codeAt B103 [1, 1, 1, 1, 1, 1, 1, 1, 1, 0, 0]) := by
 refine loop_sound (fun e => match e with | .exit 4 => [11] | _ => []) (by kernel_rfl) ?_
 intro F Q s h Φ hb
 refine den_sound hE hm _ (.one (.two (.one (.xf N103_l3_t)) (.two (.one (.xf N103_l4_t)) (.two .leaf (.two (.ord [0, 1, 2, 3, 4, 5, 6, 7, 8, 9, 10, 11, 12, 13, 14, 15]) .leaf))))) _ _ _ (⟨N103_l3_ok, ⟨N103_l4_ok, ⟨annOk_leaf, ⟨trivial, annOk_leaf⟩⟩⟩⟩) ?_
 refine cast ?_ hb
 kernel_rfl
def N103 (x0 : Sl) (x1 x2 x3 : Int) (h : Hp) (K : Int → Bool → Hp → Prop) : Prop :=
 idx x3 x0.n <|
 nn x0.p fun a0 =>
 xI .u32 (cell h (a0.add (x3.toNat * 1))) fun n0 =>
 idx x1 x0.n <|
 nn x0.p fun a1 =>
 xI .u32 (cell h (a1.add (x1.toNat * 1))) fun n1 =>
 idx x1 x0.n <|
 nn x0.p fun a2 =>
 st h (a2.add (x1.toNat * 1)) (.int .u32 n0) fun h0 =>
 idx x3 x0.n <|
 nn x0.p fun a3 =>
 st h0 (a3.add (x3.toNat * 1)) (.int .u32 n1) fun h1 =>
 N103_l0 x0 x1 (IntKind.wrap .i64 (x2 - 1)) (IntKind.wrap .i64 (x1 + 1)) h1
 (fun n2 h2 =>
 N103_l1 x0 x1 n2 (IntKind.wrap .i64 (x2 - 1)) h2
 (fun n3 h3 =>
 bif (decide (n2 > n3)) then
 idx x1 x0.n <|
 nn x0.p fun a4 =>
 xI .u32 (cell h3 (a4.add (x1.toNat * 1))) fun n4 =>
 idx n3 x0.n <|
 nn x0.p fun a5 =>
 xI .u32 (cell h3 (a5.add (n3.toNat * 1))) fun n5 =>
 idx n3 x0.n <|
 nn x0.p fun a6 =>
 st h3 (a6.add (n3.toNat * 1)) (.int .u32 n4) fun h4 =>
 idx x1 x0.n <|
 nn x0.p fun a7 =>
 st h4 (a7.add (x1.toNat * 1)) (.int .u32 n5) fun h5 =>
 K n3 true h5
 else
 idx n3 x0.n <|
 nn x0.p fun a8 =>
 xI .u32 (cell h3 (a8.add (n3.toNat * 1))) fun n6 =>
 idx n2 x0.n <|
 nn x0.p fun a9 =>
 xI .u32 (cell h3 (a9.add (n2.toNat * 1))) fun n7 =>
 idx n2 x0.n <|
 nn x0.p fun a10 =>
 st h3 (a10.add (n2.toNat * 1)) (.int .u32 n6) fun h6 =>
 idx n3 x0.n <|
 nn x0.p fun a11 =>
 st h6 (a11.add (n3.toNat * 1)) (.int .u32 n7) fun h7 =>
 N103_l2 x0 x1 (IntKind.wrap .i64 (n2 + 1)) (IntKind.wrap .i64 (n3 - 1)) h7
 (fun n8 h8 =>
 idx x1 x0.n <|
 nn x0.p fun a12 =>
 xI .u32 (cell h8 (a12.add (x1.toNat * 1))) fun n9 =>
 idx n8 x0.n <|
 nn x0.p fun a13 =>
 xI .u32 (cell h8 (a13.add (n8.toNat * 1))) fun n10 =>
 idx n8 x0.n <|
 nn x0.p fun a14 =>
 st h8 (a14.add (n8.toNat * 1)) (.int .u32 n9) fun h9 =>
 idx x1 x0.n <|
 nn x0.p fun a15 =>
 st h9 (a15.add (x1.toNat * 1)) (.int .u32 n10) fun h10 =>
 K n8 false h10)))
theorem S103 {x0 : Sl} {x1 x2 x3 : Int} {h : Hp} {K : Int → Bool → Hp → Prop} (hn : N103 x0 x1 x2 x3 h K) : C103 x0 x1 x2 x3 h K := by
 refine calls_of_D Tryz.func103 (c := B103) rfl (by kernel_rfl) ?_
 refine den_sound hE hm _ (.two .leaf (.two (.ord [0, 1, 2, 3, 4, 5, 6, 7, 8, 9, 10, 11, 12, 13, 14, 15]) (.two .leaf (.two (.one (.xf N103_l0_t)) (.two (.one (.xf N103_l1_t)) (.two (.two .leaf (.two (.two (.ord [0, 1, 2, 3, 4, 5, 6, 7, 8, 9, 10, 11, 12, 13, 14, 15]) .leaf) .leaf)) (.two (.ord [0, 1, 2, 3, 4, 5, 6, 7, 8, 9, 10, 11, 12, 13, 14, 15]) (.two .leaf (.two .leaf (.two (.one (.xf N103_l2_t)) (.two (.ord [0, 1, 2, 3, 4, 5, 6, 7, 8, 9, 10, 11, 12, 13, 14, 15]) .leaf))))))))))) _ _ _ (⟨annOk_leaf, ⟨trivial, ⟨annOk_leaf, ⟨N103_l0_ok, ⟨N103_l1_ok, ⟨⟨annOk_leaf, ⟨⟨trivial, annOk_leaf⟩, annOk_leaf⟩⟩, ⟨trivial, ⟨annOk_leaf, ⟨annOk_leaf, ⟨N103_l2_ok, ⟨trivial, annOk_leaf⟩⟩⟩⟩⟩⟩⟩⟩⟩⟩⟩) ?_
 refine cast ?_ hn
 kernel_rfl
end Go.Proofs.YtbbnpmikjdgdpaaGreat

set_option linter.unusedVariables false
set_option maxRecDepth 100000
namespace Go.Proofs.YtbbnpmikjdgdpaaGreat
open Go Go.Hw
noncomputable def B102 : Code := match Tryz.f102.body with | some c => c | none => .skip
def N102_l1_b (x0 : Sl) (x1 x10 : Int) (Φ : Int → Hp → Prop) (x9 : Int) (h : Hp) (K2 : Int → Hp → Prop) : Prop :=
 bif (decide (x9 ≤ x10)) then
 idx x1 x0.n <|
 nn x0.p fun a0 =>
 xI .u32 (cell h (a0.add (x1.toNat * 1))) fun n0 =>
 idx x9 x0.n <|
 nn x0.p fun a1 =>
 xI .u32 (cell h (a1.add (x9.toNat * 1))) fun n1 =>
 C101 n0 n1 h fun b0 h0 =>
 bif (!b0) then
 Φ (IntKind.wrap .i64 (x9 + 1)) h0
 else
 K2 x9 h0
 else
 K2 x9 h
def N102_l1_B (x0 : Sl) (x1 x10 : Int) (K2 : Int → Hp → Prop) (s : Sg.T [(9, .c (.int .i64))]) (h : Hp) (Φ : Sg.T [(9, .c (.int .i64))] → Hp → Prop) : Prop :=
 N102_l1_b x0 x1 x10 (fun x9 h => Φ x9 h) s h K2
def N102_l1 (x0 : Sl) (x1 x10 x9 : Int) (h : Hp) (K2 : Int → Hp → Prop) : Prop :=
 loopP (N102_l1_B x0 x1 x10 K2) x9 h
noncomputable def N102_l1_t : Xf := loopT [(0, .c (.slice)), (1, .c (.int .i64)), (10, .c (.int .i64))] [(9, .c (.int .i64))] (codeAt B102 [1, 1, 1, 0, 0, 0, 0, 0, 0, 0]) fun F Q => N102_l1_B F.1 F.2.1 F.2.2 (fun o0 h' => Q (.exit 2) (Sg.env [(9, .c (.int .i64))] o0) h')
theorem N102_l1_ok : Sound Tryz.prog Tryz.f102.ntmps N102_l1_t (codeAt B102 [1, 1, 1, 0, 0, 0, 0, 0, 0]) := by
 refine loop_sound (fun e => match e with | .exit 2 => [9] | _ => []) (by kernel_rfl) ?_
 intro F Q s h Φ hb
 refine den_sound hE hm _ (.two (.two (.ord [0, 1, 2, 3, 4, 5, 6, 7, 8, 9, 10, 11, 12, 13, 14]) .leaf) .leaf) _ _ _ (⟨⟨trivial, annOk_leaf⟩, annOk_leaf⟩) ?_
 refine cast ?_ hb
 kernel_rfl
def N102_l2_b (x0 : Sl) (x1 x9 : Int) (Φ : Int → Hp → Prop) (x10 : Int) (h : Hp) (K4 : Int → Hp → Prop) : Prop :=
 bif (decide (x9 ≤ x10)) then
 idx x1 x0.n <|
 nn x0.p fun a0 =>
 xI .u32 (cell h (a0.add (x1.toNat * 1))) fun n0 =>
 idx x10 x0.n <|
 nn x0.p fun a1 =>
 xI .u32 (cell h (a1.add (x10.toNat * 1))) fun n1 =>
 C101 n0 n1 h fun b0 h0 =>
 bif b0 then
 Φ (IntKind.wrap .i64 (x10 - 1)) h0
 else
 K4 x10 h0
 else
 K4 x10 h
def N102_l2_B (x0 : Sl) (x1 x9 : Int) (K4 : Int → Hp → Prop) (s : Sg.T [(10, .c (.int .i64))]) (h : Hp) (Φ : Sg.T [(10, .c (.int .i64))] → Hp → Prop) : Prop :=
 N102_l2_b x0 x1 x9 (fun x10 h => Φ x10 h) s h K4
def N102_l2 (x0 : Sl) (x1 x9 x10 : Int) (h : Hp) (K4 : Int → Hp → Prop) : Prop :=
 loopP (N102_l2_B x0 x1 x9 K4) x10 h
noncomputable def N102_l2_t : Xf := loopT [(0, .c (.slice)), (1, .c (.int .i64)), (9, .c (.int .i64))] [(10, .c (.int .i64))] (codeAt B102 [1, 1, 1, 0, 0, 0, 0, 1, 0, 0, 0]) fun F Q => N102_l2_B F.1 F.2.1 F.2.2 (fun o0 h' => Q (.exit 4) (Sg.env [(10, .c (.int .i64))] o0) h')
theorem N102_l2_ok : Sound Tryz.prog Tryz.f102.ntmps N102_l2_t (codeAt B102 [1, 1, 1, 0, 0, 0, 0, 1, 0, 0]) := by
 refine loop_sound (fun e => match e with | .exit 4 => [10] | _ => []) (by kernel_rfl) ?_
 intro F Q s h Φ hb
 refine den_sound hE hm _ (.two (.two (.ord [0, 1, 2, 3, 4, 5, 6, 7, 8, 9, 10, 11, 12, 13]) .leaf) .leaf) _ _ _ (⟨⟨trivial, annOk_leaf⟩, annOk_leaf⟩) ?_
 refine cast ?_ hb
 kernel_rfl
def N102_l0_b (x0 : Sl) (x1 : Int) (Φ : Int → Int → Hp → Prop) (x9 x10 : Int) (h : Hp) (K0 : Int → Hp → Prop) : Prop :=
 N102_l1 x0 x1 x10 x9 h
 (fun n0 h0 =>
 N102_l2 x0 x1 n0 x10 h0
 (fun n1 h1 =>
 bif (decide (n0 > n1)) then
 K0 n0 h1
 else
 idx n1 x0.n <|
 nn x0.p fun a0 =>
 xI .u32 (cell h1 (a0.add (n1.toNat * 1))) fun n2 =>
 idx n0 x0.n <|
 nn x0.p fun a1 =>
 xI .u32 (cell h1 (a1.add (n0.toNat * 1))) fun n3 =>
 idx n0 x0.n <|
 nn x0.p fun a2 =>
 st h1 (a2.add (n0.toNat * 1)) (.int .u32 n2) fun h2 =>
 idx n1 x0.n <|
 nn x0.p fun a3 =>
 st h2 (a3.add (n1.toNat * 1)) (.int .u32 n3) fun h3 =>
 Φ (IntKind.wrap .i64 (n0 + 1)) (IntKind.wrap .i64 (n1 - 1)) h3))
def N102_l0_B (x0 : Sl) (x1 : Int) (K0 : Int → Hp → Prop) (s : Sg.T [(9, .c (.int .i64)), (10, .c (.int .i64))]) (h : Hp) (Φ : Sg.T [(9, .c (.int .i64)), (10, .c (.int .i64))] → Hp → Prop) : Prop :=
 N102_l0_b x0 x1 (fun x9 x10 h => Φ (x9, x10) h) s.1 s.2 h K0
def N102_l0 (x0 : Sl) (x1 x9 x10 : Int) (h : Hp) (K0 : Int → Hp → Prop) : Prop :=
 loopP (N102_l0_B x0 x1 K0) (x9, x10) h
noncomputable def N102_l0_t : Xf := loopT [(0, .c (.slice)), (1, .c (.int .i64))] [(9, .c (.int .i64)), (10, .c (.int .i64))] (codeAt B102 [1, 1, 1, 0, 0, 0]) fun F Q => N102_l0_B F.1 F.2 (fun o0 h' => Q (.exit 0) (Sg.env [(9, .c (.int .i64))] o0) h')
theorem N102_l0_ok : Sound Tryz.prog Tryz.f102.ntmps N102_l0_t (codeAt B102 [1, 1, 1, 0, 0]) := by
 refine loop_sound (fun e => match e with | .exit 0 => [9] | _ => []) (by kernel_rfl) ?_
 intro F Q s h Φ hb
 refine den_sound hE hm _ (.one (.two (.one (.xf N102_l1_t)) (.two (.one (.xf N102_l2_t)) (.two .leaf (.two (.ord [0, 1, 2, 3, 4, 5, 6, 7, 8, 9, 10, 11, 12, 13, 14, 15]) .leaf))))) _ _ _ (⟨N102_l1_ok, ⟨N102_l2_ok, ⟨annOk_leaf, ⟨trivial, annOk_leaf⟩⟩⟩⟩) ?_
 refine cast ?_ hb
 kernel_rfl
def N102 (x0 : Sl) (x1 x2 x3 : Int) (h : Hp) (K : Int → Hp → Prop) : Prop :=
 idx x3 x0.n <|
 nn x0.p fun a0 =>
 xI .u32 (cell h (a0.add (x3.toNat * 1))) fun n0 =>
 idx x1 x0.n <|
 nn x0.p fun a1 =>
 xI .u32 (cell h (a1.add (x1.toNat * 1))) fun n1 =>
 idx x1 x0.n <|
 nn x0.p fun a2 =>
 st h (a2.add (x1.toNat * 1)) (.int .u32 n0) fun h0 =>
 idx x3 x0.n <|
 nn x0.p fun a3 =>
 st h0 (a3.add (x3.toNat * 1)) (.int .u32 n1) fun h1 =>
 N102_l0 x0 x1 (IntKind.wrap .i64 (x1 + 1)) (IntKind.wrap .i64 (x2 - 1)) h1
 (fun n2 h2 =>
 K n2 h2)
theorem S102 {x0 : Sl} {x1 x2 x3 : Int} {h : Hp} {K : Int → Hp → Prop} (hn : N102 x0 x1 x2 x3 h K) : C102 x0 x1 x2 x3 h K := by
 refine calls_of_D Tryz.func102 (c := B102) rfl (by kernel_rfl) ?_
 refine den_sound hE hm _ (.two .leaf (.two (.ord [0, 1, 2, 3, 4, 5, 6, 7, 8, 9, 10, 11, 12, 13, 14, 15]) (.two .leaf (.two (.one (.xf N102_l0_t)) .leaf)))) _ _ _ (⟨annOk_leaf, ⟨trivial, ⟨annOk_leaf, ⟨N102_l0_ok, annOk_leaf⟩⟩⟩⟩) ?_
 refine cast ?_ hn
 kernel_rfl
end Go.Proofs.YtbbnpmikjdgdpaaGreat

/-
 The sort of a row of uint32, second part: the heap sort, the reversed range, the scans and the partitions.
-/
set_option linter.unusedSimpArgs false
set_option linter.unusedVariables false
namespace Go.Proofs.YtbbnpmikjdgdpaaGreat
open Go Go.Hw
theorem siftDown_size : ∀ (n hi first root : Nat) (d : Array Int), hi - root ≤ n → (Sort.siftDown Sort.ltInt hi first root d).size = d.size := by
 intro n
 induction n with
 | zero =>
  intro hi first root d hn
  rw [Sort.siftDown, dif_pos (by omega)]
 | succ n ih =>
  intro hi first root d hn
  rw [Sort.siftDown]
  split
  ·rfl
  ·split
   ·split
    ·rfl
    ·split
     ·rw [ih _ _ _ _ (by omega), swp_size]
     ·rfl
   ·split
    ·rfl
    ·rw [ih _ _ _ _ (by omega), swp_size]
theorem wrn {n : Int} {k : Nat} (h : n = k) (hk : k ≤ 4611686018427387904) : IntKind.wrap .i64 n = (k : Int) := by subst h; exact wi64i (by omega) (by omega)
theorem c_sift {L : List Asn} {s : Sl} {hi first lo : Nat} {d : Array Int} {h : Hp} {K : Hp → Prop} (hs : Sat (L ++ [UA s d]) h) (hf : first + hi ≤ d.size) (hd : d.size ≤ 1099511627776) (hlo : lo ≤ 1099511627776)
  (hK : ∀ h', Sat (L ++ [UA s (Sort.siftDown Sort.ltInt hi first lo d)]) h' → K h') : C105 s (lo : Int) (hi : Int) (first : Int) h K := by
 apply S105; unfold N105 N105_l0
 refine loopP_inv (fun (x : Int) hc => ∃ (r : Nat) (e : Array Int), x = r ∧ r ≤ 1099511627776 ∧ e.size = d.size ∧ Sort.siftDown Sort.ltInt hi first r e = Sort.siftDown Sort.ltInt hi first lo d ∧ Sat (L ++ [UA s e]) hc) (fun x _ => hi - x.toNat) ?_ ⟨lo, d, rfl, hlo, rfl, rfl, hs⟩
 rintro x hc ⟨r, e, rfl, hrb, he, hr, hs⟩
 unfold N105_l0_B N105_l0_b
 dsimp only
 have w1 : IntKind.wrap .i64 (IntKind.wrap .i64 (2 * (r : Int)) + 1) = ((2 * r + 1 : Nat) : Int) := by
  rw [wrn (n := 2 * (r : Int)) (k := 2 * r) (by omega) (by omega), wrn (k := 2 * r + 1) (by omega) (by omega)]
 rw [w1, wrn (n := ((2 * r + 1 : Nat) : Int) + 1) (k := 2 * r + 2) (by omega) (by omega)]
 rw [Sort.siftDown] at hr
 by_cases h1 : 2 * r + 1 ≥ hi
 ·rw [dif_pos h1] at hr
  rw [show decide (((2 * r + 1 : Nat) : Int) ≥ (hi : Int)) = true from decide_eq_true (by omega), cond_true]
  refine hK hc ?_
  rw [← hr]; exact hs
 ·rw [dif_neg h1] at hr
  rw [show decide (((2 * r + 1 : Nat) : Int) ≥ (hi : Int)) = false from decide_eq_false (by omega), cond_false]
  have j2 : ∀ (c : Nat), r < c → c < hi → c ≤ 2 * r + 2 → (if (!Sort.ltInt e[first + r]! e[first + c]!) = true then e else Sort.siftDown Sort.ltInt hi first c (Sort.swp e (first + r) (first + c))) = Sort.siftDown Sort.ltInt hi first lo d →
    N105_j2 s (hi : Int) (first : Int) (r : Int) (c : Int) hc (fun n h2 => (∃ (r : Nat) (e : Array Int), n = r ∧ r ≤ 1099511627776 ∧ e.size = d.size ∧ Sort.siftDown Sort.ltInt hi first r e = Sort.siftDown Sort.ltInt hi first lo d ∧ Sat (L ++ [UA s e]) h2) ∧ hi - n.toNat < hi - ((r : Nat) : Int).toNat) K := by
   intro c hc1 hc2 hc3 hq
   unfold N105_j2
   rw [wrn (n := (first : Int) + (r : Int)) (k := first + r) (by omega) (by omega), wrn (n := (first : Int) + (c : Int)) (k := first + c) (by omega) (by omega)]
   refine rdU hs rfl (by omega) ?_
   refine rdU hs rfl (by omega) ?_
   refine c_less ?_
   cases hl : Sort.ltInt e[first + r]! e[first + c]! with
   | false =>
    rw [hl, Bool.not_false, if_pos rfl] at hq
    simp only [Bool.not_false, cond_true]
    refine hK hc ?_
    rw [← hq]; exact hs
   | true =>
    rw [hl, Bool.not_true, if_neg (by decide)] at hq
    simp only [Bool.not_true, cond_false]
    refine swU hs rfl rfl (by omega) (by omega) fun h3 hs3 => ?_
    exact ⟨⟨c, _, rfl, by omega, by rw [swp_size]; exact he, hq, hs3⟩, by simp only [Int.toNat_natCast]; omega⟩
  by_cases h2 : 2 * r + 2 < hi
  ·rw [show decide (((2 * r + 2 : Nat) : Int) < (hi : Int)) = true from decide_eq_true (by omega), cond_true]
   rw [wrn (n := (first : Int) + ((2 * r + 1 : Nat) : Int)) (k := first + (2 * r + 1)) (by omega) (by omega), wrn (n := ((first + (2 * r + 1) : Nat) : Int) + 1) (k := first + (2 * r + 1) + 1) (by omega) (by omega)]
   refine rdU hs rfl (by omega) ?_
   refine rdU hs rfl (by omega) ?_
   refine c_less ?_
   unfold N105_j1
   cases hl : Sort.ltInt e[first + (2 * r + 1)]! e[first + (2 * r + 1) + 1]! with
   | true =>
    rw [cond_true, wrn (n := ((2 * r + 1 : Nat) : Int) + 1) (k := 2 * r + 2) (by omega) (by omega)]
    rw [if_pos (by simp [hl]; omega), dif_pos h2] at hr
    exact j2 (2 * r + 2) (by omega) h2 (by omega) hr
   | false =>
    rw [cond_false]
    rw [if_neg (by simp [hl])] at hr
    exact j2 (2 * r + 1) (by omega) (by omega) (by omega) hr
  ·rw [show decide (((2 * r + 2 : Nat) : Int) < (hi : Int)) = false from decide_eq_false (by omega), cond_false]
   unfold N105_j1
   rw [cond_false]
   rw [if_neg (by simp; omega)] at hr
   exact j2 (2 * r + 1) (by omega) (by omega) (by omega) hr
theorem c_heap {L : List Asn} {s : Sl} {a b : Nat} {d : Array Int} {h : Hp} {K : Hp → Prop} (hs : Sat (L ++ [UA s d]) h) (hb : b ≤ d.size) (hab : a ≤ b) (hd : d.size ≤ 1099511627776)
  (hK : ∀ h', Sat (L ++ [UA s (Sort.heapSort Sort.ltInt d a b)]) h' → K h') : C96 s (a : Int) (b : Int) h K := by
 apply S96; unfold N96 N96_l0
 have w0 : IntKind.wrap .i64 ((b : Int) - (a : Int)) = ((b - a : Nat) : Int) := wrn (by omega) (by omega)
 have w1 : IntKind.wrap .i64 (((b - a : Nat) : Int) - 1) = ((b - a : Nat) : Int) - 1 := wi64i (by omega) (by omega)
 have w2 : IntKind.wrap .i64 (Int.tdiv (((b - a : Nat) : Int) - 1) 2) = (((b - a - 1) / 2 : Nat) : Int) := by
  have : Int.tdiv (((b - a : Nat) : Int) - 1) 2 = (((b - a - 1) / 2 : Nat) : Int) := by
   rcases Nat.eq_zero_or_pos (b - a) with h0 | h0
   ·rw [h0]; rfl
   ·rw [show ((b - a : Nat) : Int) - 1 = ((b - a - 1 : Nat) : Int) by omega]; rfl
  rw [this]; exact wrn rfl (by omega)
 rw [w0, w1, w2]
 unfold Sort.heapSort at hK
 refine loopP_inv (fun (x : Int) hc => ∃ (k : Nat) (e : Array Int), x = (k : Int) - 1 ∧ k ≤ d.size + 1 ∧ e.size = d.size ∧ Sort.heapBuild Sort.ltInt (b - a) a k e = Sort.heapBuild Sort.ltInt (b - a) a ((b - a - 1) / 2 + 1) d ∧ Sat (L ++ [UA s e]) hc) (fun x _ => (x + 1).toNat) ?_ ⟨(b - a - 1) / 2 + 1, d, by omega, by omega, rfl, rfl, hs⟩
 clear hs
 rintro x hc ⟨k, e, rfl, hk, he, hr, hs⟩
 unfold N96_l0_B N96_l0_b
 dsimp only
 cases k with
 | succ k =>
  rw [show decide (((k + 1 : Nat) : Int) - 1 ≥ 0) = true from decide_eq_true (by omega), cond_true]
  rw [Sort.heapBuild] at hr
  rw [show ((k + 1 : Nat) : Int) - 1 = (k : Int) by omega]
  refine c_sift hs (by omega) (by omega) (by omega) fun h1 hs1 => ?_
  rw [wi64i (x := (k : Int) - 1) (by omega) (by omega)]
  exact ⟨⟨k, _, rfl, by omega, by rw [siftDown_size _ _ _ _ _ (Nat.le_refl _)]; exact he, hr, hs1⟩, by omega⟩
 | zero =>
  rw [show decide (((0 : Nat) : Int) - 1 ≥ 0) = false from decide_eq_false (by omega), cond_false]
  have hr : e = Sort.heapBuild Sort.ltInt (b - a) a ((b - a - 1) / 2 + 1) d := hr
  rw [← hr] at hK
  unfold N96_l1
  refine loopP_inv (fun (x : Int) hc => ∃ (k : Nat) (e' : Array Int), x = (k : Int) - 1 ∧ k ≤ b - a ∧ e'.size = d.size ∧ Sort.heapPop Sort.ltInt a k e' = Sort.heapPop Sort.ltInt a (b - a) e ∧ Sat (L ++ [UA s e']) hc) (fun x _ => (x + 1).toNat) ?_ ⟨b - a, e, rfl, Nat.le_refl _, he, rfl, hs⟩
  clear hs
  rintro x hc ⟨k, e', rfl, hk, he', hr', hs⟩
  unfold N96_l1_B N96_l1_b
  dsimp only
  cases k with
  | succ k =>
   rw [show decide (((k + 1 : Nat) : Int) - 1 ≥ 0) = true from decide_eq_true (by omega), cond_true]
   rw [Sort.heapPop] at hr'
   rw [show ((k + 1 : Nat) : Int) - 1 = (k : Int) by omega, wrn (n := (a : Int) + (k : Int)) (k := a + k) (by omega) (by omega)]
   refine swU hs rfl rfl (by omega) (by omega) fun h1 hs1 => ?_
   refine c_sift (lo := 0) hs1 (by rw [swp_size]; omega) (by rw [swp_size]; omega) (by omega) fun h2 hs2 => ?_
   rw [wi64i (x := (k : Int) - 1) (by omega) (by omega)]
   exact ⟨⟨k, _, rfl, by omega, by rw [siftDown_size _ _ _ _ _ (Nat.le_refl _), swp_size]; exact he', hr', hs2⟩, by omega⟩
  | zero =>
   rw [show decide (((0 : Nat) : Int) - 1 ≥ 0) = false from decide_eq_false (by omega), cond_false]
   refine hK hc ?_
   rw [← hr']; exact hs
theorem c_rev {L : List Asn} {s : Sl} {a b : Nat} {d : Array Int} {h : Hp} {K : Hp → Prop} (hs : Sat (L ++ [UA s d]) h) (hb : b ≤ d.size) (hab : a < b) (hd : d.size ≤ 1099511627776)
  (hK : ∀ h', Sat (L ++ [UA s (Sort.reverseRange d a b)]) h' → K h') : C99 s (a : Int) (b : Int) h K := by
 apply S99; unfold N99 N99_l0
 rw [wrn (n := (b : Int) - 1) (k := b - 1) (by omega) (by omega)]
 unfold Sort.reverseRange at hK
 refine loopP_inv (fun (x : Int × Int) hc => ∃ (i j : Nat) (e : Array Int), x.1 = i ∧ x.2 = j ∧ i ≤ d.size ∧ j < d.size ∧ e.size = d.size ∧ Sort.reverseLoop i j e = Sort.reverseLoop a (b - 1) d ∧ Sat (L ++ [UA s e]) hc) (fun x _ => x.2.toNat - x.1.toNat) ?_ ⟨a, b - 1, d, rfl, rfl, by omega, by omega, rfl, rfl, hs⟩
 clear hs
 rintro ⟨x, y⟩ hc ⟨i, j, e, hx, hy, hi, hj, he, hr, hs⟩
 simp only at hx hy hs
 subst hx hy
 unfold N99_l0_B N99_l0_b
 dsimp only
 rw [Sort.reverseLoop] at hr
 by_cases hij : i < j
 ·rw [if_pos hij] at hr
  rw [show decide ((i : Int) < (j : Int)) = true from decide_eq_true (by omega), cond_true]
  refine swU hs rfl rfl (by omega) (by omega) fun h1 hs1 => ?_
  rw [wrn (n := (i : Int) + 1) (k := i + 1) (by omega) (by omega), wrn (n := (j : Int) - 1) (k := j - 1) (by omega) (by omega)]
  exact ⟨⟨i + 1, j - 1, _, rfl, rfl, by omega, by omega, by rw [swp_size]; exact he, hr, hs1⟩, by simp only [Int.toNat_natCast]; omega⟩
 ·rw [if_neg hij] at hr
  rw [show decide ((i : Int) < (j : Int)) = false from decide_eq_false (by omega), cond_false]
  refine hK hc ?_
  rw [← hr]; exact hs
end Go.Proofs.YtbbnpmikjdgdpaaGreat

/-
 The sort of a row of uint32, third part: the partitions.
-/
set_option linter.unusedSimpArgs false
set_option linter.unusedVariables false
namespace Go.Proofs.YtbbnpmikjdgdpaaGreat
open Go Go.Hw
theorem scanUp_ge (p : Int → Bool) (d : Array Int) (j : Nat) : ∀ (n i : Nat), j + 1 - i ≤ n → i ≤ Sort.scanUp p d j i := by
 intro n
 induction n with
 | zero => intro i hn; rw [Sort.scanUp, if_neg (by simp; omega)]; exact Nat.le_refl _
 | succ n ih =>
  intro i hn
  rw [Sort.scanUp]
  split
  ·exact Nat.le_trans (Nat.le_succ _) (ih (i + 1) (by rename_i h; simp at h; omega))
  ·exact Nat.le_refl _
theorem scanUp_le (p : Int → Bool) (d : Array Int) (j : Nat) : ∀ (n i : Nat), j + 1 - i ≤ n → Sort.scanUp p d j i ≤ max i (j + 1) := by
 intro n
 induction n with
 | zero => intro i hn; rw [Sort.scanUp, if_neg (by simp; omega)]; omega
 | succ n ih =>
  intro i hn
  rw [Sort.scanUp]
  split
  ·rename_i h; simp at h; have := ih (i + 1) (by omega); omega
  ·omega
theorem scanDown_le (p : Int → Bool) (d : Array Int) (i : Nat) : ∀ (j : Nat), Sort.scanDown p d i j ≤ j
 | 0 => Nat.le_refl _
 | j + 1 => by
  rw [Sort.scanDown]
  split
  ·exact Nat.le_trans (scanDown_le p d i j) (Nat.le_succ _)
  ·exact Nat.le_refl _
section
variable {L : List Asn} {s : Sl} {a i j : Nat} {d : Array Int} {h : Hp} {K : Int → Hp → Prop}
theorem part_up0 (hs : Sat (L ++ [UA s d]) h) (ha : a < d.size) (hj : j < d.size) (hi : i ≤ 2199023255552) (hd : d.size ≤ 1099511627776) (hK : K ((Sort.scanUp (fun x => Sort.ltInt x d[a]!) d j i : Nat) : Int) h) : N103_l0 s (a : Int) (j : Int) (i : Int) h K := by
 unfold N103_l0
 refine loopP_inv (fun (x : Int) hc => hc = h ∧ ∃ k : Nat, x = k ∧ k ≤ 2199023255552 ∧ Sort.scanUp (fun x => Sort.ltInt x d[a]!) d j k = Sort.scanUp (fun x => Sort.ltInt x d[a]!) d j i) (fun x _ => j + 1 - x.toNat) ?_ ⟨rfl, i, rfl, hi, rfl⟩
 rintro x hc ⟨rfl, k, rfl, hk, hr⟩
 unfold N103_l0_B N103_l0_b
 dsimp only
 rw [Sort.scanUp] at hr
 by_cases hkj : k ≤ j
 ·rw [show decide ((k : Int) ≤ (j : Int)) = true from decide_eq_true (by omega), cond_true]
  refine rdU hs rfl (by omega) ?_
  refine rdU hs rfl ha ?_
  refine c_less ?_
  cases hl : Sort.ltInt d[k]! d[a]! with
  | true =>
   rw [if_pos (by simp [hl, hkj])] at hr
   rw [cond_true, wrn (n := (k : Int) + 1) (k := k + 1) (by omega) (by omega)]
   exact ⟨⟨rfl, k + 1, rfl, by omega, hr⟩, by simp only [Int.toNat_natCast]; omega⟩
  | false =>
   rw [if_neg (by simp [hl])] at hr
   rw [cond_false, hr]; exact hK
 ·rw [show decide ((k : Int) ≤ (j : Int)) = false from decide_eq_false (by omega), cond_false]
  rw [if_neg (by simp [hkj])] at hr
  rw [hr]; exact hK
theorem part_up3 (hs : Sat (L ++ [UA s d]) h) (ha : a < d.size) (hj : j < d.size) (hi : i ≤ 2199023255552) (hd : d.size ≤ 1099511627776) (hK : K ((Sort.scanUp (fun x => Sort.ltInt x d[a]!) d j i : Nat) : Int) h) : N103_l3 s (a : Int) (j : Int) (i : Int) h K := by
 unfold N103_l3
 refine loopP_inv (fun (x : Int) hc => hc = h ∧ ∃ k : Nat, x = k ∧ k ≤ 2199023255552 ∧ Sort.scanUp (fun x => Sort.ltInt x d[a]!) d j k = Sort.scanUp (fun x => Sort.ltInt x d[a]!) d j i) (fun x _ => j + 1 - x.toNat) ?_ ⟨rfl, i, rfl, hi, rfl⟩
 rintro x hc ⟨rfl, k, rfl, hk, hr⟩
 unfold N103_l3_B N103_l3_b
 dsimp only
 rw [Sort.scanUp] at hr
 by_cases hkj : k ≤ j
 ·rw [show decide ((k : Int) ≤ (j : Int)) = true from decide_eq_true (by omega), cond_true]
  refine rdU hs rfl (by omega) ?_
  refine rdU hs rfl ha ?_
  refine c_less ?_
  cases hl : Sort.ltInt d[k]! d[a]! with
  | true =>
   rw [if_pos (by simp [hl, hkj])] at hr
   rw [cond_true, wrn (n := (k : Int) + 1) (k := k + 1) (by omega) (by omega)]
   exact ⟨⟨rfl, k + 1, rfl, by omega, hr⟩, by simp only [Int.toNat_natCast]; omega⟩
  | false =>
   rw [if_neg (by simp [hl])] at hr
   rw [cond_false, hr]; exact hK
 ·rw [show decide ((k : Int) ≤ (j : Int)) = false from decide_eq_false (by omega), cond_false]
  rw [if_neg (by simp [hkj])] at hr
  rw [hr]; exact hK
theorem part_dn1 (hs : Sat (L ++ [UA s d]) h) (ha : a < d.size) (hj : j < d.size) (hi : 1 ≤ i) (hd : d.size ≤ 1099511627776) (hK : K ((Sort.scanDown (fun x => !Sort.ltInt x d[a]!) d i j : Nat) : Int) h) : N103_l1 s (a : Int) (i : Int) (j : Int) h K := by
 unfold N103_l1
 refine loopP_inv (fun (x : Int) hc => hc = h ∧ ∃ k : Nat, x = k ∧ k ≤ j ∧ Sort.scanDown (fun x => !Sort.ltInt x d[a]!) d i k = Sort.scanDown (fun x => !Sort.ltInt x d[a]!) d i j) (fun x _ => x.toNat) ?_ ⟨rfl, j, rfl, Nat.le_refl _, rfl⟩
 rintro x hc ⟨rfl, k, rfl, hk, hr⟩
 unfold N103_l1_B N103_l1_b
 dsimp only
 by_cases hkj : i ≤ k
 ·obtain ⟨q, rfl⟩ : ∃ q, k = q + 1 := ⟨k - 1, by omega⟩
  rw [Sort.scanDown] at hr
  rw [show decide ((i : Int) ≤ ((q + 1 : Nat) : Int)) = true from decide_eq_true (by omega), cond_true]
  refine rdU hs rfl (by omega) ?_
  refine rdU hs rfl ha ?_
  refine c_less ?_
  cases hl : Sort.ltInt d[q + 1]! d[a]! with
  | false =>
   rw [if_pos (by simp [hl, hkj])] at hr
   rw [Bool.not_false, cond_true, wrn (n := ((q + 1 : Nat) : Int) - 1) (k := q) (by omega) (by omega)]
   exact ⟨⟨rfl, q, rfl, by omega, hr⟩, by simp only [Int.toNat_natCast]; omega⟩
  | true =>
   rw [if_neg (by simp [hl])] at hr
   rw [Bool.not_true, cond_false, hr]; exact hK
 ·rw [show decide ((i : Int) ≤ (k : Int)) = false from decide_eq_false (by omega), cond_false]
  cases k with
  | zero => rw [Sort.scanDown] at hr; rw [hr]; exact hK
  | succ q => rw [Sort.scanDown, if_neg (by simp; omega)] at hr; rw [hr]; exact hK
theorem part_dn4 (hs : Sat (L ++ [UA s d]) h) (ha : a < d.size) (hj : j < d.size) (hi : 1 ≤ i) (hd : d.size ≤ 1099511627776) (hK : K ((Sort.scanDown (fun x => !Sort.ltInt x d[a]!) d i j : Nat) : Int) h) : N103_l4 s (a : Int) (i : Int) (j : Int) h K := by
 unfold N103_l4
 refine loopP_inv (fun (x : Int) hc => hc = h ∧ ∃ k : Nat, x = k ∧ k ≤ j ∧ Sort.scanDown (fun x => !Sort.ltInt x d[a]!) d i k = Sort.scanDown (fun x => !Sort.ltInt x d[a]!) d i j) (fun x _ => x.toNat) ?_ ⟨rfl, j, rfl, Nat.le_refl _, rfl⟩
 rintro x hc ⟨rfl, k, rfl, hk, hr⟩
 unfold N103_l4_B N103_l4_b
 dsimp only
 by_cases hkj : i ≤ k
 ·obtain ⟨q, rfl⟩ : ∃ q, k = q + 1 := ⟨k - 1, by omega⟩
  rw [Sort.scanDown] at hr
  rw [show decide ((i : Int) ≤ ((q + 1 : Nat) : Int)) = true from decide_eq_true (by omega), cond_true]
  refine rdU hs rfl (by omega) ?_
  refine rdU hs rfl ha ?_
  refine c_less ?_
  cases hl : Sort.ltInt d[q + 1]! d[a]! with
  | false =>
   rw [if_pos (by simp [hl, hkj])] at hr
   rw [Bool.not_false, cond_true, wrn (n := ((q + 1 : Nat) : Int) - 1) (k := q) (by omega) (by omega)]
   exact ⟨⟨rfl, q, rfl, by omega, hr⟩, by simp only [Int.toNat_natCast]; omega⟩
  | true =>
   rw [if_neg (by simp [hl])] at hr
   rw [Bool.not_true, cond_false, hr]; exact hK
 ·rw [show decide ((i : Int) ≤ (k : Int)) = false from decide_eq_false (by omega), cond_false]
  cases k with
  | zero => rw [Sort.scanDown] at hr; rw [hr]; exact hK
  | succ q => rw [Sort.scanDown, if_neg (by simp; omega)] at hr; rw [hr]; exact hK
theorem pareq_up (hs : Sat (L ++ [UA s d]) h) (ha : a < d.size) (hj : j < d.size) (hi : i ≤ 2199023255552) (hd : d.size ≤ 1099511627776) (hK : K ((Sort.scanUp (fun x => !Sort.ltInt d[a]! x) d j i : Nat) : Int) h) : N102_l1 s (a : Int) (j : Int) (i : Int) h K := by
 unfold N102_l1
 refine loopP_inv (fun (x : Int) hc => hc = h ∧ ∃ k : Nat, x = k ∧ k ≤ 2199023255552 ∧ Sort.scanUp (fun x => !Sort.ltInt d[a]! x) d j k = Sort.scanUp (fun x => !Sort.ltInt d[a]! x) d j i) (fun x _ => j + 1 - x.toNat) ?_ ⟨rfl, i, rfl, hi, rfl⟩
 rintro x hc ⟨rfl, k, rfl, hk, hr⟩
 unfold N102_l1_B N102_l1_b
 dsimp only
 rw [Sort.scanUp] at hr
 by_cases hkj : k ≤ j
 ·rw [show decide ((k : Int) ≤ (j : Int)) = true from decide_eq_true (by omega), cond_true]
  refine rdU hs rfl ha ?_
  refine rdU hs rfl (by omega) ?_
  refine c_less ?_
  cases hl : Sort.ltInt d[a]! d[k]! with
  | false =>
   rw [if_pos (by simp [hl, hkj])] at hr
   rw [Bool.not_false, cond_true, wrn (n := (k : Int) + 1) (k := k + 1) (by omega) (by omega)]
   exact ⟨⟨rfl, k + 1, rfl, by omega, hr⟩, by simp only [Int.toNat_natCast]; omega⟩
  | true =>
   rw [if_neg (by simp [hl])] at hr
   rw [Bool.not_true, cond_false, hr]; exact hK
 ·rw [show decide ((k : Int) ≤ (j : Int)) = false from decide_eq_false (by omega), cond_false]
  rw [if_neg (by simp [hkj])] at hr
  rw [hr]; exact hK
theorem pareq_dn (hs : Sat (L ++ [UA s d]) h) (ha : a < d.size) (hj : j < d.size) (hi : 1 ≤ i) (hd : d.size ≤ 1099511627776) (hK : K ((Sort.scanDown (fun x => Sort.ltInt d[a]! x) d i j : Nat) : Int) h) : N102_l2 s (a : Int) (i : Int) (j : Int) h K := by
 unfold N102_l2
 refine loopP_inv (fun (x : Int) hc => hc = h ∧ ∃ k : Nat, x = k ∧ k ≤ j ∧ Sort.scanDown (fun x => Sort.ltInt d[a]! x) d i k = Sort.scanDown (fun x => Sort.ltInt d[a]! x) d i j) (fun x _ => x.toNat) ?_ ⟨rfl, j, rfl, Nat.le_refl _, rfl⟩
 rintro x hc ⟨rfl, k, rfl, hk, hr⟩
 unfold N102_l2_B N102_l2_b
 dsimp only
 by_cases hkj : i ≤ k
 ·obtain ⟨q, rfl⟩ : ∃ q, k = q + 1 := ⟨k - 1, by omega⟩
  rw [Sort.scanDown] at hr
  rw [show decide ((i : Int) ≤ ((q + 1 : Nat) : Int)) = true from decide_eq_true (by omega), cond_true]
  refine rdU hs rfl ha ?_
  refine rdU hs rfl (by omega) ?_
  refine c_less ?_
  cases hl : Sort.ltInt d[a]! d[q + 1]! with
  | true =>
   rw [if_pos (by simp [hl, hkj])] at hr
   rw [cond_true, wrn (n := ((q + 1 : Nat) : Int) - 1) (k := q) (by omega) (by omega)]
   exact ⟨⟨rfl, q, rfl, by omega, hr⟩, by simp only [Int.toNat_natCast]; omega⟩
  | false =>
   rw [if_neg (by simp [hl])] at hr
   rw [cond_false, hr]; exact hK
 ·rw [show decide ((i : Int) ≤ (k : Int)) = false from decide_eq_false (by omega), cond_false]
  cases k with
  | zero => rw [Sort.scanDown] at hr; rw [hr]; exact hK
  | succ q => rw [Sort.scanDown, if_neg (by simp; omega)] at hr; rw [hr]; exact hK
end
theorem c_part {L : List Asn} {s : Sl} {a b pv : Nat} {d : Array Int} {h : Hp} {K : Int → Bool → Hp → Prop} (hs : Sat (L ++ [UA s d]) h) (hb : b ≤ d.size) (ha : a ≤ pv) (hpv : pv < b) (hd : d.size ≤ 1099511627776)
  (hK : ∀ h', Sat (L ++ [UA s (Sort.partition Sort.ltInt d a b pv).2.2]) h' → K ((Sort.partition Sort.ltInt d a b pv).1 : Nat) (Sort.partition Sort.ltInt d a b pv).2.1 h') : C103 s (a : Int) (b : Int) (pv : Int) h K := by
 apply S103; unfold N103
 refine swU hs rfl rfl (by omega) (by omega) fun h1 hs1 => ?_
 unfold Sort.partition at hK
 have z1 := swp_size d a pv
 generalize Sort.swp d a pv = d1 at hs1 hK z1
 simp only at hK
 rw [wrn (n := (b : Int) - 1) (k := b - 1) (by omega) (by omega), wrn (n := (a : Int) + 1) (k := a + 1) (by omega) (by omega)]
 refine part_up0 hs1 (by omega) (by omega) (by omega) (by omega) ?_
 have u1 := scanUp_ge (fun x => Sort.ltInt x d1[a]!) d1 (b - 1) _ (a + 1) (Nat.le_refl _)
 have u2 := scanUp_le (fun x => Sort.ltInt x d1[a]!) d1 (b - 1) _ (a + 1) (Nat.le_refl _)
 generalize Sort.scanUp (fun x => Sort.ltInt x d1[a]!) d1 (b - 1) (a + 1) = i at hK u1 u2 ⊢
 refine part_dn1 hs1 (by omega) (by omega) (by omega) (by omega) ?_
 have v1 := scanDown_le (fun x => !Sort.ltInt x d1[a]!) d1 i (b - 1)
 generalize Sort.scanDown (fun x => !Sort.ltInt x d1[a]!) d1 i (b - 1) = j at hK v1 ⊢
 by_cases hij : i > j
 ·rw [if_pos hij] at hK
  rw [show decide ((i : Int) > (j : Int)) = true from decide_eq_true (by omega), cond_true]
  exact swU hs1 rfl rfl (by omega) (by omega) fun h2 hs2 => hK h2 hs2
 ·rw [if_neg hij] at hK
  rw [show decide ((i : Int) > (j : Int)) = false from decide_eq_false (by omega), cond_false]
  refine swU hs1 rfl rfl (by omega) (by omega) fun h2 hs2 => ?_
  have z2 := swp_size d1 i j
  generalize Sort.swp d1 i j = d2 at hs2 hK z2
  rw [wrn (n := (i : Int) + 1) (k := i + 1) (by omega) (by omega), wrn (n := (j : Int) - 1) (k := j - 1) (by omega) (by omega)]
  unfold N103_l2
  refine loopP_inv (fun (x : Int × Int) hc => ∃ (i' j' : Nat) (e : Array Int), x.1 = i' ∧ x.2 = j' ∧ 1 ≤ i' ∧ i' ≤ 1099511627777 ∧ j' < b ∧ e.size = d.size ∧ Sort.partLoop Sort.ltInt a i' j' e = Sort.partLoop Sort.ltInt a (i + 1) (j - 1) d2 ∧ Sat (L ++ [UA s e]) hc) (fun x _ => x.2.toNat + 1 - x.1.toNat) ?_
   ⟨i + 1, j - 1, d2, rfl, rfl, by omega, by omega, by omega, by omega, rfl, hs2⟩
  rintro ⟨x, y⟩ hc ⟨i', j', e, hx, hy, hi1, hi2, hj1, he, hr, hs3⟩
  simp only at hx hy hs3
  subst hx hy
  unfold N103_l2_B N103_l2_b
  dsimp only
  rw [Sort.partLoop] at hr
  refine part_up3 hs3 (by omega) (by omega) (by omega) (by omega) ?_
  have u1 := scanUp_ge (fun x => Sort.ltInt x e[a]!) e j' _ i' (Nat.le_refl _)
  have u2 := scanUp_le (fun x => Sort.ltInt x e[a]!) e j' _ i' (Nat.le_refl _)
  generalize Sort.scanUp (fun x => Sort.ltInt x e[a]!) e j' i' = i2 at hr u1 u2 ⊢
  refine part_dn4 hs3 (by omega) (by omega) (by omega) (by omega) ?_
  have v1 := scanDown_le (fun x => !Sort.ltInt x e[a]!) e i2 j'
  generalize Sort.scanDown (fun x => !Sort.ltInt x e[a]!) e i2 j' = j2 at hr v1 ⊢
  by_cases hij2 : i2 > j2
  ·rw [if_pos hij2] at hr
   rw [show decide ((i2 : Int) > (j2 : Int)) = true from decide_eq_true (by omega), cond_true]
   rw [← hr] at hK
   exact swU hs3 rfl rfl (by omega) (by omega) fun h4 hs4 => hK h4 hs4
  ·rw [if_neg hij2, dif_pos (by omega)] at hr
   rw [show decide ((i2 : Int) > (j2 : Int)) = false from decide_eq_false (by omega), cond_false]
   refine swU hs3 rfl rfl (by omega) (by omega) fun h4 hs4 => ?_
   rw [wrn (n := (i2 : Int) + 1) (k := i2 + 1) (by omega) (by omega), wrn (n := (j2 : Int) - 1) (k := j2 - 1) (by omega) (by omega)]
   exact ⟨⟨i2 + 1, j2 - 1, _, rfl, rfl, by omega, by omega, by omega, by rw [swp_size]; exact he, hr, hs4⟩, by simp only [Int.toNat_natCast]; omega⟩
theorem c_pareq {L : List Asn} {s : Sl} {a b pv : Nat} {d : Array Int} {h : Hp} {K : Int → Hp → Prop} (hs : Sat (L ++ [UA s d]) h) (hb : b ≤ d.size) (ha : a ≤ pv) (hpv : pv < b) (hd : d.size ≤ 1099511627776)
  (hK : ∀ h', Sat (L ++ [UA s (Sort.partitionEqual Sort.ltInt d a b pv).2]) h' → K ((Sort.partitionEqual Sort.ltInt d a b pv).1 : Nat) h') : C102 s (a : Int) (b : Int) (pv : Int) h K := by
 apply S102; unfold N102
 refine swU hs rfl rfl (by omega) (by omega) fun h1 hs1 => ?_
 unfold Sort.partitionEqual at hK
 have z1 := swp_size d a pv
 generalize Sort.swp d a pv = d1 at hs1 hK z1
 rw [wrn (n := (b : Int) - 1) (k := b - 1) (by omega) (by omega), wrn (n := (a : Int) + 1) (k := a + 1) (by omega) (by omega)]
 unfold N102_l0
 refine loopP_inv (fun (x : Int × Int) hc => ∃ (i' j' : Nat) (e : Array Int), x.1 = i' ∧ x.2 = j' ∧ 1 ≤ i' ∧ i' ≤ 1099511627777 ∧ j' < b ∧ e.size = d.size ∧ Sort.partEqLoop Sort.ltInt a i' j' e = Sort.partEqLoop Sort.ltInt a (a + 1) (b - 1) d1 ∧ Sat (L ++ [UA s e]) hc) (fun x _ => x.2.toNat + 1 - x.1.toNat) ?_
  ⟨a + 1, b - 1, d1, rfl, rfl, by omega, by omega, by omega, by omega, rfl, hs1⟩
 rintro ⟨x, y⟩ hc ⟨i', j', e, hx, hy, hi1, hi2, hj1, he, hr, hs3⟩
 simp only at hx hy hs3
 subst hx hy
 unfold N102_l0_B N102_l0_b
 dsimp only
 rw [Sort.partEqLoop] at hr
 refine pareq_up hs3 (by omega) (by omega) (by omega) (by omega) ?_
 have u1 := scanUp_ge (fun x => !Sort.ltInt e[a]! x) e j' _ i' (Nat.le_refl _)
 have u2 := scanUp_le (fun x => !Sort.ltInt e[a]! x) e j' _ i' (Nat.le_refl _)
 generalize Sort.scanUp (fun x => !Sort.ltInt e[a]! x) e j' i' = i2 at hr u1 u2 ⊢
 refine pareq_dn hs3 (by omega) (by omega) (by omega) (by omega) ?_
 have v1 := scanDown_le (fun x => Sort.ltInt e[a]! x) e i2 j'
 generalize Sort.scanDown (fun x => Sort.ltInt e[a]! x) e i2 j' = j2 at hr v1 ⊢
 by_cases hij2 : i2 > j2
 ·rw [if_pos hij2] at hr
  rw [show decide ((i2 : Int) > (j2 : Int)) = true from decide_eq_true (by omega), cond_true]
  rw [← hr] at hK
  exact hK hc hs3
 ·rw [if_neg hij2, dif_pos (by omega)] at hr
  rw [show decide ((i2 : Int) > (j2 : Int)) = false from decide_eq_false (by omega), cond_false]
  refine swU hs3 rfl rfl (by omega) (by omega) fun h4 hs4 => ?_
  rw [wrn (n := (i2 : Int) + 1) (k := i2 + 1) (by omega) (by omega), wrn (n := (j2 : Int) - 1) (k := j2 - 1) (by omega) (by omega)]
  exact ⟨⟨i2 + 1, j2 - 1, _, rfl, rfl, by omega, by omega, by omega, by rw [swp_size]; exact he, hr, hs4⟩, by simp only [Int.toNat_natCast]; omega⟩
end Go.Proofs.YtbbnpmikjdgdpaaGreat

set_option linter.unusedVariables false
set_option maxRecDepth 100000
namespace Go.Proofs.YtbbnpmikjdgdpaaGreat
open Go Go.Hw
noncomputable def B111 : Code := match Tryz.f111.body with | some c => c | none => .skip
def N111 (x0 : Sl) (x1 x2 : Int) (x3 : Option Addr) (h : Hp) (K : Int → Int → Hp → Prop) : Prop :=
 idx x2 x0.n <|
 nn x0.p fun a0 =>
 xI .u32 (cell h (a0.add (x2.toNat * 1))) fun n0 =>
 idx x1 x0.n <|
 nn x0.p fun a1 =>
 xI .u32 (cell h (a1.add (x1.toNat * 1))) fun n1 =>
 C101 n0 n1 h fun b0 h0 =>
 bif b0 then
 nn x3 fun a2 =>
 xI .i64 (cell h0 a2) fun n2 =>
 nn x3 fun a3 =>
 st h0 a3 (.int .i64 (IntKind.wrap .i64 (n2 + 1))) fun h1 =>
 K x2 x1 h1
 else
 K x1 x2 h0
theorem S111 {x0 : Sl} {x1 x2 : Int} {x3 : Option Addr} {h : Hp} {K : Int → Int → Hp → Prop} (hn : N111 x0 x1 x2 x3 h K) : C111 x0 x1 x2 x3 h K := by
 refine calls_of_D Tryz.func111 (c := B111) rfl (by kernel_rfl) ?_
 refine den_sound hE hm _ (.two .leaf (.two (.two (.ord [0, 1, 2, 3, 4, 5, 6, 7, 8]) .leaf) .leaf)) _ _ _ (⟨annOk_leaf, ⟨⟨trivial, annOk_leaf⟩, annOk_leaf⟩⟩) ?_
 refine cast ?_ hn
 kernel_rfl
end Go.Proofs.YtbbnpmikjdgdpaaGreat

set_option linter.unusedVariables false
set_option maxRecDepth 100000
namespace Go.Proofs.YtbbnpmikjdgdpaaGreat
open Go Go.Hw
noncomputable def B109 : Code := match Tryz.f109.body with | some c => c | none => .skip
def N109 (x0 : Sl) (x1 x2 x3 : Int) (x4 : Option Addr) (h : Hp) (K : Int → Hp → Prop) : Prop :=
 C111 x0 x1 x2 x4 h fun n0 n1 h0 =>
 C111 x0 n1 x3 x4 h0 fun n2 n3 h1 =>
 C111 x0 n0 n2 x4 h1 fun n4 n5 h2 =>
 K n5 h2
theorem S109 {x0 : Sl} {x1 x2 x3 : Int} {x4 : Option Addr} {h : Hp} {K : Int → Hp → Prop} (hn : N109 x0 x1 x2 x3 x4 h K) : C109 x0 x1 x2 x3 x4 h K := by
 refine calls_of_D Tryz.func109 (c := B109) rfl (by kernel_rfl) ?_
 refine den_sound hE hm _ .leaf _ _ _ (annOk_leaf) ?_
 refine cast ?_ hn
 kernel_rfl
end Go.Proofs.YtbbnpmikjdgdpaaGreat

set_option linter.unusedVariables false
set_option maxRecDepth 100000
namespace Go.Proofs.YtbbnpmikjdgdpaaGreat
open Go Go.Hw
noncomputable def B108 : Code := match Tryz.f108.body with | some c => c | none => .skip
def N108 (x0 : Sl) (x1 : Int) (x2 : Option Addr) (h : Hp) (K : Int → Hp → Prop) : Prop :=
 C109 x0 (IntKind.wrap .i64 (x1 - 1)) x1 (IntKind.wrap .i64 (x1 + 1)) x2 h fun n0 h0 =>
 K n0 h0
theorem S108 {x0 : Sl} {x1 : Int} {x2 : Option Addr} {h : Hp} {K : Int → Hp → Prop} (hn : N108 x0 x1 x2 h K) : C108 x0 x1 x2 h K := by
 refine calls_of_D Tryz.func108 (c := B108) rfl (by kernel_rfl) ?_
 refine den_sound hE hm _ .leaf _ _ _ (annOk_leaf) ?_
 refine cast ?_ hn
 kernel_rfl
end Go.Proofs.YtbbnpmikjdgdpaaGreat

set_option linter.unusedVariables false
set_option maxRecDepth 100000
namespace Go.Proofs.YtbbnpmikjdgdpaaGreat
open Go Go.Hw
noncomputable def B98 : Code := match Tryz.f98.body with | some c => c | none => .skip
def N98_j0 (x0 : Sl) (x9 : Option Addr) (x10 x11 x12 : Int) (h : Hp) (Kn : Int → Hp → Prop) : Prop :=
 C109 x0 x10 x11 x12 x9 h fun n0 h0 =>
 Kn n0 h0
noncomputable def N98_j0_t : Xf := pieceT [(0, .c (.slice)), (9, .c (.ptr)), (10, .c (.int .i64)), (11, .c (.int .i64)), (12, .c (.int .i64))] (codeAt B98 [1, 1, 1, 1, 1, 1, 0, 1, 0, 1]) fun x h Q => N98_j0 x.1 x.2.1 x.2.2.1 x.2.2.2.1 x.2.2.2.2 h (fun o0 h' => Q .normal (Sg.env [(11, .c (.int .i64))] o0) h')
theorem N98_j0_ok : Sound Tryz.prog Tryz.f98.ntmps N98_j0_t (codeAt B98 [1, 1, 1, 1, 1, 1, 0, 1, 0, 1]) := by
 refine piece_sound (fun e => match e with | .normal => [11] | _ => []) ?_
 intro x h Q hb
 refine den_sound hE hm _ .leaf _ _ _ (annOk_leaf) ?_
 refine cast ?_ hb
 kernel_rfl
def N98_j1 (x9 : Option Addr) (x11 : Int) (h : Hp) (Kr : Int → Int → Hp → Prop) : Prop :=
 nn x9 fun a0 =>
 xI .i64 (cell h a0) fun n0 =>
 bif (n0 == 0) then
 Kr x11 1 h
 else
 bif (n0 == 12) then
 Kr x11 2 h
 else
 Kr x11 0 h
noncomputable def N98_j1_t : Xf := pieceT [(9, .c (.ptr)), (11, .c (.int .i64))] (codeAt B98 [1, 1, 1, 1, 1, 1, 1]) fun x h Q => N98_j1 x.1 x.2 h (fun o0 o1 h' => Q .ret (Sg.env [(6, .c (.int .i64)), (7, .c (.int .i64))] (o0, o1)) h')
theorem N98_j1_ok : Sound Tryz.prog Tryz.f98.ntmps N98_j1_t (codeAt B98 [1, 1, 1, 1, 1, 1, 1]) := by
 refine piece_sound (fun e => match e with | .ret => [6, 7] | _ => []) ?_
 intro x h Q hb
 refine den_sound hE hm _ .leaf _ _ _ (annOk_leaf) ?_
 refine cast ?_ hb
 kernel_rfl
def N98 (x0 : Sl) (x1 x2 : Int) (h : Hp) (K : Int → Int → Hp → Prop) : Prop :=
 nw h (.cells ⟨[.int .i64 0]⟩ 3) fun b0 h0 =>
 bif (decide ((IntKind.wrap .i64 (x2 - x1)) ≥ 8)) then
 bif (decide ((IntKind.wrap .i64 (x2 - x1)) ≥ 50)) then
 C108 x0 (IntKind.wrap .i64 (x1 + (IntKind.wrap .i64 ((IntKind.wrap .i64 (Int.tdiv (IntKind.wrap .i64 (x2 - x1)) 4)) * 1)))) (some (bk b0)) h0 fun n0 h1 =>
 C108 x0 (IntKind.wrap .i64 (x1 + (IntKind.wrap .i64 ((IntKind.wrap .i64 (Int.tdiv (IntKind.wrap .i64 (x2 - x1)) 4)) * 2)))) (some (bk b0)) h1 fun n1 h2 =>
 C108 x0 (IntKind.wrap .i64 (x1 + (IntKind.wrap .i64 ((IntKind.wrap .i64 (Int.tdiv (IntKind.wrap .i64 (x2 - x1)) 4)) * 3)))) (some (bk b0)) h2 fun n2 h3 =>
 N98_j0 x0 (some (bk b0)) n0 n1 n2 h3
 (fun n3 h4 =>
 N98_j1 (some (bk b0)) n3 h4
 (fun n4 n5 h5 =>
 K n4 n5 h5))
 else
 N98_j0 x0 (some (bk b0)) (IntKind.wrap .i64 (x1 + (IntKind.wrap .i64 ((IntKind.wrap .i64 (Int.tdiv (IntKind.wrap .i64 (x2 - x1)) 4)) * 1)))) (IntKind.wrap .i64 (x1 + (IntKind.wrap .i64 ((IntKind.wrap .i64 (Int.tdiv (IntKind.wrap .i64 (x2 - x1)) 4)) * 2)))) (IntKind.wrap .i64 (x1 + (IntKind.wrap .i64 ((IntKind.wrap .i64 (Int.tdiv (IntKind.wrap .i64 (x2 - x1)) 4)) * 3)))) h0
 (fun n6 h6 =>
 N98_j1 (some (bk b0)) n6 h6
 (fun n7 n8 h7 =>
 K n7 n8 h7))
 else
 N98_j1 (some (bk b0)) (IntKind.wrap .i64 (x1 + (IntKind.wrap .i64 ((IntKind.wrap .i64 (Int.tdiv (IntKind.wrap .i64 (x2 - x1)) 4)) * 2)))) h0
 (fun n9 n10 h8 =>
 K n9 n10 h8)
theorem S98 {x0 : Sl} {x1 x2 : Int} {h : Hp} {K : Int → Int → Hp → Prop} (hn : N98 x0 x1 x2 h K) : C98 x0 x1 x2 h K := by
 refine calls_of_D Tryz.func98 (c := B98) rfl (by kernel_rfl) ?_
 refine den_sound hE hm _ (.two .leaf (.two .leaf (.two .leaf (.two .leaf (.two .leaf (.two .leaf (.two (.two .leaf (.two (.two .leaf (.xf N98_j0_t)) .leaf)) (.xf N98_j1_t)))))))) _ _ _ (⟨annOk_leaf, ⟨annOk_leaf, ⟨annOk_leaf, ⟨annOk_leaf, ⟨annOk_leaf, ⟨annOk_leaf, ⟨⟨annOk_leaf, ⟨⟨annOk_leaf, N98_j0_ok⟩, annOk_leaf⟩⟩, N98_j1_ok⟩⟩⟩⟩⟩⟩⟩) ?_
 refine cast ?_ hn
 kernel_rfl
end Go.Proofs.YtbbnpmikjdgdpaaGreat

set_option linter.unusedVariables false
set_option maxRecDepth 100000
namespace Go.Proofs.YtbbnpmikjdgdpaaGreat
open Go Go.Hw
noncomputable def B100 : Code := match Tryz.f100.body with | some c => c | none => .skip
def N100_l1_b (x0 : Sl) (x1 x2 x8 : Int) (Φ : Int → Hp → Prop) (x7 : Int) (h : Hp) (K2 : Int → Hp → Prop) : Prop :=
 bif (decide (x7 < x2)) then
 idx x7 x0.n <|
 nn x0.p fun a0 =>
 xI .u32 (cell h (a0.add (x7.toNat * 1))) fun n0 =>
 idx (IntKind.wrap .i64 (x7 - 1)) x0.n <|
 nn x0.p fun a1 =>
 xI .u32 (cell h (a1.add ((IntKind.wrap .i64 (x7 - 1)).toNat * 1))) fun n1 =>
 C101 n0 n1 h fun b0 h0 =>
 bif (!b0) then
 Φ (IntKind.wrap .i64 (x7 + 1)) h0
 else
 K2 x7 h0
 else
 K2 x7 h
def N100_l1_B (x0 : Sl) (x1 x2 x8 : Int) (K2 : Int → Hp → Prop) (s : Sg.T [(7, .c (.int .i64))]) (h : Hp) (Φ : Sg.T [(7, .c (.int .i64))] → Hp → Prop) : Prop :=
 N100_l1_b x0 x1 x2 x8 (fun x7 h => Φ x7 h) s h K2
def N100_l1 (x0 : Sl) (x1 x2 x8 x7 : Int) (h : Hp) (K2 : Int → Hp → Prop) : Prop :=
 loopP (N100_l1_B x0 x1 x2 x8 K2) x7 h
noncomputable def N100_l1_t : Xf := loopT [(0, .c (.slice)), (1, .c (.int .i64)), (2, .c (.int .i64)), (8, .c (.int .i64))] [(7, .c (.int .i64))] (codeAt B100 [1, 1, 0, 1, 0, 0, 1, 0, 0, 0, 0, 0]) fun F Q => N100_l1_B F.1 F.2.1 F.2.2.1 F.2.2.2 (fun o0 h' => Q (.exit 2) (Sg.env [(7, .c (.int .i64))] o0) h')
theorem N100_l1_ok : Sound Tryz.prog Tryz.f100.ntmps N100_l1_t (codeAt B100 [1, 1, 0, 1, 0, 0, 1, 0, 0, 0, 0]) := by
 refine loop_sound (fun e => match e with | .exit 2 => [7] | _ => []) (by kernel_rfl) ?_
 intro F Q s h Φ hb
 refine den_sound hE hm _ (.two (.two (.ord [0, 1, 2, 3, 4, 5, 6, 7, 8, 9, 10, 11, 12, 13, 14, 15]) .leaf) .leaf) _ _ _ (⟨⟨trivial, annOk_leaf⟩, annOk_leaf⟩) ?_
 refine cast ?_ hb
 kernel_rfl
def N100_l2_b (x0 : Sl) (x1 x2 x7 x8 : Int) (Φ : Int → Hp → Prop) (x9 : Int) (h : Hp) (K4 : Hp → Prop) : Prop :=
 bif (decide (x9 ≥ 1)) then
 idx x9 x0.n <|
 nn x0.p fun a0 =>
 xI .u32 (cell h (a0.add (x9.toNat * 1))) fun n0 =>
 idx (IntKind.wrap .i64 (x9 - 1)) x0.n <|
 nn x0.p fun a1 =>
 xI .u32 (cell h (a1.add ((IntKind.wrap .i64 (x9 - 1)).toNat * 1))) fun n1 =>
 C101 n0 n1 h fun b0 h0 =>
 bif (!b0) then
 K4 h0
 else
 idx (IntKind.wrap .i64 (x9 - 1)) x0.n <|
 nn x0.p fun a2 =>
 xI .u32 (cell h0 (a2.add ((IntKind.wrap .i64 (x9 - 1)).toNat * 1))) fun n2 =>
 idx x9 x0.n <|
 nn x0.p fun a3 =>
 xI .u32 (cell h0 (a3.add (x9.toNat * 1))) fun n3 =>
 idx x9 x0.n <|
 nn x0.p fun a4 =>
 st h0 (a4.add (x9.toNat * 1)) (.int .u32 n2) fun h1 =>
 idx (IntKind.wrap .i64 (x9 - 1)) x0.n <|
 nn x0.p fun a5 =>
 st h1 (a5.add ((IntKind.wrap .i64 (x9 - 1)).toNat * 1)) (.int .u32 n3) fun h2 =>
 Φ (IntKind.wrap .i64 (x9 - 1)) h2
 else
 K4 h
def N100_l2_B (x0 : Sl) (x1 x2 x7 x8 : Int) (K4 : Hp → Prop) (s : Sg.T [(9, .c (.int .i64))]) (h : Hp) (Φ : Sg.T [(9, .c (.int .i64))] → Hp → Prop) : Prop :=
 N100_l2_b x0 x1 x2 x7 x8 (fun x9 h => Φ x9 h) s h K4
def N100_l2 (x0 : Sl) (x1 x2 x7 x8 x9 : Int) (h : Hp) (K4 : Hp → Prop) : Prop :=
 loopP (N100_l2_B x0 x1 x2 x7 x8 K4) x9 h
noncomputable def N100_l2_t : Xf := loopT [(0, .c (.slice)), (1, .c (.int .i64)), (2, .c (.int .i64)), (7, .c (.int .i64)), (8, .c (.int .i64))] [(9, .c (.int .i64))] (codeAt B100 [1, 1, 0, 1, 0, 0, 1, 0, 0, 1, 1, 1, 1, 0, 1, 0, 1, 0, 0]) fun F Q => N100_l2_B F.1 F.2.1 F.2.2.1 F.2.2.2.1 F.2.2.2.2 (fun h' => Q (.exit 4) (Sg.env [] ()) h')
theorem N100_l2_ok : Sound Tryz.prog Tryz.f100.ntmps N100_l2_t (codeAt B100 [1, 1, 0, 1, 0, 0, 1, 0, 0, 1, 1, 1, 1, 0, 1, 0, 1, 0]) := by
 refine loop_sound (fun e => match e with | .exit 4 => [] | _ => []) (by kernel_rfl) ?_
 intro F Q s h Φ hb
 refine den_sound hE hm _ (.two .leaf (.two (.one (.two (.two (.ord [0, 1, 2, 3, 4, 5, 6, 7, 8, 9, 10]) .leaf) (.ord [0, 1, 2, 3, 4, 5, 6, 7, 8, 9, 10, 11, 12, 13, 14, 15, 16, 17]))) .leaf)) _ _ _ (⟨annOk_leaf, ⟨⟨⟨trivial, annOk_leaf⟩, trivial⟩, annOk_leaf⟩⟩) ?_
 refine cast ?_ hb
 kernel_rfl
def N100_l4_b (x0 : Sl) (x1 x2 x7 x8 : Int) (Φ : Int → Hp → Prop) (x10 : Int) (h : Hp) (K6 : Hp → Prop) : Prop :=
 bif (decide (x10 < x2)) then
 idx x10 x0.n <|
 nn x0.p fun a0 =>
 xI .u32 (cell h (a0.add (x10.toNat * 1))) fun n0 =>
 idx (IntKind.wrap .i64 (x10 - 1)) x0.n <|
 nn x0.p fun a1 =>
 xI .u32 (cell h (a1.add ((IntKind.wrap .i64 (x10 - 1)).toNat * 1))) fun n1 =>
 C101 n0 n1 h fun b0 h0 =>
 bif (!b0) then
 K6 h0
 else
 idx (IntKind.wrap .i64 (x10 - 1)) x0.n <|
 nn x0.p fun a2 =>
 xI .u32 (cell h0 (a2.add ((IntKind.wrap .i64 (x10 - 1)).toNat * 1))) fun n2 =>
 idx x10 x0.n <|
 nn x0.p fun a3 =>
 xI .u32 (cell h0 (a3.add (x10.toNat * 1))) fun n3 =>
 idx x10 x0.n <|
 nn x0.p fun a4 =>
 st h0 (a4.add (x10.toNat * 1)) (.int .u32 n2) fun h1 =>
 idx (IntKind.wrap .i64 (x10 - 1)) x0.n <|
 nn x0.p fun a5 =>
 st h1 (a5.add ((IntKind.wrap .i64 (x10 - 1)).toNat * 1)) (.int .u32 n3) fun h2 =>
 Φ (IntKind.wrap .i64 (x10 + 1)) h2
 else
 K6 h
def N100_l4_B (x0 : Sl) (x1 x2 x7 x8 : Int) (K6 : Hp → Prop) (s : Sg.T [(10, .c (.int .i64))]) (h : Hp) (Φ : Sg.T [(10, .c (.int .i64))] → Hp → Prop) : Prop :=
 N100_l4_b x0 x1 x2 x7 x8 (fun x10 h => Φ x10 h) s h K6
def N100_l4 (x0 : Sl) (x1 x2 x7 x8 x10 : Int) (h : Hp) (K6 : Hp → Prop) : Prop :=
 loopP (N100_l4_B x0 x1 x2 x7 x8 K6) x10 h
noncomputable def N100_l4_t : Xf := loopT [(0, .c (.slice)), (1, .c (.int .i64)), (2, .c (.int .i64)), (7, .c (.int .i64)), (8, .c (.int .i64))] [(10, .c (.int .i64))] (codeAt B100 [1, 1, 0, 1, 0, 0, 1, 0, 0, 1, 1, 1, 1, 1, 1, 0, 1, 0, 0]) fun F Q => N100_l4_B F.1 F.2.1 F.2.2.1 F.2.2.2.1 F.2.2.2.2 (fun h' => Q (.exit 6) (Sg.env [] ()) h')
theorem N100_l4_ok : Sound Tryz.prog Tryz.f100.ntmps N100_l4_t (codeAt B100 [1, 1, 0, 1, 0, 0, 1, 0, 0, 1, 1, 1, 1, 1, 1, 0, 1, 0]) := by
 refine loop_sound (fun e => match e with | .exit 6 => [] | _ => []) (by kernel_rfl) ?_
 intro F Q s h Φ hb
 refine den_sound hE hm _ (.two .leaf (.two (.one (.two (.two (.ord [0, 1, 2, 3, 4, 5, 6, 7, 8, 9, 10]) .leaf) (.ord [0, 1, 2, 3, 4, 5, 6, 7, 8, 9, 10, 11, 12, 13, 14, 15, 16, 17]))) .leaf)) _ _ _ (⟨annOk_leaf, ⟨⟨⟨trivial, annOk_leaf⟩, trivial⟩, annOk_leaf⟩⟩) ?_
 refine cast ?_ hb
 kernel_rfl
def N100_j3 (x0 : Sl) (x1 x2 x7 x8 : Int) (h : Hp) (Kn : Hp → Prop) : Prop :=
 bif (decide ((IntKind.wrap .i64 (x2 - x7)) ≥ 2)) then
 N100_l4 x0 x1 x2 x7 x8 (IntKind.wrap .i64 (x7 + 1)) h
 (fun h0 =>
 Kn h0)
 else
 Kn h
noncomputable def N100_j3_t : Xf := pieceT [(0, .c (.slice)), (1, .c (.int .i64)), (2, .c (.int .i64)), (7, .c (.int .i64)), (8, .c (.int .i64))] (codeAt B100 [1, 1, 0, 1, 0, 0, 1, 0, 0, 1, 1, 1, 1, 1]) fun x h Q => N100_j3 x.1 x.2.1 x.2.2.1 x.2.2.2.1 x.2.2.2.2 h (fun h' => Q .normal (Sg.env [] ()) h')
theorem N100_j3_ok : Sound Tryz.prog Tryz.f100.ntmps N100_j3_t (codeAt B100 [1, 1, 0, 1, 0, 0, 1, 0, 0, 1, 1, 1, 1, 1]) := by
 refine piece_sound (fun e => match e with | .normal => [] | _ => []) ?_
 intro x h Q hb
 refine den_sound hE hm _ (.two .leaf (.two (.two .leaf (.one (.xf N100_l4_t))) .leaf)) _ _ _ (⟨annOk_leaf, ⟨⟨annOk_leaf, N100_l4_ok⟩, annOk_leaf⟩⟩) ?_
 refine cast ?_ hb
 kernel_rfl
def N100_l0_b (x0 : Sl) (x1 x2 : Int) (Φ : Int → Int → Hp → Prop) (x7 x8 : Int) (h : Hp) (K0 : Hp → Prop) (Kr : Bool → Hp → Prop) : Prop :=
 bif (decide (x8 < 5)) then
 N100_l1 x0 x1 x2 x8 x7 h
 (fun n0 h0 =>
 bif (n0 == x2) then
 Kr true h0
 else
 bif (decide ((IntKind.wrap .i64 (x2 - x1)) < 50)) then
 Kr false h0
 else
 idx (IntKind.wrap .i64 (n0 - 1)) x0.n <|
 nn x0.p fun a0 =>
 xI .u32 (cell h0 (a0.add ((IntKind.wrap .i64 (n0 - 1)).toNat * 1))) fun n1 =>
 idx n0 x0.n <|
 nn x0.p fun a1 =>
 xI .u32 (cell h0 (a1.add (n0.toNat * 1))) fun n2 =>
 idx n0 x0.n <|
 nn x0.p fun a2 =>
 st h0 (a2.add (n0.toNat * 1)) (.int .u32 n1) fun h1 =>
 idx (IntKind.wrap .i64 (n0 - 1)) x0.n <|
 nn x0.p fun a3 =>
 st h1 (a3.add ((IntKind.wrap .i64 (n0 - 1)).toNat * 1)) (.int .u32 n2) fun h2 =>
 bif (decide ((IntKind.wrap .i64 (n0 - x1)) ≥ 2)) then
 N100_l2 x0 x1 x2 n0 x8 (IntKind.wrap .i64 (n0 - 1)) h2
 (fun h3 =>
 N100_j3 x0 x1 x2 n0 x8 h3
 (fun h4 =>
 Φ n0 (IntKind.wrap .i64 (x8 + 1)) h4))
 else
 N100_j3 x0 x1 x2 n0 x8 h2
 (fun h5 =>
 Φ n0 (IntKind.wrap .i64 (x8 + 1)) h5))
 else
 K0 h
def N100_l0_B (x0 : Sl) (x1 x2 : Int) (K0 : Hp → Prop) (Kr : Bool → Hp → Prop) (s : Sg.T [(7, .c (.int .i64)), (8, .c (.int .i64))]) (h : Hp) (Φ : Sg.T [(7, .c (.int .i64)), (8, .c (.int .i64))] → Hp → Prop) : Prop :=
 N100_l0_b x0 x1 x2 (fun x7 x8 h => Φ (x7, x8) h) s.1 s.2 h K0 Kr
def N100_l0 (x0 : Sl) (x1 x2 x7 x8 : Int) (h : Hp) (K0 : Hp → Prop) (Kr : Bool → Hp → Prop) : Prop :=
 loopP (N100_l0_B x0 x1 x2 K0 Kr) (x7, x8) h
noncomputable def N100_l0_t : Xf := loopT [(0, .c (.slice)), (1, .c (.int .i64)), (2, .c (.int .i64))] [(7, .c (.int .i64)), (8, .c (.int .i64))] (codeAt B100 [1, 1, 0, 1, 0, 0]) fun F Q => N100_l0_B F.1 F.2.1 F.2.2 (fun h' => Q (.exit 0) (Sg.env [] ()) h') (fun o0 h' => Q .ret (Sg.env [(6, .c (.bool))] o0) h')
theorem N100_l0_ok : Sound Tryz.prog Tryz.f100.ntmps N100_l0_t (codeAt B100 [1, 1, 0, 1, 0]) := by
 refine loop_sound (fun e => match e with | .exit 0 => [] | .ret => [6] | _ => []) (by kernel_rfl) ?_
 intro F Q s h Φ hb
 refine den_sound hE hm _ (.two .leaf (.two (.one (.two (.one (.xf N100_l1_t)) (.two .leaf (.two .leaf (.two (.ord [0, 1, 2, 3, 4, 5, 6, 7, 8, 9, 10, 11, 12, 13, 14, 15, 16, 17]) (.two (.two .leaf (.two (.two .leaf (.one (.xf N100_l2_t))) .leaf)) (.xf N100_j3_t))))))) .leaf)) _ _ _ (⟨annOk_leaf, ⟨⟨N100_l1_ok, ⟨annOk_leaf, ⟨annOk_leaf, ⟨trivial, ⟨⟨annOk_leaf, ⟨⟨annOk_leaf, N100_l2_ok⟩, annOk_leaf⟩⟩, N100_j3_ok⟩⟩⟩⟩⟩, annOk_leaf⟩⟩) ?_
 refine cast ?_ hb
 kernel_rfl
def N100 (x0 : Sl) (x1 x2 : Int) (h : Hp) (K : Bool → Hp → Prop) : Prop :=
 N100_l0 x0 x1 x2 (IntKind.wrap .i64 (x1 + 1)) 0 h
 (fun h0 =>
 K false h0)
 (fun b0 h1 =>
 K b0 h1)
theorem S100 {x0 : Sl} {x1 x2 : Int} {h : Hp} {K : Bool → Hp → Prop} (hn : N100 x0 x1 x2 h K) : C100 x0 x1 x2 h K := by
 refine calls_of_D Tryz.func100 (c := B100) rfl (by kernel_rfl) ?_
 refine den_sound hE hm _ (.two .leaf (.two .leaf (.two (.two .leaf (.one (.xf N100_l0_t))) .leaf))) _ _ _ (⟨annOk_leaf, ⟨annOk_leaf, ⟨⟨annOk_leaf, N100_l0_ok⟩, annOk_leaf⟩⟩⟩) ?_
 refine cast ?_ hn
 kernel_rfl
end Go.Proofs.YtbbnpmikjdgdpaaGreat

set_option linter.unusedVariables false
set_option maxRecDepth 100000
namespace Go.Proofs.YtbbnpmikjdgdpaaGreat
open Go Go.Hw
noncomputable def B97 : Code := match Tryz.f97.body with | some c => c | none => .skip
def N97_j1 (x0 : Sl) (x1 x6 : Int) (x7 : Option Addr) (x8 x9 x10 : Int) (h : Hp) (Kn : Hp → Prop) : Prop :=
 idx (IntKind.wrap .i64 (x1 + x10)) x0.n <|
 nn x0.p fun a0 =>
 xI .u32 (cell h (a0.add ((IntKind.wrap .i64 (x1 + x10)).toNat * 1))) fun n0 =>
 idx x9 x0.n <|
 nn x0.p fun a1 =>
 xI .u32 (cell h (a1.add (x9.toNat * 1))) fun n1 =>
 idx x9 x0.n <|
 nn x0.p fun a2 =>
 st h (a2.add (x9.toNat * 1)) (.int .u32 n0) fun h0 =>
 idx (IntKind.wrap .i64 (x1 + x10)) x0.n <|
 nn x0.p fun a3 =>
 st h0 (a3.add ((IntKind.wrap .i64 (x1 + x10)).toNat * 1)) (.int .u32 n1) fun h1 =>
 Kn h1
noncomputable def N97_j1_t : Xf := pieceT [(0, .c (.slice)), (1, .c (.int .i64)), (6, .c (.int .i64)), (7, .c (.ptr)), (8, .c (.int .u64)), (9, .c (.int .i64)), (10, .c (.int .i64))] (codeAt B97 [1, 1, 0, 1, 1, 1, 0, 0, 1, 0, 0, 1, 1]) fun x h Q => N97_j1 x.1 x.2.1 x.2.2.1 x.2.2.2.1 x.2.2.2.2.1 x.2.2.2.2.2.1 x.2.2.2.2.2.2 h (fun h' => Q .normal (Sg.env [] ()) h')
theorem N97_j1_ok : Sound Tryz.prog Tryz.f97.ntmps N97_j1_t (codeAt B97 [1, 1, 0, 1, 1, 1, 0, 0, 1, 0, 0, 1, 1]) := by
 refine piece_sound (fun e => match e with | .normal => [] | _ => []) ?_
 intro x h Q hb
 refine den_sound hE hm _ (.ord [0, 1, 2, 3, 4, 5, 6, 7, 8, 9, 10, 11, 12, 13, 14, 15, 16, 17, 18, 19]) _ _ _ (trivial) ?_
 refine cast ?_ hb
 kernel_rfl
def N97_l0_b (x0 : Sl) (x1 x6 : Int) (x7 : Option Addr) (x8 : Int) (Φ : Int → Hp → Prop) (x9 : Int) (h : Hp) (K0 : Hp → Prop) : Prop :=
 bif (decide (x9 ≤ (IntKind.wrap .i64 ((IntKind.wrap .i64 (x1 + (IntKind.wrap .i64 ((IntKind.wrap .i64 (Int.tdiv x6 4)) * 2)))) + 1)))) then
 C107 x7 h fun n0 h0 =>
 bif (decide ((IntKind.wrap .i64 (IntKind.wrap .u64 (BitVec.ofInt 64 n0 &&& BitVec.ofInt 64 (IntKind.wrap .u64 (x8 - 1))).toNat)) ≥ x6)) then
 N97_j1 x0 x1 x6 x7 x8 x9 (IntKind.wrap .i64 ((IntKind.wrap .i64 (IntKind.wrap .u64 (BitVec.ofInt 64 n0 &&& BitVec.ofInt 64 (IntKind.wrap .u64 (x8 - 1))).toNat)) - x6)) h0
 (fun h1 =>
 Φ (IntKind.wrap .i64 (x9 + 1)) h1)
 else
 N97_j1 x0 x1 x6 x7 x8 x9 (IntKind.wrap .i64 (IntKind.wrap .u64 (BitVec.ofInt 64 n0 &&& BitVec.ofInt 64 (IntKind.wrap .u64 (x8 - 1))).toNat)) h0
 (fun h2 =>
 Φ (IntKind.wrap .i64 (x9 + 1)) h2)
 else
 K0 h
def N97_l0_B (x0 : Sl) (x1 x6 : Int) (x7 : Option Addr) (x8 : Int) (K0 : Hp → Prop) (s : Sg.T [(9, .c (.int .i64))]) (h : Hp) (Φ : Sg.T [(9, .c (.int .i64))] → Hp → Prop) : Prop :=
 N97_l0_b x0 x1 x6 x7 x8 (fun x9 h => Φ x9 h) s h K0
def N97_l0 (x0 : Sl) (x1 x6 : Int) (x7 : Option Addr) (x8 x9 : Int) (h : Hp) (K0 : Hp → Prop) : Prop :=
 loopP (N97_l0_B x0 x1 x6 x7 x8 K0) x9 h
noncomputable def N97_l0_t : Xf := loopT [(0, .c (.slice)), (1, .c (.int .i64)), (6, .c (.int .i64)), (7, .c (.ptr)), (8, .c (.int .u64))] [(9, .c (.int .i64))] (codeAt B97 [1, 1, 0, 1, 1, 1, 0, 0]) fun F Q => N97_l0_B F.1 F.2.1 F.2.2.1 F.2.2.2.1 F.2.2.2.2 (fun h' => Q (.exit 0) (Sg.env [] ()) h')
theorem N97_l0_ok : Sound Tryz.prog Tryz.f97.ntmps N97_l0_t (codeAt B97 [1, 1, 0, 1, 1, 1, 0]) := by
 refine loop_sound (fun e => match e with | .exit 0 => [] | _ => []) (by kernel_rfl) ?_
 intro F Q s h Φ hb
 refine den_sound hE hm _ (.two .leaf (.two (.one (.two .leaf (.two .leaf (.xf N97_j1_t)))) .leaf)) _ _ _ (⟨annOk_leaf, ⟨⟨annOk_leaf, ⟨annOk_leaf, N97_j1_ok⟩⟩, annOk_leaf⟩⟩) ?_
 refine cast ?_ hb
 kernel_rfl
def N97 (x0 : Sl) (x1 x2 : Int) (h : Hp) (K : Hp → Prop) : Prop :=
 bif (decide ((IntKind.wrap .i64 (x2 - x1)) ≥ 8)) then
 nw h (.cells ⟨[.int .u64 0]⟩ 199) fun b0 h0 =>
 st h0 (bk b0) (.int .u64 (IntKind.wrap .u64 (IntKind.wrap .i64 (x2 - x1)))) fun h1 =>
 C106 (IntKind.wrap .i64 (x2 - x1)) h1 fun n0 h2 =>
 N97_l0 x0 x1 (IntKind.wrap .i64 (x2 - x1)) (some (bk b0)) n0 (IntKind.wrap .i64 ((IntKind.wrap .i64 (x1 + (IntKind.wrap .i64 ((IntKind.wrap .i64 (Int.tdiv (IntKind.wrap .i64 (x2 - x1)) 4)) * 2)))) - 1)) h2
 (fun h3 =>
 K h3)
 else
 K h
theorem S97 {x0 : Sl} {x1 x2 : Int} {h : Hp} {K : Hp → Prop} (hn : N97 x0 x1 x2 h K) : C97 x0 x1 x2 h K := by
 refine calls_of_D Tryz.func97 (c := B97) rfl (by kernel_rfl) ?_
 refine den_sound hE hm _ (.two .leaf (.two .leaf (.two (.two .leaf (.two .leaf (.two .leaf (.one (.xf N97_l0_t))))) .leaf))) _ _ _ (⟨annOk_leaf, ⟨annOk_leaf, ⟨⟨annOk_leaf, ⟨annOk_leaf, ⟨annOk_leaf, N97_l0_ok⟩⟩⟩, annOk_leaf⟩⟩⟩) ?_
 refine cast ?_ hn
 kernel_rfl
end Go.Proofs.YtbbnpmikjdgdpaaGreat

set_option linter.unusedVariables false
set_option maxRecDepth 100000
namespace Go.Proofs.YtbbnpmikjdgdpaaGreat
open Go Go.Hw
noncomputable def B106 : Code := match Tryz.f106.body with | some c => c | none => .skip
def N106 (x0 : Int) (h : Hp) (K : Int → Hp → Prop) : Prop :=
 C94 (IntKind.wrap .u64 x0) h fun n0 h0 =>
 bif decide (n0 < 0) then False else
 K (IntKind.wrap .u64 (1 * 2 ^ (min n0.toNat 64))) h0
theorem S106 {x0 : Int} {h : Hp} {K : Int → Hp → Prop} (hn : N106 x0 h K) : C106 x0 h K := by
 refine calls_of_D Tryz.func106 (c := B106) rfl (by kernel_rfl) ?_
 refine den_sound hE hm _ .leaf _ _ _ (annOk_leaf) ?_
 refine cast ?_ hn
 kernel_rfl
end Go.Proofs.YtbbnpmikjdgdpaaGreat

set_option linter.unusedVariables false
set_option maxRecDepth 100000
namespace Go.Proofs.YtbbnpmikjdgdpaaGreat
open Go Go.Hw
noncomputable def B107 : Code := match Tryz.f107.body with | some c => c | none => .skip
def N107 (x0 : Option Addr) (h : Hp) (K : Int → Hp → Prop) : Prop :=
 nn x0 fun a0 =>
 xI .u64 (cell h a0) fun n0 =>
 nn x0 fun a1 =>
 xI .u64 (cell h a1) fun n1 =>
 nn x0 fun a2 =>
 st h a2 (.int .u64 (IntKind.wrap .u64 (BitVec.ofInt 64 n0 ^^^ BitVec.ofInt 64 (IntKind.wrap .u64 (n1 * 2 ^ 13))).toNat)) fun h0 =>
 nn x0 fun a3 =>
 xI .u64 (cell h0 a3) fun n2 =>
 nn x0 fun a4 =>
 xI .u64 (cell h0 a4) fun n3 =>
 nn x0 fun a5 =>
 st h0 a5 (.int .u64 (IntKind.wrap .u64 (BitVec.ofInt 64 n2 ^^^ BitVec.ofInt 64 (Int.fdiv n3 (2 ^ 7))).toNat)) fun h1 =>
 nn x0 fun a6 =>
 xI .u64 (cell h1 a6) fun n4 =>
 nn x0 fun a7 =>
 xI .u64 (cell h1 a7) fun n5 =>
 nn x0 fun a8 =>
 st h1 a8 (.int .u64 (IntKind.wrap .u64 (BitVec.ofInt 64 n4 ^^^ BitVec.ofInt 64 (IntKind.wrap .u64 (n5 * 2 ^ 17))).toNat)) fun h2 =>
 nn x0 fun a9 =>
 xI .u64 (cell h2 a9) fun n6 =>
 K n6 h2
theorem S107 {x0 : Option Addr} {h : Hp} {K : Int → Hp → Prop} (hn : N107 x0 h K) : C107 x0 h K := by
 refine calls_of_D Tryz.func107 (c := B107) rfl (by kernel_rfl) ?_
 refine den_sound hE hm _ (.two .leaf (.two (.ord [0, 1, 2, 3, 4, 5, 6, 7, 8, 9]) (.two (.ord [0, 1, 2, 3, 4, 5, 6, 7, 8, 9]) (.two (.ord [0, 1, 2, 3, 4, 5, 6, 7, 8, 9]) .leaf)))) _ _ _ (⟨annOk_leaf, ⟨trivial, ⟨trivial, ⟨trivial, annOk_leaf⟩⟩⟩⟩) ?_
 refine cast ?_ hn
 kernel_rfl
end Go.Proofs.YtbbnpmikjdgdpaaGreat

set_option linter.unusedVariables false
set_option maxRecDepth 100000
namespace Go.Proofs.YtbbnpmikjdgdpaaGreat
open Go Go.Hw
noncomputable def B94 : Code := match Tryz.f94.body with | some c => c | none => .skip
def N94 (x0 : Int) (h : Hp) (K : Int → Hp → Prop) : Prop :=
 C104 x0 h fun n0 h0 =>
 K n0 h0
theorem S94 {x0 : Int} {h : Hp} {K : Int → Hp → Prop} (hn : N94 x0 h K) : C94 x0 h K := by
 refine calls_of_D Tryz.func94 (c := B94) rfl (by kernel_rfl) ?_
 refine den_sound hE hm _ .leaf _ _ _ (annOk_leaf) ?_
 refine cast ?_ hn
 kernel_rfl
end Go.Proofs.YtbbnpmikjdgdpaaGreat

set_option linter.unusedVariables false
set_option maxRecDepth 100000
namespace Go.Proofs.YtbbnpmikjdgdpaaGreat
open Go Go.Hw
noncomputable def B104 : Code := match Tryz.f104.body with | some c => c | none => .skip
def N104_j2 (x0 x2 : Int) (h : Hp) (Kr : Int → Hp → Prop) : Prop :=
 idx (IntKind.wrap .u8 x0) (⟨⟨[0, 1, 2, 2, 3, 3, 3, 3, 4, 4, 4, 4, 4, 4, 4, 4, 5, 5, 5, 5, 5, 5, 5, 5, 5, 5, 5, 5, 5, 5, 5, 5, 6, 6, 6, 6, 6, 6, 6, 6, 6, 6, 6, 6, 6, 6, 6, 6, 6, 6, 6, 6, 6, 6, 6, 6, 6, 6, 6, 6, 6, 6, 6, 6, 7, 7, 7, 7, 7, 7, 7, 7, 7, 7, 7, 7, 7, 7, 7, 7, 7, 7, 7, 7, 7, 7, 7, 7, 7, 7, 7, 7, 7, 7, 7, 7, 7, 7, 7, 7, 7, 7, 7, 7, 7, 7, 7, 7, 7, 7, 7, 7, 7, 7, 7, 7, 7, 7, 7, 7, 7, 7, 7, 7, 7, 7, 7, 7, 8, 8, 8, 8, 8, 8, 8, 8, 8, 8, 8, 8, 8, 8, 8, 8, 8, 8, 8, 8, 8, 8, 8, 8, 8, 8, 8, 8, 8, 8, 8, 8, 8, 8, 8, 8, 8, 8, 8, 8, 8, 8, 8, 8, 8, 8, 8, 8, 8, 8, 8, 8, 8, 8, 8, 8, 8, 8, 8, 8, 8, 8, 8, 8, 8, 8, 8, 8, 8, 8, 8, 8, 8, 8, 8, 8, 8, 8, 8, 8, 8, 8, 8, 8, 8, 8, 8, 8, 8, 8, 8, 8, 8, 8, 8, 8, 8, 8, 8, 8, 8, 8, 8, 8, 8, 8, 8, 8, 8, 8, 8, 8, 8, 8, 8, 8, 8, 8, 8, 8, 8, 8, 8, 8, 8, 8, 8, 8]⟩⟩ : ByteArray).size <|
 Kr (IntKind.wrap .i64 (x2 + (IntKind.wrap .i64 (sbyte (⟨⟨[0, 1, 2, 2, 3, 3, 3, 3, 4, 4, 4, 4, 4, 4, 4, 4, 5, 5, 5, 5, 5, 5, 5, 5, 5, 5, 5, 5, 5, 5, 5, 5, 6, 6, 6, 6, 6, 6, 6, 6, 6, 6, 6, 6, 6, 6, 6, 6, 6, 6, 6, 6, 6, 6, 6, 6, 6, 6, 6, 6, 6, 6, 6, 6, 7, 7, 7, 7, 7, 7, 7, 7, 7, 7, 7, 7, 7, 7, 7, 7, 7, 7, 7, 7, 7, 7, 7, 7, 7, 7, 7, 7, 7, 7, 7, 7, 7, 7, 7, 7, 7, 7, 7, 7, 7, 7, 7, 7, 7, 7, 7, 7, 7, 7, 7, 7, 7, 7, 7, 7, 7, 7, 7, 7, 7, 7, 7, 7, 8, 8, 8, 8, 8, 8, 8, 8, 8, 8, 8, 8, 8, 8, 8, 8, 8, 8, 8, 8, 8, 8, 8, 8, 8, 8, 8, 8, 8, 8, 8, 8, 8, 8, 8, 8, 8, 8, 8, 8, 8, 8, 8, 8, 8, 8, 8, 8, 8, 8, 8, 8, 8, 8, 8, 8, 8, 8, 8, 8, 8, 8, 8, 8, 8, 8, 8, 8, 8, 8, 8, 8, 8, 8, 8, 8, 8, 8, 8, 8, 8, 8, 8, 8, 8, 8, 8, 8, 8, 8, 8, 8, 8, 8, 8, 8, 8, 8, 8, 8, 8, 8, 8, 8, 8, 8, 8, 8, 8, 8, 8, 8, 8, 8, 8, 8, 8, 8, 8, 8, 8, 8, 8, 8, 8, 8, 8, 8]⟩⟩ : ByteArray) (IntKind.wrap .u8 x0))))) h
noncomputable def N104_j2_t : Xf := pieceT [(0, .c (.int .u64)), (2, .c (.int .i64))] (codeAt B104 [1, 1, 1, 1]) fun x h Q => N104_j2 x.1 x.2 h (fun o0 h' => Q .ret (Sg.env [(2, .c (.int .i64))] o0) h')
theorem N104_j2_ok : Sound Tryz.prog Tryz.f104.ntmps N104_j2_t (codeAt B104 [1, 1, 1, 1]) := by
 refine piece_sound (fun e => match e with | .ret => [2] | _ => []) ?_
 intro x h Q hb
 refine den_sound hE hm _ .leaf _ _ _ (annOk_leaf) ?_
 refine cast ?_ hb
 kernel_rfl
def N104_j1 (x0 x2 : Int) (h : Hp) (Kr : Int → Hp → Prop) : Prop :=
 bif (decide (x0 ≥ 256)) then
 N104_j2 (Int.fdiv x0 (2 ^ 8)) (IntKind.wrap .i64 (x2 + 8)) h
 (fun n0 h0 =>
 Kr n0 h0)
 else
 N104_j2 x0 x2 h
 (fun n1 h1 =>
 Kr n1 h1)
noncomputable def N104_j1_t : Xf := pieceT [(0, .c (.int .u64)), (2, .c (.int .i64))] (codeAt B104 [1, 1, 1]) fun x h Q => N104_j1 x.1 x.2 h (fun o0 h' => Q .ret (Sg.env [(2, .c (.int .i64))] o0) h')
theorem N104_j1_ok : Sound Tryz.prog Tryz.f104.ntmps N104_j1_t (codeAt B104 [1, 1, 1]) := by
 refine piece_sound (fun e => match e with | .ret => [2] | _ => []) ?_
 intro x h Q hb
 refine den_sound hE hm _ (.two .leaf (.xf N104_j2_t)) _ _ _ (⟨annOk_leaf, N104_j2_ok⟩) ?_
 refine cast ?_ hb
 kernel_rfl
def N104_j0 (x0 x2 : Int) (h : Hp) (Kr : Int → Hp → Prop) : Prop :=
 bif (decide (x0 ≥ 65536)) then
 N104_j1 (Int.fdiv x0 (2 ^ 16)) (IntKind.wrap .i64 (x2 + 16)) h
 (fun n0 h0 =>
 Kr n0 h0)
 else
 N104_j1 x0 x2 h
 (fun n1 h1 =>
 Kr n1 h1)
noncomputable def N104_j0_t : Xf := pieceT [(0, .c (.int .u64)), (2, .c (.int .i64))] (codeAt B104 [1, 1]) fun x h Q => N104_j0 x.1 x.2 h (fun o0 h' => Q .ret (Sg.env [(2, .c (.int .i64))] o0) h')
theorem N104_j0_ok : Sound Tryz.prog Tryz.f104.ntmps N104_j0_t (codeAt B104 [1, 1]) := by
 refine piece_sound (fun e => match e with | .ret => [2] | _ => []) ?_
 intro x h Q hb
 refine den_sound hE hm _ (.two .leaf (.xf N104_j1_t)) _ _ _ (⟨annOk_leaf, N104_j1_ok⟩) ?_
 refine cast ?_ hb
 kernel_rfl
def N104 (x0 : Int) (h : Hp) (K : Int → Hp → Prop) : Prop :=
 bif (decide (x0 ≥ 4294967296)) then
 N104_j0 (Int.fdiv x0 (2 ^ 32)) 32 h
 (fun n0 h0 =>
 K n0 h0)
 else
 N104_j0 x0 0 h
 (fun n1 h1 =>
 K n1 h1)
theorem S104 {x0 : Int} {h : Hp} {K : Int → Hp → Prop} (hn : N104 x0 h K) : C104 x0 h K := by
 refine calls_of_D Tryz.func104 (c := B104) rfl (by kernel_rfl) ?_
 refine den_sound hE hm _ (.two .leaf (.two .leaf (.xf N104_j0_t))) _ _ _ (⟨annOk_leaf, ⟨annOk_leaf, N104_j0_ok⟩⟩) ?_
 refine cast ?_ hn
 kernel_rfl
end Go.Proofs.YtbbnpmikjdgdpaaGreat

/-
 The sort of a row of uint32, fourth part: the pivot, the partial insertion sort, the broken patterns.
-/
set_option linter.unusedSimpArgs false
set_option linter.unusedVariables false
namespace Go.Proofs.YtbbnpmikjdgdpaaGreat
open Go Go.Hw
abbrev SwA (b0 : Nat) (sw : Nat) : Asn := row b0 3 [.int .i64 (sw : Int)]
section
variable {L : List Asn} {s : Sl} {d : Array Int} {h : Hp} {b0 sw : Nat}
theorem c_order2 {a b : Nat} {K : Int → Int → Hp → Prop} (hs : Sat (L ++ [SwA b0 sw, UA s d]) h) (ha : a < d.size) (hb : b < d.size) (hsw : sw ≤ 1000)
  (hK : ∀ h', Sat (L ++ [SwA b0 (Sort.order2 Sort.ltInt d a b sw).2.2, UA s d]) h' → K ((Sort.order2 Sort.ltInt d a b sw).1 : Nat) ((Sort.order2 Sort.ltInt d a b sw).2.1 : Nat) h') : C111 s (a : Int) (b : Int) (some (bk b0)) h K := by
 apply S111; unfold N111
 have hs1 : Sat ((L ++ [SwA b0 sw]) ++ [UA s d]) h := Sat.csa hs
 refine rdU hs1 rfl hb ?_
 refine rdU hs1 rfl ha ?_
 refine c_less ?_
 unfold Sort.order2 at hK
 cases hl : Sort.ltInt d[b]! d[a]! with
 | true =>
  rw [hl, if_pos rfl] at hK
  rw [cond_true]
  simp only [nn_some']
  refine hs.lI 0 rfl rfl ?_
  refine hs.st 0 rfl (by simp) rfl ?_
  intro h1 hs2
  refine hK h1 ?_
  rw [wrn (n := (sw : Int) + 1) (k := sw + 1) (by omega) (by omega)] at hs2
  exact hs2
 | false =>
  rw [hl, if_neg (by decide)] at hK
  rw [cond_false]
  exact hK h hs
theorem order2_lt {a b n : Nat} (ha : a < n) (hb : b < n) : (Sort.order2 Sort.ltInt d a b sw).1 < n ∧ (Sort.order2 Sort.ltInt d a b sw).2.1 < n := by
 rcases Sort.order2_mem Sort.ltInt d a b sw with ⟨h1, h2⟩ | ⟨h1, h2⟩ <;> rw [h1, h2] <;> exact ⟨by assumption, by assumption⟩
theorem c_median {a b c : Nat} {K : Int → Hp → Prop} (hs : Sat (L ++ [SwA b0 sw, UA s d]) h) (ha : a < d.size) (hb : b < d.size) (hc : c < d.size) (hsw : sw ≤ 900)
  (hK : ∀ h', Sat (L ++ [SwA b0 (Sort.median Sort.ltInt d a b c sw).2, UA s d]) h' → K ((Sort.median Sort.ltInt d a b c sw).1 : Nat) h') : C109 s (a : Int) (b : Int) (c : Int) (some (bk b0)) h K := by
 apply S109; unfold N109
 unfold Sort.median at hK
 simp only at hK
 have m1 := order2_lt (d := d) (sw := sw) ha hb
 have k1 := Sort.order2_count Sort.ltInt d a b sw
 refine c_order2 hs ha hb (by omega) fun h1 hs1 => ?_
 generalize Sort.order2 Sort.ltInt d a b sw = r1 at hK m1 k1 hs1 ⊢
 have m2 := order2_lt (d := d) (sw := r1.2.2) m1.2 hc
 have k2 := Sort.order2_count Sort.ltInt d r1.2.1 c r1.2.2
 refine c_order2 hs1 m1.2 hc (by omega) fun h2 hs2 => ?_
 generalize Sort.order2 Sort.ltInt d r1.2.1 c r1.2.2 = r2 at hK m2 k2 hs2 ⊢
 exact c_order2 hs2 m1.1 m2.1 (by omega) fun h3 hs3 => hK h3 hs3
theorem c_medianA {a : Nat} {K : Int → Hp → Prop} (hs : Sat (L ++ [SwA b0 sw, UA s d]) h) (h1 : 1 ≤ a) (ha : a + 1 < d.size) (hd : d.size ≤ 1099511627776) (hsw : sw ≤ 900)
  (hK : ∀ h', Sat (L ++ [SwA b0 (Sort.medianAdjacent Sort.ltInt d a sw).2, UA s d]) h' → K ((Sort.medianAdjacent Sort.ltInt d a sw).1 : Nat) h') : C108 s (a : Int) (some (bk b0)) h K := by
 apply S108; unfold N108
 rw [wrn (n := (a : Int) - 1) (k := a - 1) (by omega) (by omega), wrn (n := (a : Int) + 1) (k := a + 1) (by omega) (by omega)]
 exact c_median hs (by omega) (by omega) (by omega) hsw hK
def hintN : Sort.Hint → Int
 | .unknown => 0
 | .increasing => 1
 | .decreasing => 2
theorem pivot_end {j : Nat} {K : Int → Int → Hp → Prop} (hs : Sat (L ++ [SwA b0 sw, UA s d]) h) (hK : ∀ h', Sat (L ++ [UA s d]) h' → K (j : Nat) (hintN (if sw = 0 then .increasing else if sw = 12 then .decreasing else .unknown)) h') : N98_j1 (some (bk b0)) (j : Int) h K := by
 unfold N98_j1
 simp only [nn_some']
 refine hs.lI 0 rfl rfl ?_
 have hs' : Sat (L ++ [UA s d]) h := hs.sel [1] (by decide) rfl
 by_cases e0 : sw = 0
 ·subst e0
  exact hK h hs'
 ·rw [show ((sw : Int) == 0) = false by simp; omega, cond_false]
  rw [if_neg e0] at hK
  by_cases e1 : sw = 12
  ·subst e1; exact hK h hs'
  ·rw [show ((sw : Int) == 12) = false by simp; omega, cond_false]
   rw [if_neg e1] at hK
   exact hK h hs'
theorem c_pivot {a b : Nat} {K : Int → Int → Hp → Prop} (hs : Sat (L ++ [UA s d]) h) (hb : b ≤ d.size) (hab : a < b) (hd : d.size ≤ 1099511627776)
  (hK : ∀ h', Sat (L ++ [UA s d]) h' → K ((Sort.choosePivot Sort.ltInt d a b).1 : Nat) (hintN (Sort.choosePivot Sort.ltInt d a b).2) h') : C98 s (a : Int) (b : Int) h K := by
 apply S98; unfold N98
 intro b0 e0
 have hs1 := (hs.new e0 (.cells ⟨[.int .i64 ((0 : Nat) : Int)]⟩ 3 (0, 0))).sel [1, 0] (by decide) (M' := [SwA b0 0, UA s d]) rfl
 revert hs1
 have e1 : (Obj.cells ⟨[.int .i64 0]⟩ 3 (0, 0)) = (Obj.cells ⟨[.int .i64 ((0 : Nat) : Int)]⟩ 3 (0, 0)) := rfl
 rw [e1]
 generalize upd h b0 _ = h1
 intro hs1
 have w0 : IntKind.wrap .i64 ((b : Int) - (a : Int)) = ((b - a : Nat) : Int) := wrn (by omega) (by omega)
 have w1 : Int.tdiv ((b - a : Nat) : Int) 4 = (((b - a) / 4 : Nat) : Int) := rfl
 have w2 : IntKind.wrap .i64 (((b - a) / 4 : Nat) : Int) = (((b - a) / 4 : Nat) : Int) := wrn rfl (by omega)
 have w3 : ∀ k : Nat, k ≤ 3 → IntKind.wrap .i64 ((a : Int) + IntKind.wrap .i64 ((((b - a) / 4 : Nat) : Int) * (k : Int))) = ((a + (b - a) / 4 * k : Nat) : Int) := by
  intro k hk
  have hle : (b - a) / 4 * k ≤ (b - a) / 4 * 3 := Nat.mul_le_mul_left _ hk
  rw [wrn (n := (((b - a) / 4 : Nat) : Int) * (k : Int)) (k := (b - a) / 4 * k) (by rw [Int.natCast_mul]) (by omega)]
  exact wrn (by omega) (by omega)
 have x1 := w3 1 (by omega)
 have x2 := w3 2 (by omega)
 have x3 := w3 3 (by omega)
 rw [w0, w1, w2]
 rw [show (((1 : Nat) : Int)) = 1 from rfl] at x1
 rw [show (((2 : Nat) : Int)) = 2 from rfl] at x2
 rw [show (((3 : Nat) : Int)) = 3 from rfl] at x3
 rw [x1, x2, x3]
 rw [Sort.choosePivot] at hK
 simp only at hK
 by_cases h8 : b - a ≥ 8
 ·rw [show decide (((b - a : Nat) : Int) ≥ 8) = true from decide_eq_true (by omega), cond_true]
  rw [if_pos h8] at hK
  have q2 : (b - a) / 4 * 2 + (b - a) / 4 * 1 = (b - a) / 4 * 3 := by omega
  have q3 : (b - a) / 4 * 3 + (b - a) / 4 ≤ b - a := by omega
  have q1 : 2 ≤ (b - a) / 4 := by omega
  by_cases h50 : b - a ≥ 50
  ·rw [show decide (((b - a : Nat) : Int) ≥ 50) = true from decide_eq_true (by omega), cond_true]
   rw [if_pos h50] at hK
   have m1 : ∀ x sw, x + 1 < d.size → (Sort.medianAdjacent Sort.ltInt d x sw).1 < d.size := fun x sw hx => by
    rcases Sort.medianAdjacent_mem Sort.ltInt d x sw with e | e | e <;> rw [e] <;> omega
   have k1 := Sort.medianAdjacent_count Sort.ltInt d (a + (b - a) / 4 * 1) 0
   have l1 := m1 (a + (b - a) / 4 * 1) 0 (by omega)
   refine c_medianA hs1 (by omega) (by omega) hd (by omega) fun h2 hs2 => ?_
   generalize Sort.medianAdjacent Sort.ltInt d (a + (b - a) / 4 * 1) 0 = ri at hK k1 l1 hs2 ⊢
   have k2 := Sort.medianAdjacent_count Sort.ltInt d (a + (b - a) / 4 * 2) ri.2
   have l2 := m1 (a + (b - a) / 4 * 2) ri.2 (by omega)
   refine c_medianA hs2 (by omega) (by omega) hd (by omega) fun h3 hs3 => ?_
   generalize Sort.medianAdjacent Sort.ltInt d (a + (b - a) / 4 * 2) ri.2 = rj at hK k2 l2 hs3 ⊢
   have k3 := Sort.medianAdjacent_count Sort.ltInt d (a + (b - a) / 4 * 3) rj.2
   have l3 := m1 (a + (b - a) / 4 * 3) rj.2 (by omega)
   refine c_medianA hs3 (by omega) (by omega) hd (by omega) fun h4 hs4 => ?_
   generalize Sort.medianAdjacent Sort.ltInt d (a + (b - a) / 4 * 3) rj.2 = rk at hK k3 l3 hs4 ⊢
   unfold N98_j0
   refine c_median hs4 l1 l2 l3 (by omega) fun h5 hs5 => ?_
   exact pivot_end hs5 hK
  ·rw [show decide (((b - a : Nat) : Int) ≥ 50) = false from decide_eq_false (by omega), cond_false]
   rw [if_neg h50] at hK
   unfold N98_j0
   refine c_median hs1 (by omega) (by omega) (by omega) (by omega) fun h5 hs5 => ?_
   exact pivot_end hs5 hK
 ·rw [show decide (((b - a : Nat) : Int) ≥ 8) = false from decide_eq_false (by omega), cond_false]
  rw [if_neg h8] at hK
  exact pivot_end hs1 hK
theorem scanSorted_le (b : Nat) : ∀ (n i : Nat), b - i ≤ n → Sort.scanSorted Sort.ltInt d b i ≤ max i b ∧ i ≤ Sort.scanSorted Sort.ltInt d b i := by
 intro n
 induction n with
 | zero => intro i hn; rw [Sort.scanSorted, if_neg (by simp; omega)]; omega
 | succ n ih =>
  intro i hn
  rw [Sort.scanSorted]
  split
  ·rename_i h; simp at h; have := ih (i + 1) (by omega); omega
  ·omega
theorem pins_scan {a b : Int} {n i : Nat} {j : Int} {K : Int → Hp → Prop} (hb : b = n) (hs : Sat (L ++ [UA s d]) h) (hn : n ≤ d.size) (h1 : 1 ≤ i) (hi : i ≤ d.size + 1) (hd : d.size ≤ 1099511627776) (hK : K ((Sort.scanSorted Sort.ltInt d n i : Nat) : Int) h) : N100_l1 s a b j (i : Int) h K := by
 subst hb
 unfold N100_l1
 refine loopP_inv (fun (x : Int) hc => hc = h ∧ ∃ k : Nat, x = k ∧ 1 ≤ k ∧ k ≤ d.size + 1 ∧ Sort.scanSorted Sort.ltInt d n k = Sort.scanSorted Sort.ltInt d n i) (fun x _ => n - x.toNat) ?_ ⟨rfl, i, rfl, h1, hi, rfl⟩
 rintro x hc ⟨rfl, k, rfl, hk1, hk, hr⟩
 unfold N100_l1_B N100_l1_b
 dsimp only
 rw [Sort.scanSorted] at hr
 by_cases hkj : k < n
 ·rw [show decide ((k : Int) < (n : Int)) = true from decide_eq_true (by omega), cond_true]
  rw [wrn (n := (k : Int) - 1) (k := k - 1) (by omega) (by omega)]
  refine rdU hs rfl (by omega) ?_
  refine rdU hs rfl (by omega) ?_
  refine c_less ?_
  cases hl : Sort.ltInt d[k]! d[k - 1]! with
  | false =>
   rw [if_pos (by simp [hl, hkj])] at hr
   rw [Bool.not_false, cond_true, wrn (n := (k : Int) + 1) (k := k + 1) (by omega) (by omega)]
   exact ⟨⟨rfl, k + 1, rfl, by omega, by omega, hr⟩, by simp only [Int.toNat_natCast]; omega⟩
  | true =>
   rw [if_neg (by simp [hl])] at hr
   rw [Bool.not_true, cond_false, hr]; exact hK
 ·rw [show decide ((k : Int) < (n : Int)) = false from decide_eq_false (by omega), cond_false]
  rw [if_neg (by simp [hkj])] at hr
  rw [hr]; exact hK
theorem pins_dn {a b i : Int} {j : Int} {k0 : Nat} {K : Hp → Prop} (hs : Sat (L ++ [UA s d]) h) (hi : k0 < d.size) (hd : d.size ≤ 1099511627776) (hK : ∀ h', Sat (L ++ [UA s (Sort.shiftDown Sort.ltInt k0 d)]) h' → K h') : N100_l2 s a b i j (k0 : Int) h K := by
 unfold N100_l2
 refine loopP_inv (fun (x : Int) hc => ∃ (k : Nat) (e : Array Int), x = k ∧ k ≤ k0 ∧ Sort.shiftDown Sort.ltInt k e = Sort.shiftDown Sort.ltInt k0 d ∧ Sat (L ++ [UA s e]) hc) (fun x _ => x.toNat) ?_ ⟨k0, d, rfl, Nat.le_refl _, rfl, hs⟩
 have hn := uaN hs
 rintro x hc ⟨k, e, rfl, hk, hr, hs⟩
 have hn2 := uaN hs
 unfold N100_l2_B N100_l2_b
 dsimp only
 by_cases h1 : 1 ≤ k
 ·obtain ⟨q, rfl⟩ : ∃ q, k = q + 1 := ⟨k - 1, by omega⟩
  rw [show decide (((q + 1 : Nat) : Int) ≥ 1) = true from decide_eq_true (by omega), cond_true]
  rw [wrn (n := ((q + 1 : Nat) : Int) - 1) (k := q) (by omega) (by omega)]
  rw [Sort.shiftDown] at hr
  refine rdU hs rfl (by omega) ?_
  refine rdU hs rfl (by omega) ?_
  refine c_less ?_
  cases hl : Sort.ltInt e[q + 1]! e[q]! with
  | false =>
   rw [if_pos (by simp [hl])] at hr
   rw [Bool.not_false, cond_true]
   refine hK hc ?_
   rw [← hr]; exact hs
  | true =>
   rw [if_neg (by simp [hl])] at hr
   rw [Bool.not_true, cond_false]
   exact swU hs rfl rfl (by omega) (by omega) fun h2 hs2 => ⟨⟨q, _, rfl, by omega, hr, hs2⟩, by simp only [Int.toNat_natCast]; omega⟩
 ·rw [show decide ((k : Int) ≥ 1) = false from decide_eq_false (by omega), cond_false]
  refine hK hc ?_
  rw [← hr, show k = 0 by omega]; exact hs
theorem pins_up {a b i : Int} {j : Int} {n k0 : Nat} {K : Hp → Prop} (hb : b = n) (hs : Sat (L ++ [UA s d]) h) (hn : n ≤ d.size) (h1 : 1 ≤ k0) (hi : k0 ≤ d.size + 1) (hd : d.size ≤ 1099511627776) (hK : ∀ h', Sat (L ++ [UA s (Sort.shiftUp Sort.ltInt n k0 d)]) h' → K h') : N100_l4 s a b i j (k0 : Int) h K := by
 subst hb
 unfold N100_l4
 refine loopP_inv (fun (x : Int) hc => ∃ (k : Nat) (e : Array Int), x = k ∧ 1 ≤ k ∧ k ≤ d.size + 1 ∧ Sort.shiftUp Sort.ltInt n k e = Sort.shiftUp Sort.ltInt n k0 d ∧ Sat (L ++ [UA s e]) hc) (fun x _ => n - x.toNat) ?_ ⟨k0, d, rfl, h1, hi, rfl, hs⟩
 have hn0 := uaN hs
 rintro x hc ⟨k, e, rfl, hk1, hk, hr, hs⟩
 have hn2 := uaN hs
 unfold N100_l4_B N100_l4_b
 dsimp only
 rw [Sort.shiftUp] at hr
 by_cases hkn : k < n
 ·rw [if_pos hkn] at hr
  rw [show decide ((k : Int) < (n : Int)) = true from decide_eq_true (by omega), cond_true]
  rw [wrn (n := (k : Int) - 1) (k := k - 1) (by omega) (by omega)]
  refine rdU hs rfl (by omega) ?_
  refine rdU hs rfl (by omega) ?_
  refine c_less ?_
  cases hl : Sort.ltInt e[k]! e[k - 1]! with
  | false =>
   rw [if_pos (by simp [hl])] at hr
   rw [Bool.not_false, cond_true]
   refine hK hc ?_
   rw [← hr]; exact hs
  | true =>
   rw [if_neg (by simp [hl])] at hr
   rw [Bool.not_true, cond_false, wrn (n := (k : Int) + 1) (k := k + 1) (by omega) (by omega)]
   exact swU hs rfl rfl (by omega) (by omega) fun h2 hs2 => ⟨⟨k + 1, _, rfl, by omega, by omega, hr, hs2⟩, by simp only [Int.toNat_natCast]; omega⟩
 ·rw [if_neg hkn] at hr
  rw [show decide ((k : Int) < (n : Int)) = false from decide_eq_false (by omega), cond_false]
  refine hK hc ?_
  rw [← hr]; exact hs
theorem c_pins {a b : Nat} {K : Bool → Hp → Prop} (hs : Sat (L ++ [UA s d]) h) (hb : b ≤ d.size) (hab : a < b) (hd : d.size ≤ 1099511627776)
  (hK : ∀ h', Sat (L ++ [UA s (Sort.partialInsertionSort Sort.ltInt d a b).1]) h' → K (Sort.partialInsertionSort Sort.ltInt d a b).2 h') : C100 s (a : Int) (b : Int) h K := by
 apply S100; unfold N100 N100_l0
 rw [wrn (n := (a : Int) + 1) (k := a + 1) (by omega) (by omega)]
 unfold Sort.partialInsertionSort at hK
 have hn := uaN hs
 refine loopP_inv (fun (x : Int × Int) hc => ∃ (i j : Nat) (e : Array Int), x.1 = i ∧ x.2 = j ∧ 1 ≤ i ∧ a + 1 ≤ i ∧ i ≤ b ∧ j ≤ 5 ∧ Sort.partialIns Sort.ltInt a b (5 - j) i e = Sort.partialIns Sort.ltInt a b 5 (a + 1) d ∧ Sat (L ++ [UA s e]) hc) (fun x _ => 5 - x.2.toNat) ?_ ⟨a + 1, 0, d, rfl, rfl, by omega, by omega, by omega, by omega, rfl, hs⟩
 clear hs
 rintro ⟨x, y⟩ hc ⟨i, j, e, hx, hy, hi1, hai, hib, hj, hr, hs⟩
 simp only at hx hy
 subst hx hy
 have hn2 := uaN hs
 unfold N100_l0_B N100_l0_b
 dsimp only
 by_cases hj5 : j < 5
 ·rw [show decide ((j : Int) < 5) = true from decide_eq_true (by omega), cond_true]
  rw [show 5 - j = (4 - j) + 1 by omega, Sort.partialIns] at hr
  simp only at hr
  refine pins_scan rfl hs (by omega) hi1 (by omega) (by omega) ?_
  obtain ⟨u1, u2⟩ := scanSorted_le (d := e) b _ i (Nat.le_refl _)
  generalize Sort.scanSorted Sort.ltInt e b i = q at hr u1 u2 ⊢
  by_cases hq : q = b
  ·rw [if_pos hq] at hr
   rw [show ((q : Int) == (b : Int)) = true by simp [hq], cond_true]
   rw [← hr] at hK
   exact hK hc hs
  ·rw [if_neg hq] at hr
   rw [show ((q : Int) == (b : Int)) = false by simp; omega, cond_false]
   rw [wrn (n := (b : Int) - (a : Int)) (k := b - a) (by omega) (by omega)]
   by_cases h50 : b - a < 50
   ·rw [if_pos h50] at hr
    rw [show decide (((b - a : Nat) : Int) < 50) = true from decide_eq_true (by omega), cond_true]
    rw [← hr] at hK
    exact hK hc hs
   ·rw [if_neg h50] at hr
    rw [show decide (((b - a : Nat) : Int) < 50) = false from decide_eq_false (by omega), cond_false]
    rw [wrn (n := (q : Int) - 1) (k := q - 1) (by omega) (by omega)]
    refine swU hs rfl rfl (by omega) (by omega) fun h2 hs2 => ?_
    rw [wrn (n := (q : Int) - (a : Int)) (k := q - a) (by omega) (by omega)]
    have j3 : ∀ (e2 : Array Int) (hc : Hp), Sat (L ++ [UA s e2]) hc → Sort.partialIns Sort.ltInt a b (4 - j) q (if b - q ≥ 2 then Sort.shiftUp Sort.ltInt b (q + 1) e2 else e2) = Sort.partialIns Sort.ltInt a b 5 (a + 1) d →
      N100_j3 s (a : Int) (b : Int) (q : Int) (j : Int) hc (fun h4 => (∃ (i j' : Nat) (e : Array Int), (q : Int) = i ∧ IntKind.wrap .i64 ((j : Int) + 1) = j' ∧ 1 ≤ i ∧ a + 1 ≤ i ∧ i ≤ b ∧ j' ≤ 5 ∧ Sort.partialIns Sort.ltInt a b (5 - j') i e = Sort.partialIns Sort.ltInt a b 5 (a + 1) d ∧ Sat (L ++ [UA s e]) h4) ∧ 5 - (IntKind.wrap .i64 ((j : Int) + 1)).toNat < 5 - ((j : Nat) : Int).toNat) := by
     intro e2 hc hs2 hr2
     have hn3 := uaN hs2
     rw [wrn (n := (j : Int) + 1) (k := j + 1) (by omega) (by omega)]
     unfold N100_j3
     rw [wrn (n := (b : Int) - (q : Int)) (k := b - q) (by omega) (by omega)]
     by_cases h2 : b - q ≥ 2
     ·rw [if_pos h2] at hr2
      rw [show decide (((b - q : Nat) : Int) ≥ 2) = true from decide_eq_true (by omega), cond_true]
      rw [wrn (n := (q : Int) + 1) (k := q + 1) (by omega) (by omega)]
      refine pins_up rfl hs2 (by omega) (by omega) (by omega) (by omega) fun h4 hs4 => ?_
      exact ⟨⟨q, j + 1, _, rfl, rfl, by omega, by omega, by omega, by omega, by rw [show 5 - (j + 1) = 4 - j by omega]; exact hr2, hs4⟩, by simp only [Int.toNat_natCast]; omega⟩
     ·rw [if_neg h2] at hr2
      rw [show decide (((b - q : Nat) : Int) ≥ 2) = false from decide_eq_false (by omega), cond_false]
      exact ⟨⟨q, j + 1, _, rfl, rfl, by omega, by omega, by omega, by omega, by rw [show 5 - (j + 1) = 4 - j by omega]; exact hr2, hs2⟩, by simp only [Int.toNat_natCast]; omega⟩
    by_cases h2 : q - a ≥ 2
    ·rw [if_pos h2] at hr
     rw [show decide (((q - a : Nat) : Int) ≥ 2) = true from decide_eq_true (by omega), cond_true]
     have hn3 := uaN hs2
     refine pins_dn hs2 (by omega) (by omega) fun h3 hs3 => ?_
     exact j3 _ _ hs3 hr
    ·rw [if_neg h2] at hr
     rw [show decide (((q - a : Nat) : Int) ≥ 2) = false from decide_eq_false (by omega), cond_false]
     exact j3 _ _ hs2 hr
 ·rw [show decide ((j : Int) < 5) = false from decide_eq_false (by omega), cond_false]
  rw [show 5 - j = 0 by omega, Sort.partialIns] at hr
  rw [← hr] at hK
  exact hK hc hs
end
end Go.Proofs.YtbbnpmikjdgdpaaGreat

set_option linter.unusedVariables false
set_option maxRecDepth 100000
namespace Go.Proofs.YtbbnpmikjdgdpaaGreat
open Go Go.Hw
noncomputable def B93 : Code := match Tryz.f93.body with | some c => c | none => .skip
def N93_j3 (x0 : Sl) (x1 x2 x3 : Int) (x8 x9 : Bool) (x10 x11 : Int) (x68 : Bool) (h : Hp) (Kn Kr : Hp → Prop) : Prop :=
 bif x68 then
 C100 x0 x1 x2 h fun b0 h0 =>
 bif b0 then
 Kr h0
 else
 Kn h0
 else
 Kn h
noncomputable def N93_j3_t : Xf := pieceT [(0, .c (.slice)), (1, .c (.int .i64)), (2, .c (.int .i64)), (3, .c (.int .i64)), (8, .c (.bool)), (9, .c (.bool)), (10, .c (.int .i64)), (11, .c (.int .i64)), (68, .c (.bool))] (codeAt B93 [1, 1, 0, 0, 0, 1, 1, 1, 1, 1, 1, 0, 1]) fun x h Q => N93_j3 x.1 x.2.1 x.2.2.1 x.2.2.2.1 x.2.2.2.2.1 x.2.2.2.2.2.1 x.2.2.2.2.2.2.1 x.2.2.2.2.2.2.2.1 x.2.2.2.2.2.2.2.2 h (fun h' => Q .normal (Sg.env [] ()) h') (fun h' => Q .ret (Sg.env [] ()) h')
theorem N93_j3_ok : Sound Tryz.prog Tryz.f93.ntmps N93_j3_t (codeAt B93 [1, 1, 0, 0, 0, 1, 1, 1, 1, 1, 1, 0, 1]) := by
 refine piece_sound (fun e => match e with | .normal => [] | .ret => [] | _ => []) ?_
 intro x h Q hb
 refine den_sound hE hm _ .leaf _ _ _ (annOk_leaf) ?_
 refine cast ?_ hb
 kernel_rfl
def N93_j5 (x0 : Sl) (x1 x2 x3 : Int) (x8 x9 : Bool) (x10 x11 : Int) (x87 : Bool) (h : Hp) (K1 Kn : Int → Hp → Prop) : Prop :=
 bif x87 then
 C102 x0 x1 x2 x11 h fun n0 h0 =>
 K1 n0 h0
 else
 Kn x1 h
noncomputable def N93_j5_t : Xf := pieceT [(0, .c (.slice)), (1, .c (.int .i64)), (2, .c (.int .i64)), (3, .c (.int .i64)), (8, .c (.bool)), (9, .c (.bool)), (10, .c (.int .i64)), (11, .c (.int .i64)), (87, .c (.bool))] (codeAt B93 [1, 1, 0, 0, 0, 1, 1, 1, 1, 1, 1, 1, 0, 1]) fun x h Q => N93_j5 x.1 x.2.1 x.2.2.1 x.2.2.2.1 x.2.2.2.2.1 x.2.2.2.2.2.1 x.2.2.2.2.2.2.1 x.2.2.2.2.2.2.2.1 x.2.2.2.2.2.2.2.2 h (fun o0 h' => Q (.exit 1) (Sg.env [(1, .c (.int .i64))] o0) h') (fun o0 h' => Q .normal (Sg.env [(1, .c (.int .i64))] o0) h')
theorem N93_j5_ok : Sound Tryz.prog Tryz.f93.ntmps N93_j5_t (codeAt B93 [1, 1, 0, 0, 0, 1, 1, 1, 1, 1, 1, 1, 0, 1]) := by
 refine piece_sound (fun e => match e with | .exit 1 => [1] | .normal => [1] | _ => []) ?_
 intro x h Q hb
 refine den_sound hE hm _ .leaf _ _ _ (annOk_leaf) ?_
 refine cast ?_ hb
 kernel_rfl
def N93_j6 (x0 : Sl) (x1 x2 x3 x10 x11 : Int) (h : Hp) (Kn : Int → Int → Bool → Bool → Hp → Prop) : Prop :=
 C103 x0 x1 x2 x11 h fun n0 b0 h0 =>
 bif (decide ((IntKind.wrap .i64 (n0 - x1)) < (IntKind.wrap .i64 (x2 - n0)))) then
 C93 x0 x1 n0 x3 h0 fun h1 =>
 Kn (IntKind.wrap .i64 (n0 + 1)) x2 (decide ((IntKind.wrap .i64 (n0 - x1)) ≥ (IntKind.wrap .i64 (Int.tdiv x10 8)))) b0 h1
 else
 C93 x0 (IntKind.wrap .i64 (n0 + 1)) x2 x3 h0 fun h2 =>
 Kn x1 n0 (decide ((IntKind.wrap .i64 (x2 - n0)) ≥ (IntKind.wrap .i64 (Int.tdiv x10 8)))) b0 h2
noncomputable def N93_j6_t : Xf := pieceT [(0, .c (.slice)), (1, .c (.int .i64)), (2, .c (.int .i64)), (3, .c (.int .i64)), (10, .c (.int .i64)), (11, .c (.int .i64))] (codeAt B93 [1, 1, 0, 0, 0, 1, 1, 1, 1, 1, 1, 1, 1]) fun x h Q => N93_j6 x.1 x.2.1 x.2.2.1 x.2.2.2.1 x.2.2.2.2.1 x.2.2.2.2.2 h (fun o0 o1 o2 o3 h' => Q .normal (Sg.env [(1, .c (.int .i64)), (2, .c (.int .i64)), (8, .c (.bool)), (9, .c (.bool))] (o0, o1, o2, o3)) h')
theorem N93_j6_ok : Sound Tryz.prog Tryz.f93.ntmps N93_j6_t (codeAt B93 [1, 1, 0, 0, 0, 1, 1, 1, 1, 1, 1, 1, 1]) := by
 refine piece_sound (fun e => match e with | .normal => [1, 2, 8, 9] | _ => []) ?_
 intro x h Q hb
 refine den_sound hE hm _ .leaf _ _ _ (annOk_leaf) ?_
 refine cast ?_ hb
 kernel_rfl
def N93_j4 (x0 : Sl) (x1 x2 x3 : Int) (x8 x9 : Bool) (x10 x11 : Int) (h : Hp) (K1 Kn : Int → Int → Bool → Bool → Hp → Prop) : Prop :=
 bif (decide (x1 > 0)) then
 idx (IntKind.wrap .i64 (x1 - 1)) x0.n <|
 nn x0.p fun a0 =>
 xI .u32 (cell h (a0.add ((IntKind.wrap .i64 (x1 - 1)).toNat * 1))) fun n0 =>
 idx x11 x0.n <|
 nn x0.p fun a1 =>
 xI .u32 (cell h (a1.add (x11.toNat * 1))) fun n1 =>
 C101 n0 n1 h fun b0 h0 =>
 N93_j5 x0 x1 x2 x3 x8 x9 x10 x11 (!b0) h0
 (fun n2 h1 =>
 K1 n2 x2 x8 x9 h1)
 (fun n3 h2 =>
 N93_j6 x0 n3 x2 x3 x10 x11 h2
 (fun n4 n5 b1 b2 h3 =>
 Kn n4 n5 b1 b2 h3))
 else
 N93_j5 x0 x1 x2 x3 x8 x9 x10 x11 false h
 (fun n6 h4 =>
 K1 n6 x2 x8 x9 h4)
 (fun n7 h5 =>
 N93_j6 x0 n7 x2 x3 x10 x11 h5
 (fun n8 n9 b3 b4 h6 =>
 Kn n8 n9 b3 b4 h6))
noncomputable def N93_j4_t : Xf := pieceT [(0, .c (.slice)), (1, .c (.int .i64)), (2, .c (.int .i64)), (3, .c (.int .i64)), (8, .c (.bool)), (9, .c (.bool)), (10, .c (.int .i64)), (11, .c (.int .i64))] (codeAt B93 [1, 1, 0, 0, 0, 1, 1, 1, 1, 1, 1, 1]) fun x h Q => N93_j4 x.1 x.2.1 x.2.2.1 x.2.2.2.1 x.2.2.2.2.1 x.2.2.2.2.2.1 x.2.2.2.2.2.2.1 x.2.2.2.2.2.2.2 h (fun o0 o1 o2 o3 h' => Q (.exit 1) (Sg.env [(1, .c (.int .i64)), (2, .c (.int .i64)), (8, .c (.bool)), (9, .c (.bool))] (o0, o1, o2, o3)) h') (fun o0 o1 o2 o3 h' => Q .normal (Sg.env [(1, .c (.int .i64)), (2, .c (.int .i64)), (8, .c (.bool)), (9, .c (.bool))] (o0, o1, o2, o3)) h')
theorem N93_j4_ok : Sound Tryz.prog Tryz.f93.ntmps N93_j4_t (codeAt B93 [1, 1, 0, 0, 0, 1, 1, 1, 1, 1, 1, 1]) := by
 refine piece_sound (fun e => match e with | .exit 1 => [1, 2, 8, 9] | .normal => [1, 2, 8, 9] | _ => []) ?_
 intro x h Q hb
 refine den_sound hE hm _ (.two (.two (.ord [0, 1, 2, 3, 4, 5, 6, 7, 8, 9, 10, 11, 12, 13, 14]) (.xf N93_j5_t)) (.xf N93_j6_t)) _ _ _ (⟨⟨trivial, N93_j5_ok⟩, N93_j6_ok⟩) ?_
 refine cast ?_ hb
 kernel_rfl
def N93_j2 (x0 : Sl) (x1 x2 x3 : Int) (x8 x9 : Bool) (x10 x11 x12 : Int) (h : Hp) (K1 Kn : Int → Int → Bool → Bool → Hp → Prop) (Kr : Hp → Prop) : Prop :=
 bif x8 then
 bif x9 then
 N93_j3 x0 x1 x2 x3 x8 x9 x10 x11 (x12 == 1) h
 (fun h0 =>
 N93_j4 x0 x1 x2 x3 x8 x9 x10 x11 h0
 (fun n0 n1 b0 b1 h1 =>
 K1 n0 n1 b0 b1 h1)
 (fun n2 n3 b2 b3 h2 =>
 Kn n2 n3 b2 b3 h2))
 (fun h3 =>
 Kr h3)
 else
 N93_j3 x0 x1 x2 x3 x8 x9 x10 x11 false h
 (fun h4 =>
 N93_j4 x0 x1 x2 x3 x8 x9 x10 x11 h4
 (fun n4 n5 b4 b5 h5 =>
 K1 n4 n5 b4 b5 h5)
 (fun n6 n7 b6 b7 h6 =>
 Kn n6 n7 b6 b7 h6))
 (fun h7 =>
 Kr h7)
 else
 N93_j3 x0 x1 x2 x3 x8 x9 x10 x11 false h
 (fun h8 =>
 N93_j4 x0 x1 x2 x3 x8 x9 x10 x11 h8
 (fun n8 n9 b8 b9 h9 =>
 K1 n8 n9 b8 b9 h9)
 (fun n10 n11 b10 b11 h10 =>
 Kn n10 n11 b10 b11 h10))
 (fun h11 =>
 Kr h11)
noncomputable def N93_j2_t : Xf := pieceT [(0, .c (.slice)), (1, .c (.int .i64)), (2, .c (.int .i64)), (3, .c (.int .i64)), (8, .c (.bool)), (9, .c (.bool)), (10, .c (.int .i64)), (11, .c (.int .i64)), (12, .c (.int .i64))] (codeAt B93 [1, 1, 0, 0, 0, 1, 1, 1, 1, 1, 1]) fun x h Q => N93_j2 x.1 x.2.1 x.2.2.1 x.2.2.2.1 x.2.2.2.2.1 x.2.2.2.2.2.1 x.2.2.2.2.2.2.1 x.2.2.2.2.2.2.2.1 x.2.2.2.2.2.2.2.2 h (fun o0 o1 o2 o3 h' => Q (.exit 1) (Sg.env [(1, .c (.int .i64)), (2, .c (.int .i64)), (8, .c (.bool)), (9, .c (.bool))] (o0, o1, o2, o3)) h') (fun o0 o1 o2 o3 h' => Q .normal (Sg.env [(1, .c (.int .i64)), (2, .c (.int .i64)), (8, .c (.bool)), (9, .c (.bool))] (o0, o1, o2, o3)) h') (fun h' => Q .ret (Sg.env [] ()) h')
theorem N93_j2_ok : Sound Tryz.prog Tryz.f93.ntmps N93_j2_t (codeAt B93 [1, 1, 0, 0, 0, 1, 1, 1, 1, 1, 1]) := by
 refine piece_sound (fun e => match e with | .exit 1 => [1, 2, 8, 9] | .normal => [1, 2, 8, 9] | .ret => [] | _ => []) ?_
 intro x h Q hb
 refine den_sound hE hm _ (.two (.two .leaf (.xf N93_j3_t)) (.xf N93_j4_t)) _ _ _ (⟨⟨annOk_leaf, N93_j3_ok⟩, N93_j4_ok⟩) ?_
 refine cast ?_ hb
 kernel_rfl
def N93_j1 (x0 : Sl) (x1 x2 x3 : Int) (x8 x9 : Bool) (x10 : Int) (h : Hp) (K1 Kn : Int → Int → Bool → Bool → Hp → Prop) (Kr : Hp → Prop) : Prop :=
 C98 x0 x1 x2 h fun n0 n1 h0 =>
 bif (n1 == 2) then
 C99 x0 x1 x2 h0 fun h1 =>
 N93_j2 x0 x1 x2 x3 x8 x9 x10 (IntKind.wrap .i64 ((IntKind.wrap .i64 (x2 - 1)) - (IntKind.wrap .i64 (n0 - x1)))) 1 h1
 (fun n2 n3 b0 b1 h2 =>
 K1 n2 n3 b0 b1 h2)
 (fun n4 n5 b2 b3 h3 =>
 Kn n4 n5 b2 b3 h3)
 (fun h4 =>
 Kr h4)
 else
 N93_j2 x0 x1 x2 x3 x8 x9 x10 n0 n1 h0
 (fun n6 n7 b4 b5 h5 =>
 K1 n6 n7 b4 b5 h5)
 (fun n8 n9 b6 b7 h6 =>
 Kn n8 n9 b6 b7 h6)
 (fun h7 =>
 Kr h7)
noncomputable def N93_j1_t : Xf := pieceT [(0, .c (.slice)), (1, .c (.int .i64)), (2, .c (.int .i64)), (3, .c (.int .i64)), (8, .c (.bool)), (9, .c (.bool)), (10, .c (.int .i64))] (codeAt B93 [1, 1, 0, 0, 0, 1, 1, 1, 1]) fun x h Q => N93_j1 x.1 x.2.1 x.2.2.1 x.2.2.2.1 x.2.2.2.2.1 x.2.2.2.2.2.1 x.2.2.2.2.2.2 h (fun o0 o1 o2 o3 h' => Q (.exit 1) (Sg.env [(1, .c (.int .i64)), (2, .c (.int .i64)), (8, .c (.bool)), (9, .c (.bool))] (o0, o1, o2, o3)) h') (fun o0 o1 o2 o3 h' => Q .normal (Sg.env [(1, .c (.int .i64)), (2, .c (.int .i64)), (8, .c (.bool)), (9, .c (.bool))] (o0, o1, o2, o3)) h') (fun h' => Q .ret (Sg.env [] ()) h')
theorem N93_j1_ok : Sound Tryz.prog Tryz.f93.ntmps N93_j1_t (codeAt B93 [1, 1, 0, 0, 0, 1, 1, 1, 1]) := by
 refine piece_sound (fun e => match e with | .exit 1 => [1, 2, 8, 9] | .normal => [1, 2, 8, 9] | .ret => [] | _ => []) ?_
 intro x h Q hb
 refine den_sound hE hm _ (.two .leaf (.two .leaf (.xf N93_j2_t))) _ _ _ (⟨annOk_leaf, ⟨annOk_leaf, N93_j2_ok⟩⟩) ?_
 refine cast ?_ hb
 kernel_rfl
def N93_l0_b (x0 : Sl) (Φ : Int → Int → Int → Bool → Bool → Hp → Prop) (x1 x2 x3 : Int) (x8 x9 : Bool) (h : Hp) (Kr : Hp → Prop) : Prop :=
 bif (decide ((IntKind.wrap .i64 (x2 - x1)) ≤ 12)) then
 C95 x0 x1 x2 h fun h0 =>
 Kr h0
 else
 bif (x3 == 0) then
 C96 x0 x1 x2 h fun h1 =>
 Kr h1
 else
 bif (!x8) then
 C97 x0 x1 x2 h fun h2 =>
 N93_j1 x0 x1 x2 (IntKind.wrap .i64 (x3 - 1)) x8 x9 (IntKind.wrap .i64 (x2 - x1)) h2
 (fun n0 n1 b0 b1 h3 =>
 Φ n0 n1 (IntKind.wrap .i64 (x3 - 1)) b0 b1 h3)
 (fun n2 n3 b2 b3 h4 =>
 Φ n2 n3 (IntKind.wrap .i64 (x3 - 1)) b2 b3 h4)
 (fun h5 =>
 Kr h5)
 else
 N93_j1 x0 x1 x2 x3 x8 x9 (IntKind.wrap .i64 (x2 - x1)) h
 (fun n4 n5 b4 b5 h6 =>
 Φ n4 n5 x3 b4 b5 h6)
 (fun n6 n7 b6 b7 h7 =>
 Φ n6 n7 x3 b6 b7 h7)
 (fun h8 =>
 Kr h8)
def N93_l0_B (x0 : Sl) (Kr : Hp → Prop) (s : Sg.T [(1, .c (.int .i64)), (2, .c (.int .i64)), (3, .c (.int .i64)), (8, .c (.bool)), (9, .c (.bool))]) (h : Hp) (Φ : Sg.T [(1, .c (.int .i64)), (2, .c (.int .i64)), (3, .c (.int .i64)), (8, .c (.bool)), (9, .c (.bool))] → Hp → Prop) : Prop :=
 N93_l0_b x0 (fun x1 x2 x3 x8 x9 h => Φ (x1, x2, x3, x8, x9) h) s.1 s.2.1 s.2.2.1 s.2.2.2.1 s.2.2.2.2 h Kr
def N93_l0 (x0 : Sl) (x1 x2 x3 : Int) (x8 x9 : Bool) (h : Hp) (Kr : Hp → Prop) : Prop :=
 loopP (N93_l0_B x0 Kr) (x1, x2, x3, x8, x9) h
noncomputable def N93_l0_t : Xf := loopT [(0, .c (.slice))] [(1, .c (.int .i64)), (2, .c (.int .i64)), (3, .c (.int .i64)), (8, .c (.bool)), (9, .c (.bool))] (codeAt B93 [1, 1, 0, 0]) fun F Q => N93_l0_B F (fun h' => Q .ret (Sg.env [] ()) h')
theorem N93_l0_ok : Sound Tryz.prog Tryz.f93.ntmps N93_l0_t (codeAt B93 [1, 1, 0]) := by
 refine loop_sound (fun e => match e with | .ret => [] | _ => []) (by kernel_rfl) ?_
 intro F Q s h Φ hb
 refine den_sound hE hm _ (.one (.two .leaf (.two .leaf (.two .leaf (.two .leaf (.xf N93_j1_t)))))) _ _ _ (⟨annOk_leaf, ⟨annOk_leaf, ⟨annOk_leaf, ⟨annOk_leaf, N93_j1_ok⟩⟩⟩⟩) ?_
 refine cast ?_ hb
 kernel_rfl
def N93 (x0 : Sl) (x1 x2 x3 : Int) (h : Hp) (K : Hp → Prop) : Prop :=
 N93_l0 x0 x1 x2 x3 true true h
 (fun h0 =>
 K h0)
theorem S93 {x0 : Sl} {x1 x2 x3 : Int} {h : Hp} {K : Hp → Prop} (hn : N93 x0 x1 x2 x3 h K) : C93 x0 x1 x2 x3 h K := by
 refine calls_of_D Tryz.func93 (c := B93) rfl (by kernel_rfl) ?_
 refine den_sound hE hm _ (.two .leaf (.two .leaf (.one (.xf N93_l0_t)))) _ _ _ (⟨annOk_leaf, ⟨annOk_leaf, N93_l0_ok⟩⟩) ?_
 refine cast ?_ hn
 kernel_rfl
end Go.Proofs.YtbbnpmikjdgdpaaGreat

set_option linter.unusedVariables false
set_option maxRecDepth 100000
namespace Go.Proofs.YtbbnpmikjdgdpaaGreat
open Go Go.Hw
noncomputable def B91 : Code := match Tryz.f91.body with | some c => c | none => .skip
def N91 (x0 : Sl) (h : Hp) (K : Hp → Prop) : Prop :=
 C94 (IntKind.wrap .u64 ((x0.n : Nat) : Int)) h fun n0 h0 =>
 C93 x0 0 ((x0.n : Nat) : Int) n0 h0 fun h1 =>
 K h1
theorem S91 {x0 : Sl} {h : Hp} {K : Hp → Prop} (hn : N91 x0 h K) : C91 x0 h K := by
 refine calls_of_D Tryz.func91 (c := B91) rfl (by kernel_rfl) ?_
 refine den_sound hE hm _ .leaf _ _ _ (annOk_leaf) ?_
 refine cast ?_ hn
 kernel_rfl
end Go.Proofs.YtbbnpmikjdgdpaaGreat

/-
 The sort of a row of uint32, fifth part: the broken patterns, pdqsort, slices.Sort.
-/
set_option linter.unusedSimpArgs false
set_option linter.unusedVariables false
namespace Go.Proofs.YtbbnpmikjdgdpaaGreat
open Go Go.Hw
set_option maxRecDepth 100000 in
theorem len_tab : ∀ n < 256, ∀ (h : Hp) (K : Int → Hp → Prop), K ((Sort.bitsLen n : Nat) : Int) h → N104_j2 ((n : Nat) : Int) 0 h K := by
 intro n hn h K hK
 unfold N104_j2
 have key : ∀ n < 256, IntKind.wrap .i64 (0 + IntKind.wrap .i64 (sbyte (⟨⟨[0, 1, 2, 2, 3, 3, 3, 3, 4, 4, 4, 4, 4, 4, 4, 4, 5, 5, 5, 5, 5, 5, 5, 5, 5, 5, 5, 5, 5, 5, 5, 5, 6, 6, 6, 6, 6, 6, 6, 6, 6, 6, 6, 6, 6, 6, 6, 6, 6, 6, 6, 6, 6, 6, 6, 6, 6, 6, 6, 6, 6, 6, 6, 6, 7, 7, 7, 7, 7, 7, 7, 7, 7, 7, 7, 7, 7, 7, 7, 7, 7, 7, 7, 7, 7, 7, 7, 7, 7, 7, 7, 7, 7, 7, 7, 7, 7, 7, 7, 7, 7, 7, 7, 7, 7, 7, 7, 7, 7, 7, 7, 7, 7, 7, 7, 7, 7, 7, 7, 7, 7, 7, 7, 7, 7, 7, 7, 7, 8, 8, 8, 8, 8, 8, 8, 8, 8, 8, 8, 8, 8, 8, 8, 8, 8, 8, 8, 8, 8, 8, 8, 8, 8, 8, 8, 8, 8, 8, 8, 8, 8, 8, 8, 8, 8, 8, 8, 8, 8, 8, 8, 8, 8, 8, 8, 8, 8, 8, 8, 8, 8, 8, 8, 8, 8, 8, 8, 8, 8, 8, 8, 8, 8, 8, 8, 8, 8, 8, 8, 8, 8, 8, 8, 8, 8, 8, 8, 8, 8, 8, 8, 8, 8, 8, 8, 8, 8, 8, 8, 8, 8, 8, 8, 8, 8, 8, 8, 8, 8, 8, 8, 8, 8, 8, 8, 8, 8, 8, 8, 8, 8, 8, 8, 8, 8, 8, 8, 8, 8, 8, 8, 8, 8, 8, 8, 8]⟩⟩ : ByteArray) (IntKind.wrap .u8 ((n : Nat) : Int)))) = ((Sort.bitsLen n : Nat) : Int) ∧ (0 ≤ IntKind.wrap .u8 ((n : Nat) : Int) ∧ IntKind.wrap .u8 ((n : Nat) : Int) < 256) := by
  decide +kernel
 obtain ⟨k1, k2, k3⟩ := key n hn
 refine idx_of k2 ?_ ?_
 ·exact k3
 ·rw [k1]; exact hK
set_option maxRecDepth 100000 in
theorem c_len {n : Nat} {h : Hp} {K : Int → Hp → Prop} (hn : n < 256) (hK : K ((Sort.bitsLen n : Nat) : Int) h) : C94 (n : Int) h K := by
 apply S94; unfold N94
 apply S104; unfold N104 N104_j0 N104_j1
 rw [show decide ((n : Int) ≥ 4294967296) = false from decide_eq_false (by omega), cond_false]
 rw [show decide ((n : Int) ≥ 65536) = false from decide_eq_false (by omega), cond_false]
 rw [show decide ((n : Int) ≥ 256) = false from decide_eq_false (by omega), cond_false]
 exact len_tab n hn h K hK
theorem wu64 {n : Int} {k : Nat} (h : n = k) (hk : k < 18446744073709551616) : IntKind.wrap .u64 n = (k : Int) := by
 subst h
 show ((k : Int) % 18446744073709551616) = k
 omega
theorem c_np2 {n : Nat} {h : Hp} {K : Int → Hp → Prop} (hn : n < 256) (hK : K ((1 <<< Sort.bitsLen n : Nat) : Int) h) : C106 (n : Int) h K := by
 apply S106; unfold N106
 rw [wu64 (n := (n : Int)) (k := n) rfl (by omega)]
 refine c_len hn ?_
 have hb : Sort.bitsLen n ≤ 8 := (Sort.bitsLen_le_iff n 8).2 (by omega)
 rw [show decide (((Sort.bitsLen n : Nat) : Int) < 0) = false from decide_eq_false (by omega), cond_false]
 rw [Int.toNat_natCast, Nat.min_eq_left (by omega)]
 have hp : 2 ^ Sort.bitsLen n ≤ 2 ^ 8 := Nat.pow_le_pow_right (by omega) hb
 rw [wu64 (k := 1 <<< Sort.bitsLen n) ?_ ?_]
 ·exact hK
 ·rw [Nat.shiftLeft_eq]; simp
 ·rw [Nat.shiftLeft_eq]; omega
theorem xor_nat {x y : Nat} (hx : x < 18446744073709551616) (hy : y < 18446744073709551616) : IntKind.wrap .u64 (((BitVec.ofInt 64 (x : Int) ^^^ BitVec.ofInt 64 (y : Int)).toNat : Nat) : Int) = ((x ^^^ y : Nat) : Int) := by
 rw [BitVec.toNat_xor, BitVec.toNat_ofInt, BitVec.toNat_ofInt]
 have e : (((x : Int) % (2 ^ 64 : Nat)).toNat) = x := by rw [show ((2 ^ 64 : Nat) : Int) = 18446744073709551616 from rfl]; omega
 have e2 : (((y : Int) % (2 ^ 64 : Nat)).toNat) = y := by rw [show ((2 ^ 64 : Nat) : Int) = 18446744073709551616 from rfl]; omega
 rw [e, e2]
 exact wu64 rfl (Nat.xor_lt_two_pow (n := 64) hx hy)
theorem and_nat {x y : Nat} (hx : x < 18446744073709551616) (hy : y < 18446744073709551616) : IntKind.wrap .u64 (((BitVec.ofInt 64 (x : Int) &&& BitVec.ofInt 64 (y : Int)).toNat : Nat) : Int) = ((x &&& y : Nat) : Int) := by
 rw [BitVec.toNat_and, BitVec.toNat_ofInt, BitVec.toNat_ofInt]
 have e : (((x : Int) % (2 ^ 64 : Nat)).toNat) = x := by rw [show ((2 ^ 64 : Nat) : Int) = 18446744073709551616 from rfl]; omega
 have e2 : (((y : Int) % (2 ^ 64 : Nat)).toNat) = y := by rw [show ((2 ^ 64 : Nat) : Int) = 18446744073709551616 from rfl]; omega
 rw [e, e2]
 exact wu64 rfl (Nat.lt_of_le_of_lt Nat.and_le_left hx)
theorem shl_nat {x k : Nat} : IntKind.wrap .u64 ((x : Int) * 2 ^ k) = ((x * 2 ^ k % 18446744073709551616 : Nat) : Int) := by
 show (((x : Int) * 2 ^ k) % 18446744073709551616) = _
 rw [show ((x : Int) * 2 ^ k) = ((x * 2 ^ k : Nat) : Int) by simp]
 omega
section
variable {L : List Asn} {s : Sl} {d : Array Int} {h : Hp} {b0 : Nat}
abbrev XA (b0 : Nat) (r : Nat) : Asn := row b0 199 [.int .u64 (r : Int)]
theorem c_xnext {r : Nat} {K : Int → Hp → Prop} (hs : Sat (L ++ [XA b0 r, UA s d]) h) (hr : r < 18446744073709551616) (hK : ∀ h', Sat (L ++ [XA b0 (Sort.xorNextN r), UA s d]) h' → K ((Sort.xorNextN r : Nat) : Int) h') : C107 (some (bk b0)) h K := by
 apply S107; unfold N107
 simp only [nn_some']
 refine hs.lI 0 rfl rfl ?_
 refine hs.lI 0 rfl rfl ?_
 rw [shl_nat, xor_nat hr (by omega)]
 have ha : r ^^^ (r * 2 ^ 13 % 18446744073709551616) < 2 ^ 64 := Nat.xor_lt_two_pow hr (by omega)
 refine hs.st 0 rfl (by simp) rfl ?_
 intro h1 hs1
 have hs1 : Sat (L ++ [XA b0 (r ^^^ (r * 2 ^ 13 % 18446744073709551616)), UA s d]) h1 := hs1
 have e1 : Sort.xorNextN r = ((r ^^^ (r * 2 ^ 13 % 18446744073709551616)) ^^^ ((r ^^^ (r * 2 ^ 13 % 18446744073709551616)) / 2 ^ 7)) ^^^ (((r ^^^ (r * 2 ^ 13 % 18446744073709551616)) ^^^ ((r ^^^ (r * 2 ^ 13 % 18446744073709551616)) / 2 ^ 7)) * 2 ^ 17 % 18446744073709551616) := rfl
 rw [e1] at hK
 generalize r ^^^ (r * 2 ^ 13 % 18446744073709551616) = A at hK ha hs1
 refine hs1.lI 0 rfl rfl ?_
 refine hs1.lI 0 rfl rfl ?_
 have e2 : Int.fdiv (A : Int) (2 ^ 7) = ((A / 2 ^ 7 : Nat) : Int) := by
  rw [Int.fdiv_eq_ediv_of_nonneg _ (by decide)]; rfl
 rw [e2, xor_nat ha (by omega)]
 have hb : A ^^^ (A / 2 ^ 7) < 2 ^ 64 := Nat.xor_lt_two_pow ha (by omega)
 refine hs1.st 0 rfl (by simp) rfl ?_
 intro h2 hs2
 have hs2 : Sat (L ++ [XA b0 (A ^^^ (A / 2 ^ 7)), UA s d]) h2 := hs2
 generalize A ^^^ (A / 2 ^ 7) = B at hK hb hs2
 refine hs2.lI 0 rfl rfl ?_
 refine hs2.lI 0 rfl rfl ?_
 rw [shl_nat, xor_nat hb (by omega)]
 refine hs2.st 0 rfl (by simp) rfl ?_
 intro h3 hs3
 refine Sat.lI hs3 0 rfl rfl ?_
 exact hK h3 hs3
theorem brk_j1 {a o i : Nat} {len mo oo : Int} {x : Option Addr} {K : Hp → Prop} (hs : Sat (L ++ [UA s d]) h) (hi : i < d.size) (ho : a + o < d.size) (hd : d.size ≤ 255) (hoo : oo = o)
  (hK : ∀ h', Sat (L ++ [UA s (Sort.swp d i (a + o))]) h' → K h') : N97_j1 s (a : Int) len x mo (i : Int) oo h K := by
 subst hoo
 unfold N97_j1
 rw [wrn (n := (a : Int) + (o : Int)) (k := a + o) (by omega) (by omega)]
 exact swU hs rfl rfl hi ho hK
def brks (a L M : Nat) : Nat → UInt64 × Array Int → Nat → UInt64 × Array Int
 | 0, st, _ => st
 | k + 1, st, i => brks a L M k (Sort.breakStep a L M st i) (i + 1)
theorem c_brk {a b : Nat} {K : Hp → Prop} (hs : Sat (L ++ [UA s d]) h) (hb : b ≤ d.size) (hab : a < b) (hd : d.size ≤ 255)
  (hK : ∀ h', Sat (L ++ [UA s (Sort.breakPatterns d a b)]) h' → K h') : C97 s (a : Int) (b : Int) h K := by
 apply S97; unfold N97
 rw [wrn (n := (b : Int) - (a : Int)) (k := b - a) (by omega) (by omega)]
 unfold Sort.breakPatterns at hK
 simp only at hK
 by_cases h8 : b - a ≥ 8
 ·rw [if_pos h8] at hK
  rw [show decide (((b - a : Nat) : Int) ≥ 8) = true from decide_eq_true (by omega), cond_true]
  intro b0 e0
  have hs1 := (hs.new e0 (.cells ⟨[.int .u64 ((0 : Nat) : Int)]⟩ 199 (0, 0))).sel [1, 0] (by decide) (M' := [XA b0 0, UA s d]) rfl
  revert hs1
  have e1 : (Obj.cells ⟨[.int .u64 0]⟩ 199 (0, 0)) = (Obj.cells ⟨[.int .u64 ((0 : Nat) : Int)]⟩ 199 (0, 0)) := rfl
  rw [e1]
  generalize upd h b0 _ = h1
  intro hs1
  rw [wu64 (n := ((b - a : Nat) : Int)) (k := b - a) rfl (by omega)]
  refine hs1.st 0 (k := 0) rfl (by simp) rfl ?_
  intro h2 hs2
  have hs2 : Sat (L ++ [XA b0 (b - a), UA s d]) h2 := hs2
  refine c_np2 (by omega) ?_
  have hM : 1 <<< Sort.bitsLen (b - a) = 2 ^ Sort.bitsLen (b - a) := by rw [Nat.shiftLeft_eq]; simp
  have hM2 := Sort.two_pow_bitsLen_le (n := b - a) (by omega)
  rw [← hM] at hM2
  have hM3 : 0 < 1 <<< Sort.bitsLen (b - a) := by rw [hM]; exact Nat.two_pow_pos _
  generalize 1 <<< Sort.bitsLen (b - a) = M at hK hM2 hM3 ⊢
  have w1 : Int.tdiv ((b - a : Nat) : Int) 4 = (((b - a) / 4 : Nat) : Int) := rfl
  rw [w1, wrn (n := (((b - a) / 4 : Nat) : Int)) rfl (by omega), wrn (n := (((b - a) / 4 : Nat) : Int) * 2) (k := (b - a) / 4 * 2) (by omega) (by omega), wrn (n := (a : Int) + (((b - a) / 4 * 2 : Nat) : Int)) (k := a + (b - a) / 4 * 2) (by omega) (by omega),
   wrn (n := ((a + (b - a) / 4 * 2 : Nat) : Int) - 1) (k := a + (b - a) / 4 * 2 - 1) (by omega) (by omega)]
  unfold N97_l0
  have hr0 : (UInt64.ofNat (b - a)).toNat = b - a := by simp; omega
  refine loopP_inv (fun (x : Int) hc => ∃ (t : Nat) (r : UInt64) (e : Array Int), t ≤ 3 ∧ x = ((a + (b - a) / 4 * 2 - 1 + t : Nat) : Int) ∧ brks a (b - a) M (3 - t) (r, e) (a + (b - a) / 4 * 2 - 1 + t) = brks a (b - a) M 3 (UInt64.ofNat (b - a), d) (a + (b - a) / 4 * 2 - 1) ∧ Sat (L ++ [XA b0 r.toNat, UA s e]) hc) (fun x _ => a + (b - a) / 4 * 2 + 2 - x.toNat) ?_ ⟨0, UInt64.ofNat (b - a), d, by omega, rfl, rfl, by rw [hr0]; exact hs2⟩
  have hn := uaN hs
  clear hs hs1 hs2
  rintro x hc ⟨t, r, e, ht, rfl, hr, hs⟩
  have hs' : Sat ((L ++ [XA b0 r.toNat]) ++ [UA s e]) hc := Sat.csa hs
  have hn2 := uaN hs'
  unfold N97_l0_B N97_l0_b
  dsimp only
  rw [w1, wrn (n := (((b - a) / 4 : Nat) : Int)) rfl (by omega), wrn (n := (((b - a) / 4 : Nat) : Int) * 2) (k := (b - a) / 4 * 2) (by omega) (by omega), wrn (n := (a : Int) + (((b - a) / 4 * 2 : Nat) : Int)) (k := a + (b - a) / 4 * 2) (by omega) (by omega),
   wrn (n := ((a + (b - a) / 4 * 2 : Nat) : Int) + 1) (k := a + (b - a) / 4 * 2 + 1) (by omega) (by omega)]
  by_cases ht3 : t < 3
  ·rw [show decide (((a + (b - a) / 4 * 2 - 1 + t : Nat) : Int) ≤ ((a + (b - a) / 4 * 2 + 1 : Nat) : Int)) = true from decide_eq_true (by omega), cond_true]
   have hrlt : r.toNat < 18446744073709551616 := r.toNat_lt
   refine c_xnext hs hrlt fun h3 hs3 => ?_
   rw [show 3 - t = (2 - t) + 1 by omega, brks] at hr
   unfold Sort.breakStep at hr
   simp only [Sort.xorNext_toNat] at hr
   have hx := Sort.xorNextN_lt r.toNat hrlt
   rw [← Sort.xorNext_toNat] at hx hr hs3 ⊢
   rw [wu64 (n := (M : Int) - 1) (k := M - 1) (by omega) (by omega), and_nat hx (by omega)]
   have ho : (Sort.xorNext r).toNat &&& (M - 1) ≤ M - 1 := Nat.and_le_right
   generalize (Sort.xorNext r).toNat &&& (M - 1) = o at hr ho ⊢
   rw [wrn (n := (o : Int)) rfl (by omega)]
   have hs4 : Sat ((L ++ [XA b0 (Sort.xorNext r).toNat]) ++ [UA s e]) h3 := Sat.csa hs3
   rw [wrn (n := ((a + (b - a) / 4 * 2 - 1 + t : Nat) : Int) + 1) (k := a + (b - a) / 4 * 2 - 1 + (t + 1)) (by omega) (by omega)]
   by_cases hol : o ≥ b - a
   ·rw [if_pos hol] at hr
    rw [show decide ((o : Int) ≥ ((b - a : Nat) : Int)) = true from decide_eq_true (by omega), cond_true]
    refine brk_j1 (o := o - (b - a)) hs4 (by omega) (by omega) (by omega) (wrn (by omega) (by omega)) fun h5 hs5 => ?_
    exact ⟨⟨t + 1, _, _, by omega, rfl, by rw [show 3 - (t + 1) = 2 - t by omega]; exact hr, Sat.asc hs5⟩, by simp only [Int.toNat_natCast]; omega⟩
   ·rw [if_neg hol] at hr
    rw [show decide ((o : Int) ≥ ((b - a : Nat) : Int)) = false from decide_eq_false (by omega), cond_false]
    refine brk_j1 (o := o) hs4 (by omega) (by omega) (by omega) rfl fun h5 hs5 => ?_
    exact ⟨⟨t + 1, _, _, by omega, rfl, by rw [show 3 - (t + 1) = 2 - t by omega]; exact hr, Sat.asc hs5⟩, by simp only [Int.toNat_natCast]; omega⟩
  ·rw [show decide (((a + (b - a) / 4 * 2 - 1 + t : Nat) : Int) ≤ ((a + (b - a) / 4 * 2 + 1 : Nat) : Int)) = false from decide_eq_false (by omega), cond_false]
   refine hK hc ?_
   rw [show 3 - t = 0 by omega, brks] at hr
   have hr2 := congrArg Prod.snd hr
   simp only [brks] at hr2
   rw [← hr2]
   exact hs'.mv (C := []) (by rfl) |> fun _ => hs.sel [1] (by decide) rfl
 ·rw [if_neg h8] at hK
  rw [show decide (((b - a : Nat) : Int) ≥ 8) = false from decide_eq_false (by omega), cond_false]
  exact hK h hs
end
end Go.Proofs.YtbbnpmikjdgdpaaGreat

/-
  The sort of a row of uint32, sixth part: pdqsort, slices.Sort: the row is the sorted one.
-/
set_option linter.unusedSimpArgs false
set_option linter.unusedVariables false
namespace Go.Proofs.YtbbnpmikjdgdpaaGreat
open Go Go.Hw
theorem partEq_range (a b : Nat) : ∀ (n i j : Nat) (d : Array Int), j + 1 - i ≤ n → a < i → i ≤ b → j + 1 ≤ b → a < (Sort.partEqLoop Sort.ltInt a i j d).1 ∧ (Sort.partEqLoop Sort.ltInt a i j d).1 ≤ b := by
  intro n
  induction n with
  | zero =>
    intro i j d hn hi hib hj
    rw [Sort.partEqLoop]
    have u1 := scanUp_ge (fun x => !Sort.ltInt d[a]! x) d j _ i (Nat.le_refl _)
    have u2 := scanUp_le (fun x => !Sort.ltInt d[a]! x) d j _ i (Nat.le_refl _)
    have v1 := scanDown_le (fun x => Sort.ltInt d[a]! x) d (Sort.scanUp (fun x => !Sort.ltInt d[a]! x) d j i) j
    generalize Sort.scanUp (fun x => !Sort.ltInt d[a]! x) d j i = i2 at *
    generalize Sort.scanDown (fun x => Sort.ltInt d[a]! x) d i2 j = j2 at *
    rw [if_pos (by omega)]
    exact ⟨by dsimp only; omega, by dsimp only; omega⟩
  | succ n ih =>
    intro i j d hn hi hib hj
    rw [Sort.partEqLoop]
    have u1 := scanUp_ge (fun x => !Sort.ltInt d[a]! x) d j _ i (Nat.le_refl _)
    have u2 := scanUp_le (fun x => !Sort.ltInt d[a]! x) d j _ i (Nat.le_refl _)
    have v1 := scanDown_le (fun x => Sort.ltInt d[a]! x) d (Sort.scanUp (fun x => !Sort.ltInt d[a]! x) d j i) j
    generalize Sort.scanUp (fun x => !Sort.ltInt d[a]! x) d j i = i2 at *
    generalize Sort.scanDown (fun x => Sort.ltInt d[a]! x) d i2 j = j2 at *
    by_cases h : i2 > j2
    · rw [if_pos h]; exact ⟨by dsimp only; omega, by dsimp only; omega⟩
    · rw [if_neg h, dif_pos (by omega)]
      exact ih (i2 + 1) (j2 - 1) _ (by omega) (by omega) (by omega) (by omega)
theorem c_pdq {L : List Asn} {s : Sl} (hlen : s.n ≤ 255) : ∀ (n : Nat) {a b limit : Nat} {d : Array Int} {h : Hp} {K : Hp → Prop}, b - a ≤ n → Sat (L ++ [UA s d]) h → a ≤ b → b ≤ d.size → limit ≤ 1000 →
    (∀ h', Sat (L ++ [UA s (Sort.pdq Sort.ltInt d a b limit true true)]) h' → K h') → C93 s (a : Int) (b : Int) (limit : Int) h K := by
  intro n
  induction n with
  | zero =>
    intro a b limit d h K hn hs hab hb hl hK
    have hsz := uaN hs
    apply S93; unfold N93 N93_l0
    refine loopP_step ?_
    unfold N93_l0_B N93_l0_b
    dsimp only
    rw [wrn (n := (b : Int) - (a : Int)) (k := b - a) (by omega) (by omega)]
    rw [show decide (((b - a : Nat) : Int) ≤ 12) = true from decide_eq_true (by omega), cond_true]
    rw [Sort.pdq, if_pos (by omega)] at hK
    exact c_ins hs hb hab (by omega) hK
  | succ n ih =>
    intro a b limit d h K hn hs hab hb hl hK
    apply S93; unfold N93 N93_l0
    refine loopP_inv (fun (x : Int × Int × Int × Bool × Bool) hc => ∃ (a' b' l' : Nat) (e : Array Int), x.1 = a' ∧ x.2.1 = b' ∧ x.2.2.1 = l' ∧ a' ≤ b' ∧ b' ≤ e.size ∧ l' ≤ 1000 ∧ b' - a' ≤ n + 1 ∧ Sort.pdq Sort.ltInt e a' b' l' x.2.2.2.1 x.2.2.2.2 = Sort.pdq Sort.ltInt d a b limit true true ∧ Sat (L ++ [UA s e]) hc) (fun x _ => (x.2.1 - x.1).toNat) ?_ ⟨a, b, limit, d, rfl, rfl, rfl, hab, hb, hl, hn, rfl, hs⟩
    clear hs hn hab hb hl
    rintro ⟨x, y, z, wb, wp⟩ hc ⟨a', b', l', e, hx, hy, hz, hab, hb, hl, hn, hr, hs⟩
    simp only at hx hy hz hr
    subst hx hy hz
    have hsz := uaN hs
    unfold N93_l0_B N93_l0_b
    dsimp only
    rw [wrn (n := (b' : Int) - (a' : Int)) (k := b' - a') (by omega) (by omega)]
    rw [Sort.pdq] at hr
    by_cases h12 : b' - a' ≤ 12
    · rw [if_pos h12] at hr
      rw [show decide (((b' - a' : Nat) : Int) ≤ 12) = true from decide_eq_true (by omega), cond_true]
      rw [← hr] at hK
      exact c_ins hs hb hab (by omega) hK
    · rw [if_neg h12] at hr
      rw [show decide (((b' - a' : Nat) : Int) ≤ 12) = false from decide_eq_false (by omega), cond_false]
      by_cases hl0 : l' = 0
      · rw [if_pos hl0] at hr
        rw [show ((l' : Int) == 0) = true by simp [hl0], cond_true]
        rw [← hr] at hK
        exact c_heap hs hb hab (by omega) hK
      · rw [if_neg hl0] at hr
        rw [show ((l' : Int) == 0) = false by simp; omega, cond_false]
        -- the round behind the patterns
        have j1 : ∀ (l2 : Nat) (d1 : Array Int) (h1 : Hp), l2 ≤ 1000 → Sat (L ++ [UA s d1]) h1 →
            (let limit := l2
             let c := Sort.choosePivot Sort.ltInt d1 a' b'
             let d2 := if c.2 = .decreasing then Sort.reverseRange d1 a' b' else d1
             let pivot := if c.2 = .decreasing then (b' - 1) - (c.1 - a') else c.1
             let hint := if c.2 = .decreasing then Sort.Hint.increasing else c.2
             let pi := if wb && wp && hint = .increasing then Sort.partialInsertionSort Sort.ltInt d2 a' b' else (d2, false)
             if pi.2 then pi.1 else
             let d3 := pi.1
             if a' > 0 && !Sort.ltInt d3[a' - 1]! d3[pivot]! then
               match Sort.partitionEqual Sort.ltInt d3 a' b' pivot with
               | (mid, d4) => if _h : a' < mid ∧ mid ≤ b' then Sort.pdq Sort.ltInt d4 mid b' limit wb wp else d4
             else
               match Sort.partition Sort.ltInt d3 a' b' pivot with
               | (mid, alreadyPartitioned, d4) =>
                 if _h : a' ≤ mid ∧ mid < b' then
                   if mid - a' < b' - mid then
                     Sort.pdq Sort.ltInt (Sort.pdq Sort.ltInt d4 a' mid limit true true) (mid + 1) b' limit (decide (mid - a' ≥ (b' - a') / 8)) alreadyPartitioned
                   else
                     Sort.pdq Sort.ltInt (Sort.pdq Sort.ltInt d4 (mid + 1) b' limit true true) a' mid limit (decide (b' - mid ≥ (b' - a') / 8)) alreadyPartitioned
                 else d4) = Sort.pdq Sort.ltInt d a b limit true true →
            ∀ (l3 : Int), l3 = (l2 : Int) → N93_j1 s (a' : Int) (b' : Int) l3 wb wp ((b' - a' : Nat) : Int) h1
              (fun n0 n1 b0 b1 h3 => (∃ (a' b' l' : Nat) (e : Array Int), n0 = a' ∧ n1 = b' ∧ l3 = l' ∧ a' ≤ b' ∧ b' ≤ e.size ∧ l' ≤ 1000 ∧ b' - a' ≤ n + 1 ∧ Sort.pdq Sort.ltInt e a' b' l' b0 b1 = Sort.pdq Sort.ltInt d a b limit true true ∧ Sat (L ++ [UA s e]) h3) ∧ (n1 - n0).toNat < ((b' : Int) - (a' : Int)).toNat)
              (fun n0 n1 b0 b1 h3 => (∃ (a' b' l' : Nat) (e : Array Int), n0 = a' ∧ n1 = b' ∧ l3 = l' ∧ a' ≤ b' ∧ b' ≤ e.size ∧ l' ≤ 1000 ∧ b' - a' ≤ n + 1 ∧ Sort.pdq Sort.ltInt e a' b' l' b0 b1 = Sort.pdq Sort.ltInt d a b limit true true ∧ Sat (L ++ [UA s e]) h3) ∧ (n1 - n0).toNat < ((b' : Int) - (a' : Int)).toNat) K := by
          intro l2 d1 h1 hl2 hs1 hr l3 hl3
          subst hl3
          have hsz1 := uaN hs1
          simp only at hr
          unfold N93_j1
          refine c_pivot hs1 (by omega) (by omega) (by omega) fun h2 hs2 => ?_
          have hpv := Sort.choosePivot_holds Sort.ltInt d1 a' b' (by omega)
          generalize Sort.choosePivot Sort.ltInt d1 a' b' = c at hr hpv ⊢
          -- the round behind the pivot
          have j2 : ∀ (d2 : Array Int) (pv : Nat) (hint : Sort.Hint) (h2 : Hp), Sat (L ++ [UA s d2]) h2 → a' ≤ pv → pv < b' →
              (let pi := if wb && wp && hint = .increasing then Sort.partialInsertionSort Sort.ltInt d2 a' b' else (d2, false)
               if pi.2 then pi.1 else
               let d3 := pi.1
               if a' > 0 && !Sort.ltInt d3[a' - 1]! d3[pv]! then
                 match Sort.partitionEqual Sort.ltInt d3 a' b' pv with
                 | (mid, d4) => if _h : a' < mid ∧ mid ≤ b' then Sort.pdq Sort.ltInt d4 mid b' l2 wb wp else d4
               else
                 match Sort.partition Sort.ltInt d3 a' b' pv with
                 | (mid, alreadyPartitioned, d4) =>
                   if _h : a' ≤ mid ∧ mid < b' then
                     if mid - a' < b' - mid then
                       Sort.pdq Sort.ltInt (Sort.pdq Sort.ltInt d4 a' mid l2 true true) (mid + 1) b' l2 (decide (mid - a' ≥ (b' - a') / 8)) alreadyPartitioned
                     else
                       Sort.pdq Sort.ltInt (Sort.pdq Sort.ltInt d4 (mid + 1) b' l2 true true) a' mid l2 (decide (b' - mid ≥ (b' - a') / 8)) alreadyPartitioned
                   else d4) = Sort.pdq Sort.ltInt d a b limit true true →
              N93_j2 s (a' : Int) (b' : Int) (l2 : Int) wb wp ((b' - a' : Nat) : Int) (pv : Int) (hintN hint) h2
                (fun n0 n1 b0 b1 h3 => (∃ (a' b' l' : Nat) (e : Array Int), n0 = a' ∧ n1 = b' ∧ (l2 : Int) = l' ∧ a' ≤ b' ∧ b' ≤ e.size ∧ l' ≤ 1000 ∧ b' - a' ≤ n + 1 ∧ Sort.pdq Sort.ltInt e a' b' l' b0 b1 = Sort.pdq Sort.ltInt d a b limit true true ∧ Sat (L ++ [UA s e]) h3) ∧ (n1 - n0).toNat < ((b' : Int) - (a' : Int)).toNat)
                (fun n0 n1 b0 b1 h3 => (∃ (a' b' l' : Nat) (e : Array Int), n0 = a' ∧ n1 = b' ∧ (l2 : Int) = l' ∧ a' ≤ b' ∧ b' ≤ e.size ∧ l' ≤ 1000 ∧ b' - a' ≤ n + 1 ∧ Sort.pdq Sort.ltInt e a' b' l' b0 b1 = Sort.pdq Sort.ltInt d a b limit true true ∧ Sat (L ++ [UA s e]) h3) ∧ (n1 - n0).toNat < ((b' : Int) - (a' : Int)).toNat) K := by
            intro d2 pv hint h2 hs2 hp1 hp2 hr
            have hsz2 := uaN hs2
            simp only at hr
            -- the partitions
            have j4 : ∀ (d3 : Array Int) (h3 : Hp), Sat (L ++ [UA s d3]) h3 →
                (if a' > 0 && !Sort.ltInt d3[a' - 1]! d3[pv]! then
                   match Sort.partitionEqual Sort.ltInt d3 a' b' pv with
                   | (mid, d4) => if _h : a' < mid ∧ mid ≤ b' then Sort.pdq Sort.ltInt d4 mid b' l2 wb wp else d4
                 else
                   match Sort.partition Sort.ltInt d3 a' b' pv with
                   | (mid, alreadyPartitioned, d4) =>
                     if _h : a' ≤ mid ∧ mid < b' then
                       if mid - a' < b' - mid then
                         Sort.pdq Sort.ltInt (Sort.pdq Sort.ltInt d4 a' mid l2 true true) (mid + 1) b' l2 (decide (mid - a' ≥ (b' - a') / 8)) alreadyPartitioned
                       else
                         Sort.pdq Sort.ltInt (Sort.pdq Sort.ltInt d4 (mid + 1) b' l2 true true) a' mid l2 (decide (b' - mid ≥ (b' - a') / 8)) alreadyPartitioned
                     else d4) = Sort.pdq Sort.ltInt d a b limit true true →
                N93_j4 s (a' : Int) (b' : Int) (l2 : Int) wb wp ((b' - a' : Nat) : Int) (pv : Int) h3
                  (fun n0 n1 b0 b1 h3 => (∃ (a' b' l' : Nat) (e : Array Int), n0 = a' ∧ n1 = b' ∧ (l2 : Int) = l' ∧ a' ≤ b' ∧ b' ≤ e.size ∧ l' ≤ 1000 ∧ b' - a' ≤ n + 1 ∧ Sort.pdq Sort.ltInt e a' b' l' b0 b1 = Sort.pdq Sort.ltInt d a b limit true true ∧ Sat (L ++ [UA s e]) h3) ∧ (n1 - n0).toNat < ((b' : Int) - (a' : Int)).toNat)
                  (fun n0 n1 b0 b1 h3 => (∃ (a' b' l' : Nat) (e : Array Int), n0 = a' ∧ n1 = b' ∧ (l2 : Int) = l' ∧ a' ≤ b' ∧ b' ≤ e.size ∧ l' ≤ 1000 ∧ b' - a' ≤ n + 1 ∧ Sort.pdq Sort.ltInt e a' b' l' b0 b1 = Sort.pdq Sort.ltInt d a b limit true true ∧ Sat (L ++ [UA s e]) h3) ∧ (n1 - n0).toNat < ((b' : Int) - (a' : Int)).toNat) := by
              intro d3 h3 hs3 hr
              have hsz3 := uaN hs3
              have part : (match Sort.partition Sort.ltInt d3 a' b' pv with
                   | (mid, alreadyPartitioned, d4) =>
                     if _h : a' ≤ mid ∧ mid < b' then
                       if mid - a' < b' - mid then
                         Sort.pdq Sort.ltInt (Sort.pdq Sort.ltInt d4 a' mid l2 true true) (mid + 1) b' l2 (decide (mid - a' ≥ (b' - a') / 8)) alreadyPartitioned
                       else
                         Sort.pdq Sort.ltInt (Sort.pdq Sort.ltInt d4 (mid + 1) b' l2 true true) a' mid l2 (decide (b' - mid ≥ (b' - a') / 8)) alreadyPartitioned
                     else d4) = Sort.pdq Sort.ltInt d a b limit true true →
                  N93_j6 s (a' : Int) (b' : Int) (l2 : Int) ((b' - a' : Nat) : Int) (pv : Int) h3
                    (fun n0 n1 b0 b1 h3 => (∃ (a' b' l' : Nat) (e : Array Int), n0 = a' ∧ n1 = b' ∧ (l2 : Int) = l' ∧ a' ≤ b' ∧ b' ≤ e.size ∧ l' ≤ 1000 ∧ b' - a' ≤ n + 1 ∧ Sort.pdq Sort.ltInt e a' b' l' b0 b1 = Sort.pdq Sort.ltInt d a b limit true true ∧ Sat (L ++ [UA s e]) h3) ∧ (n1 - n0).toNat < ((b' : Int) - (a' : Int)).toNat) := by
                intro hr
                obtain ⟨m1, m2, _⟩ := Sort.partition_holds Sort.ltInt Sort.swo_ltInt d3 a' b' pv hp1 hp2 (by omega)
                unfold N93_j6
                refine c_part hs3 (by omega) hp1 hp2 (by omega) fun h4 hs4 => ?_
                generalize Sort.partition Sort.ltInt d3 a' b' pv = q at hr m1 m2 hs4 ⊢
                obtain ⟨mid, ap, d4⟩ := q
                simp only at hr m1 m2 hs4 ⊢
                have hsz4 := uaN hs4
                rw [dif_pos ⟨m1, m2⟩] at hr
                rw [wrn (n := (mid : Int) - (a' : Int)) (k := mid - a') (by omega) (by omega), wrn (n := (b' : Int) - (mid : Int)) (k := b' - mid) (by omega) (by omega), wrn (n := (mid : Int) + 1) (k := mid + 1) (by omega) (by omega),
                  show Int.tdiv ((b' - a' : Nat) : Int) 8 = (((b' - a') / 8 : Nat) : Int) from rfl, wrn (n := (((b' - a') / 8 : Nat) : Int)) rfl (by omega)]
                by_cases hm : mid - a' < b' - mid
                · rw [if_pos hm] at hr
                  rw [show decide (((mid - a' : Nat) : Int) < ((b' - mid : Nat) : Int)) = true from decide_eq_true (by omega), cond_true]
                  refine ih (by omega) hs4 m1 (by omega) hl2 fun h5 hs5 => ?_
                  have hsz5 := uaN hs5
                  refine ⟨⟨mid + 1, b', l2, _, rfl, rfl, rfl, by omega, by omega, hl2, by omega, ?_, hs5⟩, by omega⟩
                  rw [← hr]
                  congr 1
                  exact decide_eq_decide.2 (by omega)
                · rw [if_neg hm] at hr
                  rw [show decide (((mid - a' : Nat) : Int) < ((b' - mid : Nat) : Int)) = false from decide_eq_false (by omega), cond_false]
                  refine ih (by omega) hs4 (by omega) (by omega) hl2 fun h5 hs5 => ?_
                  have hsz5 := uaN hs5
                  refine ⟨⟨a', mid, l2, _, rfl, rfl, rfl, by omega, by omega, hl2, by omega, ?_, hs5⟩, by omega⟩
                  rw [← hr]
                  congr 1
                  exact decide_eq_decide.2 (by omega)
              unfold N93_j4
              by_cases ha0 : a' > 0
              · rw [show decide ((a' : Int) > 0) = true from decide_eq_true (by omega), cond_true]
                rw [wrn (n := (a' : Int) - 1) (k := a' - 1) (by omega) (by omega)]
                refine rdU hs3 rfl (by omega) ?_
                refine rdU hs3 rfl (by omega) ?_
                refine c_less ?_
                unfold N93_j5
                cases hq : Sort.ltInt d3[a' - 1]! d3[pv]! with
                | true =>
                  rw [if_neg (by simp [hq])] at hr
                  rw [Bool.not_true, cond_false]
                  exact part hr
                | false =>
                  rw [if_pos (by simp [hq, ha0])] at hr
                  rw [Bool.not_false, cond_true]
                  have m1 := partEq_range a' b' _ (a' + 1) (b' - 1) (Sort.swp d3 a' pv) (Nat.le_refl _) (by omega) (by omega) (by omega)
                  refine c_pareq hs3 (by omega) hp1 hp2 (by omega) fun h4 hs4 => ?_
                  have e1 : Sort.partEqLoop Sort.ltInt a' (a' + 1) (b' - 1) (Sort.swp d3 a' pv) = Sort.partitionEqual Sort.ltInt d3 a' b' pv := rfl
                  rw [e1] at m1
                  generalize Sort.partitionEqual Sort.ltInt d3 a' b' pv = q at hr m1 hs4 ⊢
                  obtain ⟨mid, d4⟩ := q
                  simp only at hr m1 hs4 ⊢
                  have hsz4 := uaN hs4
                  rw [dif_pos m1] at hr
                  exact ⟨⟨mid, b', l2, _, rfl, rfl, rfl, by omega, by omega, hl2, by omega, hr, hs4⟩, by omega⟩
              · rw [show decide ((a' : Int) > 0) = false from decide_eq_false (by omega), cond_false]
                unfold N93_j5
                rw [cond_false]
                rw [if_neg (by simp; omega)] at hr
                exact part hr
            -- the partial insertion sort
            have j3 : ∀ (x : Bool), (wb && wp && decide (hint = .increasing)) = x → N93_j3 s (a' : Int) (b' : Int) (l2 : Int) wb wp ((b' - a' : Nat) : Int) (pv : Int) x h2 (fun h0 => N93_j4 s (a' : Int) (b' : Int) (l2 : Int) wb wp ((b' - a' : Nat) : Int) (pv : Int) h0
                  (fun n0 n1 b0 b1 h3 => (∃ (a' b' l' : Nat) (e : Array Int), n0 = a' ∧ n1 = b' ∧ (l2 : Int) = l' ∧ a' ≤ b' ∧ b' ≤ e.size ∧ l' ≤ 1000 ∧ b' - a' ≤ n + 1 ∧ Sort.pdq Sort.ltInt e a' b' l' b0 b1 = Sort.pdq Sort.ltInt d a b limit true true ∧ Sat (L ++ [UA s e]) h3) ∧ (n1 - n0).toNat < ((b' : Int) - (a' : Int)).toNat)
                  (fun n0 n1 b0 b1 h3 => (∃ (a' b' l' : Nat) (e : Array Int), n0 = a' ∧ n1 = b' ∧ (l2 : Int) = l' ∧ a' ≤ b' ∧ b' ≤ e.size ∧ l' ≤ 1000 ∧ b' - a' ≤ n + 1 ∧ Sort.pdq Sort.ltInt e a' b' l' b0 b1 = Sort.pdq Sort.ltInt d a b limit true true ∧ Sat (L ++ [UA s e]) h3) ∧ (n1 - n0).toNat < ((b' : Int) - (a' : Int)).toNat)) K := by
              intro x hx
              unfold N93_j3
              rw [hx] at hr
              cases x with
              | false =>
                rw [cond_false]
                simp only [Bool.false_eq_true, if_false] at hr
                exact j4 d2 h2 hs2 hr
              | true =>
                rw [cond_true]
                simp only [if_true] at hr
                refine c_pins hs2 (by omega) (by omega) (by omega) fun h3 hs3 => ?_
                generalize Sort.partialInsertionSort Sort.ltInt d2 a' b' = pi at hr hs3 ⊢
                obtain ⟨d3, ok⟩ := pi
                simp only at hr hs3 ⊢
                cases ok with
                | true =>
                  rw [if_pos rfl] at hr
                  rw [← hr] at hK
                  exact hK h3 hs3
                | false =>
                  rw [if_neg (by decide)] at hr
                  rw [cond_false]
                  exact j4 d3 h3 hs3 hr
            unfold N93_j2
            have hh : (hintN hint == 1) = decide (hint = .increasing) := by cases hint <;> rfl
            rw [hh]
            cases wb with
            | false => rw [cond_false]; exact j3 false (by simp)
            | true =>
              rw [cond_true]
              cases wp with
              | false => rw [cond_false]; exact j3 false (by simp)
              | true => rw [cond_true]; exact j3 _ (by simp)
          by_cases hdec : c.2 = .decreasing
          · simp only [if_pos hdec] at hr
            have hh : (hintN c.2 == 2) = true := by rw [hdec]; rfl
            rw [hh, cond_true]
            refine c_rev hs2 (by omega) (by omega) (by omega) fun h3 hs3 => ?_
            rw [wrn (n := (b' : Int) - 1) (k := b' - 1) (by omega) (by omega), wrn (n := ((c.1 : Nat) : Int) - (a' : Int)) (k := c.1 - a') (by omega) (by omega), wrn (n := ((b' - 1 : Nat) : Int) - ((c.1 - a' : Nat) : Int)) (k := (b' - 1) - (c.1 - a')) (by omega) (by omega)]
            exact j2 _ _ .increasing h3 hs3 (by omega) (by omega) hr
          · simp only [if_neg hdec] at hr
            have hh : (hintN c.2 == 2) = false := by
              revert hdec
              cases c.2 <;> simp [hintN]
            rw [hh, cond_false]
            exact j2 _ _ c.2 h2 hs2 hpv.1 hpv.2 hr
        cases wb with
        | false =>
          simp only [Bool.not_false, if_true] at hr
          rw [Bool.not_false, cond_true]
          refine c_brk hs hb (by omega) (by omega) fun h2 hs2 => ?_
          exact j1 (l' - 1) _ h2 (by omega) hs2 hr _ (wrn (by omega) (by omega))
        | true =>
          simp only [Bool.not_true, Bool.false_eq_true, if_false] at hr
          rw [Bool.not_true, cond_false]
          exact j1 l' _ hc hl hs hr _ rfl
theorem c_sortU {L : List Asn} {s : Sl} {zs : List Int} {h : Hp} {K : Hp → Prop} (hs : Sat (L ++ [Hw.own 25 1 s (zs.map fun n => .int .u32 n)]) h) (hl : zs.length ≤ 255)
    (hK : ∀ h', Sat (L ++ [Hw.own 25 1 s ((zs.mergeSort fun x y => decide (x ≤ y)).map fun n => .int .u32 n)]) h' → K h') : C91 s h K := by
  have hs : Sat (L ++ [UA s zs.toArray]) h := hs
  have hn := uaN hs
  simp only [List.size_toArray] at hn
  apply S91; unfold N91
  rw [wu64 (k := s.n) rfl (by omega)]
  refine c_len (by omega) ?_
  have hb : Sort.bitsLen s.n ≤ 8 := (Sort.bitsLen_le_iff s.n 8).2 (by omega)
  have := c_pdq (L := L) (s := s) (by omega) s.n (a := 0) (b := s.n) (limit := Sort.bitsLen s.n) (d := zs.toArray) (h := h) (K := K) (by omega) hs (by omega) (by simp; omega) (by omega) ?_
  · exact this
  · intro h' hs'
    refine hK h' ?_
    have e1 : Sort.pdq Sort.ltInt zs.toArray 0 s.n (Sort.bitsLen s.n) true true = Sort.sort Sort.ltInt zs.toArray := by
      unfold Sort.sort
      rw [List.size_toArray, ← hn]
    rw [e1] at hs'
    have e2 := Sort.sortInt zs
    have e3 : ur (Sort.sort Sort.ltInt zs.toArray) = (zs.mergeSort fun x y => decide (x ≤ y)).map fun n => .int .u32 n := by unfold ur; rw [e2]
    have hs' : Sat (L ++ [Hw.own 25 1 s (ur (Sort.sort Sort.ltInt zs.toArray))]) h' := hs'
    rw [e3] at hs'
    exact hs'
end Go.Proofs.YtbbnpmikjdgdpaaGreat

set_option linter.unusedVariables false
set_option maxRecDepth 100000
namespace Go.Proofs.YtbbnpmikjdgdpaaGreat
open Go Go.Hw
noncomputable def B22 : Code := match Tryz.f22.body with | some c => c | none => .skip
def N22 (x0_0 x0_1 x0_2 x0_3 x0_4 x0_5 x1 : Int) (h : Hp) (K : Option Addr → Hp → Prop) : Prop :=
 nw h (.cells ⟨[.int .u8 x0_0, .int .u8 x0_1, .int .u8 x0_2, .int .u8 x0_3, .int .u8 x0_4, .int .u8 x0_5]⟩ 46) fun b0 h0 =>
 bif (decide (x1 < 1)) then
 K none h0
 else
 bif (decide (x1 > 64)) then
 K none h0
 else
 xI .u8 (cell h0 (bk b0)) fun n0 =>
 xI .u8 (cell h0 ((bk b0).add 1)) fun n1 =>
 xI .u8 (cell h0 ((bk b0).add 2)) fun n2 =>
 xI .u8 (cell h0 ((bk b0).add 3)) fun n3 =>
 xI .u8 (cell h0 ((bk b0).add 4)) fun n4 =>
 xI .u8 (cell h0 ((bk b0).add 5)) fun n5 =>
 nw h0 (.map #[] 0) fun b1 h1 =>
 nw h1 (.cells ⟨[.int .u8 n0, .int .u8 n1, .int .u8 n2, .int .u8 n3, .int .u8 n4, .int .u8 n5, .int .i64 x1, .map (some b1), .int .i64 0]⟩ 138) fun b2 h2 =>
 K (some (bk b2)) h2
theorem S22 {x0_0 x0_1 x0_2 x0_3 x0_4 x0_5 x1 : Int} {h : Hp} {K : Option Addr → Hp → Prop} (hn : N22 x0_0 x0_1 x0_2 x0_3 x0_4 x0_5 x1 h K) : C22 x0_0 x0_1 x0_2 x0_3 x0_4 x0_5 x1 h K := by
 refine calls_of_D Tryz.func22 (c := B22) rfl (by kernel_rfl) ?_
 refine den_sound hE hm _ .leaf _ _ _ (annOk_leaf) ?_
 refine cast ?_ hn
 kernel_rfl
end Go.Proofs.YtbbnpmikjdgdpaaGreat

set_option linter.unusedVariables false
set_option maxRecDepth 100000
namespace Go.Proofs.YtbbnpmikjdgdpaaGreat
open Go Go.Hw
noncomputable def B55 : Code := match Tryz.f55.body with | some c => c | none => .skip
def N55 (x0 : Option Addr) (x1 : Int) (h : Hp) (K : Hp → Prop) : Prop :=
 nn x0 fun a0 =>
 xI .i64 (cell h (a0.add 8)) fun n0 =>
 nn x0 fun a1 =>
 st h (a1.add 8) (.int .i64 (mx n0 (mn x1 1125899906842624))) fun h0 =>
 K h0
theorem S55 {x0 : Option Addr} {x1 : Int} {h : Hp} {K : Hp → Prop} (hn : N55 x0 x1 h K) : C55 x0 x1 h K := by
 refine calls_of_D Tryz.func55 (c := B55) rfl (by kernel_rfl) ?_
 refine den_sound hE hm _ .leaf _ _ _ (annOk_leaf) ?_
 refine cast ?_ hn
 kernel_rfl
end Go.Proofs.YtbbnpmikjdgdpaaGreat

set_option linter.unusedVariables false
set_option maxRecDepth 100000
namespace Go.Proofs.YtbbnpmikjdgdpaaGreat
open Go Go.Hw
noncomputable def B56 : Code := match Tryz.f56.body with | some c => c | none => .skip
def N56 (x0 : Option Addr) (h : Hp) (K : Bool → Hp → Prop) : Prop :=
 nn x0 fun a0 =>
 xI .i64 (cell h (a0.add 7)) fun n0 =>
 K (n0 == 0) h
theorem S56 {x0 : Option Addr} {h : Hp} {K : Bool → Hp → Prop} (hn : N56 x0 h K) : C56 x0 h K := by
 refine calls_of_D Tryz.func56 (c := B56) rfl (by kernel_rfl) ?_
 refine den_sound hE hm _ .leaf _ _ _ (annOk_leaf) ?_
 refine cast ?_ hn
 kernel_rfl
end Go.Proofs.YtbbnpmikjdgdpaaGreat

set_option linter.unusedVariables false
set_option maxRecDepth 100000
namespace Go.Proofs.YtbbnpmikjdgdpaaGreat
open Go Go.Hw
noncomputable def B59 : Code := match Tryz.f59.body with | some c => c | none => .skip
def N59 (x0 : Option Addr) (x1 : Int) (h : Hp) (K : Int → Hp → Prop) : Prop :=
 nn x0 fun a0 =>
 xI .i64 (cell h (a0.add 8)) fun n0 =>
 K (mn (IntKind.wrap .i64 (n0 + x1)) 1125899906842624) h
theorem S59 {x0 : Option Addr} {x1 : Int} {h : Hp} {K : Int → Hp → Prop} (hn : N59 x0 x1 h K) : C59 x0 x1 h K := by
 refine calls_of_D Tryz.func59 (c := B59) rfl (by kernel_rfl) ?_
 refine den_sound hE hm _ .leaf _ _ _ (annOk_leaf) ?_
 refine cast ?_ hn
 kernel_rfl
end Go.Proofs.YtbbnpmikjdgdpaaGreat

set_option linter.unusedVariables false
set_option maxRecDepth 100000
namespace Go.Proofs.YtbbnpmikjdgdpaaGreat
open Go Go.Hw
noncomputable def B75 : Code := match Tryz.f75.body with | some c => c | none => .skip
def N75_l0_b (x9 : Option Addr) (Φ : Sl → Hp → Prop) (x3 : Sl) (h : Hp) (K0 : Sl → Hp → Prop) : Prop :=
 nxM h x9 fun b0 r0 h0 =>
 bif b0 then
 enM h0 x9 fun v0 v1 =>
 xI .u32 (some v0) fun n0 =>
 nw h0 (.cells ⟨[.int .u32 n0]⟩ 25) fun b1 h1 =>
 apK Tryz.prog 25 x3 (.slice (some (bk b1)) 1 1) h1 fun s0 h2 =>
 Φ s0 h2
 else
 K0 x3 h0
def N75_l0_B (x9 : Option Addr) (K0 : Sl → Hp → Prop) (s : Sg.T [(3, .c (.slice))]) (h : Hp) (Φ : Sg.T [(3, .c (.slice))] → Hp → Prop) : Prop :=
 N75_l0_b x9 (fun x3 h => Φ x3 h) s h K0
def N75_l0 (x9 : Option Addr) (x3 : Sl) (h : Hp) (K0 : Sl → Hp → Prop) : Prop :=
 loopP (N75_l0_B x9 K0) x3 h
noncomputable def N75_l0_t : Xf := loopT [(9, .c (.ptr))] [(3, .c (.slice))] (codeAt B75 [1, 1, 0, 1, 0, 0]) fun F Q => N75_l0_B F (fun o0 h' => Q (.exit 0) (Sg.env [(3, .c (.slice))] o0) h')
theorem N75_l0_ok : Sound Tryz.prog Tryz.f75.ntmps N75_l0_t (codeAt B75 [1, 1, 0, 1, 0]) := by
 refine loop_sound (fun e => match e with | .exit 0 => [3] | _ => []) (by kernel_rfl) ?_
 intro F Q s h Φ hb
 refine den_sound hE hm _ .leaf _ _ _ (annOk_leaf) ?_
 refine cast ?_ hb
 kernel_rfl
def N75 (x0 : Option Addr) (h : Hp) (K : Sl → Hp → Prop) : Prop :=
 nn x0 fun a0 =>
 xM (cell h (a0.add 7)) fun m0 =>
 rgM h m0 fun p0 h0 =>
 N75_l0 p0 ⟨none, 0, 0⟩ h0
 (fun s0 h1 =>
 C91 s0 h1 fun h2 =>
 K s0 h2)
theorem S75 {x0 : Option Addr} {h : Hp} {K : Sl → Hp → Prop} (hn : N75 x0 h K) : C75 x0 h K := by
 refine calls_of_D Tryz.func75 (c := B75) rfl (by kernel_rfl) ?_
 refine den_sound hE hm _ (.two .leaf (.two .leaf (.two (.two .leaf (.one (.xf N75_l0_t))) .leaf))) _ _ _ (⟨annOk_leaf, ⟨annOk_leaf, ⟨⟨annOk_leaf, N75_l0_ok⟩, annOk_leaf⟩⟩⟩) ?_
 refine cast ?_ hn
 kernel_rfl
end Go.Proofs.YtbbnpmikjdgdpaaGreat

set_option linter.unusedVariables false
set_option maxRecDepth 100000
namespace Go.Proofs.YtbbnpmikjdgdpaaGreat
open Go Go.Hw
noncomputable def B58 : Code := match Tryz.f58.body with | some c => c | none => .skip
def N58_j1 (x0 : Option Addr) (x3 : Bool) (x4 x6 : Int) (x19 : Sl) (x20 x21 : Int) (x52 : Bool) (h : Hp) (Kn : Bool → Int → Hp → Prop) : Prop :=
 bif x52 then
 Kn true x6 h
 else
 Kn x3 x4 h
noncomputable def N58_j1_t : Xf := pieceT [(0, .c (.ptr)), (3, .c (.bool)), (4, .c (.int .u32)), (6, .c (.int .u32)), (19, .c (.slice)), (20, .c (.int .i64)), (21, .c (.int .i64)), (52, .c (.bool))] (codeAt B58 [1, 1, 1, 1, 0, 1, 0, 0, 1, 1, 0, 0, 1, 1, 1]) fun x h Q => N58_j1 x.1 x.2.1 x.2.2.1 x.2.2.2.1 x.2.2.2.2.1 x.2.2.2.2.2.1 x.2.2.2.2.2.2.1 x.2.2.2.2.2.2.2 h (fun o0 o1 h' => Q .normal (Sg.env [(3, .c (.bool)), (4, .c (.int .u32))] (o0, o1)) h')
theorem N58_j1_ok : Sound Tryz.prog Tryz.f58.ntmps N58_j1_t (codeAt B58 [1, 1, 1, 1, 0, 1, 0, 0, 1, 1, 0, 0, 1, 1, 1]) := by
 refine piece_sound (fun e => match e with | .normal => [3, 4] | _ => []) ?_
 intro x h Q hb
 refine den_sound hE hm _ .leaf _ _ _ (annOk_leaf) ?_
 refine cast ?_ hb
 kernel_rfl
def N58_l0_b (x0 : Option Addr) (x19 : Sl) (x20 : Int) (Φ : Bool → Int → Int → Hp → Prop) (x3 : Bool) (x4 x21 : Int) (h : Hp) (K0 : Bool → Int → Hp → Prop) : Prop :=
 bif (decide (x21 < x20)) then
 idx x21 x19.n <|
 nn x19.p fun a0 =>
 xI .u32 (cell h (a0.add (x21.toNat * 1))) fun n0 =>
 nn x0 fun a1 =>
 xM (cell h (a1.add 7)) fun m0 =>
 xMap h m0 fun es0 _ =>
 keyAt (.int .u32) (.int .u32 n0) es0 fun r0 =>
 xP (some (rval r0 (.pointer none))) fun p0 =>
 C56 p0 h fun b0 h0 =>
 bif b0 then
 bif (!x3) then
 N58_j1 x0 x3 x4 n0 x19 x20 x21 true h0
 (fun b1 n1 h1 =>
 Φ b1 n1 (IntKind.wrap .i64 (x21 + 1)) h1)
 else
 nn p0 fun a2 =>
 xI .i64 (cell h0 (a2.add 6)) fun n2 =>
 nn x0 fun a3 =>
 xM (cell h0 (a3.add 7)) fun m1 =>
 xMap h0 m1 fun es1 _ =>
 keyAt (.int .u32) (.int .u32 x4) es1 fun r1 =>
 xP (some (rval r1 (.pointer none))) fun p1 =>
 nn p1 fun a4 =>
 xI .i64 (cell h0 (a4.add 6)) fun n3 =>
 N58_j1 x0 x3 x4 n0 x19 x20 x21 (decide (n2 < n3)) h0
 (fun b2 n4 h2 =>
 Φ b2 n4 (IntKind.wrap .i64 (x21 + 1)) h2)
 else
 N58_j1 x0 x3 x4 n0 x19 x20 x21 false h0
 (fun b3 n5 h3 =>
 Φ b3 n5 (IntKind.wrap .i64 (x21 + 1)) h3)
 else
 K0 x3 x4 h
def N58_l0_B (x0 : Option Addr) (x19 : Sl) (x20 : Int) (K0 : Bool → Int → Hp → Prop) (s : Sg.T [(3, .c (.bool)), (4, .c (.int .u32)), (21, .c (.int .i64))]) (h : Hp) (Φ : Sg.T [(3, .c (.bool)), (4, .c (.int .u32)), (21, .c (.int .i64))] → Hp → Prop) : Prop :=
 N58_l0_b x0 x19 x20 (fun x3 x4 x21 h => Φ (x3, x4, x21) h) s.1 s.2.1 s.2.2 h K0
def N58_l0 (x0 : Option Addr) (x19 : Sl) (x20 : Int) (x3 : Bool) (x4 x21 : Int) (h : Hp) (K0 : Bool → Int → Hp → Prop) : Prop :=
 loopP (N58_l0_B x0 x19 x20 K0) (x3, x4, x21) h
noncomputable def N58_l0_t : Xf := loopT [(0, .c (.ptr)), (19, .c (.slice)), (20, .c (.int .i64))] [(3, .c (.bool)), (4, .c (.int .u32)), (21, .c (.int .i64))] (codeAt B58 [1, 1, 1, 1, 0, 1, 0, 0]) fun F Q => N58_l0_B F.1 F.2.1 F.2.2 (fun o0 o1 h' => Q (.exit 0) (Sg.env [(3, .c (.bool)), (4, .c (.int .u32))] (o0, o1)) h')
theorem N58_l0_ok : Sound Tryz.prog Tryz.f58.ntmps N58_l0_t (codeAt B58 [1, 1, 1, 1, 0, 1, 0]) := by
 refine loop_sound (fun e => match e with | .exit 0 => [3, 4] | _ => []) (by kernel_rfl) ?_
 intro F Q s h Φ hb
 refine den_sound hE hm _ (.two .leaf (.two .leaf (.two (.one (.two .leaf (.two .leaf (.two (.ord [0, 1, 2, 3, 4, 5, 6, 7, 8, 9, 10, 11, 12, 13, 14, 15, 16, 17, 18, 19, 20, 21]) (.xf N58_j1_t))))) .leaf))) _ _ _ (⟨annOk_leaf, ⟨annOk_leaf, ⟨⟨annOk_leaf, ⟨annOk_leaf, ⟨trivial, N58_j1_ok⟩⟩⟩, annOk_leaf⟩⟩⟩) ?_
 refine cast ?_ hb
 kernel_rfl
def N58 (x0 : Option Addr) (h : Hp) (K : Bool → Hp → Prop) : Prop :=
 nn x0 fun a0 =>
 xM (cell h (a0.add 7)) fun m0 =>
 xMap h m0 fun es0 _ =>
 nn x0 fun a1 =>
 xI .i64 (cell h (a1.add 6)) fun n0 =>
 bif (decide ((es0.length : Int) < n0)) then
 K true h
 else
 C75 x0 h fun s0 h0 =>
 N58_l0 x0 s0 ((s0.n : Nat) : Int) false 0 0 h0
 (fun b0 n1 h1 =>
 bif b0 then
 nn x0 fun a2 =>
 xM (cell h1 (a2.add 7)) fun m1 =>
 mdK Tryz.prog 136 (.map m1) (.int .u32 n1) h1 fun h2 =>
 K b0 h2
 else
 K b0 h1)
theorem S58 {x0 : Option Addr} {h : Hp} {K : Bool → Hp → Prop} (hn : N58 x0 h K) : C58 x0 h K := by
 refine calls_of_D Tryz.func58 (c := B58) rfl (by kernel_rfl) ?_
 refine den_sound hE hm _ (.two .leaf (.two (.two (.ord [0, 1, 2, 3, 4, 5, 6, 7, 8, 9]) .leaf) (.two .leaf (.two .leaf (.two (.two .leaf (.one (.xf N58_l0_t))) .leaf))))) _ _ _ (⟨annOk_leaf, ⟨⟨trivial, annOk_leaf⟩, ⟨annOk_leaf, ⟨annOk_leaf, ⟨⟨annOk_leaf, N58_l0_ok⟩, annOk_leaf⟩⟩⟩⟩⟩) ?_
 refine cast ?_ hn
 kernel_rfl
end Go.Proofs.YtbbnpmikjdgdpaaGreat

set_option linter.unusedVariables false
set_option maxRecDepth 100000
namespace Go.Proofs.YtbbnpmikjdgdpaaGreat
open Go Go.Hw
noncomputable def B60 : Code := match Tryz.f60.body with | some c => c | none => .skip
def N60 (x0 : Option Addr) (x1 : Int) (x2 : Option Addr) (h : Hp) (K : Int → Int → Int → Int → Int → Int → Int → Sl → Hp → Prop) : Prop :=
 nw h (.cells ⟨[.int .u8 0, .int .u8 0, .int .u8 0, .int .u8 0, .int .u8 0, .int .u8 0, .int .i64 0, .slice none 0 0]⟩ 99) fun b0 h0 =>
 nn x0 fun a0 =>
 xI .u8 (cell h0 a0) fun n0 =>
 xI .u8 (cell h0 (a0.add 1)) fun n1 =>
 xI .u8 (cell h0 (a0.add 2)) fun n2 =>
 xI .u8 (cell h0 (a0.add 3)) fun n3 =>
 xI .u8 (cell h0 (a0.add 4)) fun n4 =>
 xI .u8 (cell h0 (a0.add 5)) fun n5 =>
 nn x2 fun a1 =>
 xI .u32 (cell h0 (a1.add 8)) fun n6 =>
 C77 n0 n1 n2 n3 n4 n5 n6 x1 h0 fun n7 n8 n9 n10 n11 n12 n13 n14 n15 n16 n17 n18 n19 n20 n21 h1 =>
 C76 n7 n8 n9 n10 n11 n12 n13 n14 n15 n16 n17 n18 n19 n20 n21 h1 fun s0 n22 h2 =>
 C54 h2 fun n23 n24 n25 n26 n27 n28 h3 =>
 st h3 (bk b0) (.int .u8 n23) fun h4 =>
 st h4 ((bk b0).add 1) (.int .u8 n24) fun h5 =>
 st h5 ((bk b0).add 2) (.int .u8 n25) fun h6 =>
 st h6 ((bk b0).add 3) (.int .u8 n26) fun h7 =>
 st h7 ((bk b0).add 4) (.int .u8 n27) fun h8 =>
 st h8 ((bk b0).add 5) (.int .u8 n28) fun h9 =>
 st h9 ((bk b0).add 6) (.int .i64 2054) fun h10 =>
 st h10 ((bk b0).add 7) (.slice s0.p s0.n s0.c) fun h11 =>
 xI .u8 (cell h11 (bk b0)) fun n29 =>
 xI .u8 (cell h11 ((bk b0).add 1)) fun n30 =>
 xI .u8 (cell h11 ((bk b0).add 2)) fun n31 =>
 xI .u8 (cell h11 ((bk b0).add 3)) fun n32 =>
 xI .u8 (cell h11 ((bk b0).add 4)) fun n33 =>
 xI .u8 (cell h11 ((bk b0).add 5)) fun n34 =>
 xI .i64 (cell h11 ((bk b0).add 6)) fun n35 =>
 xL (cell h11 ((bk b0).add 7)) fun s1 =>
 K n29 n30 n31 n32 n33 n34 n35 s1 h11
theorem S60 {x0 : Option Addr} {x1 : Int} {x2 : Option Addr} {h : Hp} {K : Int → Int → Int → Int → Int → Int → Int → Sl → Hp → Prop} (hn : N60 x0 x1 x2 h K) : C60 x0 x1 x2 h K := by
 refine calls_of_M Tryz.func60 (c := B60) rfl (by kernel_rfl) ?_
 refine den_sound hE hm _ (.two .leaf (.two (.ord [0, 1, 2, 3, 4, 5, 6, 7, 8, 9, 10, 11, 12, 13, 14, 15]) .leaf)) _ _ _ (⟨annOk_leaf, ⟨trivial, annOk_leaf⟩⟩) ?_
 refine cast ?_ hn
 kernel_rfl
end Go.Proofs.YtbbnpmikjdgdpaaGreat

set_option linter.unusedVariables false
set_option maxRecDepth 100000
namespace Go.Proofs.YtbbnpmikjdgdpaaGreat
open Go Go.Hw
noncomputable def B26 : Code := match Tryz.f26.body with | some c => c | none => .skip
def N26 (x0 : Option Addr) (h : Hp) (K : Hp → Prop) : Prop :=
 nn x0 fun a0 =>
 xM (cell h (a0.add 7)) fun m0 =>
 clM h m0 fun h0 =>
 K h0
theorem S26 {x0 : Option Addr} {h : Hp} {K : Hp → Prop} (hn : N26 x0 h K) : C26 x0 h K := by
 refine calls_of_D Tryz.func26 (c := B26) rfl (by kernel_rfl) ?_
 refine den_sound hE hm _ .leaf _ _ _ (annOk_leaf) ?_
 refine cast ?_ hn
 kernel_rfl
end Go.Proofs.YtbbnpmikjdgdpaaGreat

/-
 The cache: its state, the program's cache in memory, the small functions.
-/
-- (no (*neigh.Cache).Next)
-- (no (*neigh.Cache).Look)
set_option linter.unusedSimpArgs false
set_option linter.unusedVariables false
set_option maxRecDepth 4000
namespace Go.Proofs.YtbbnpmikjdgdpaaGreat
open Go Go.Hw
structure NE where
 ip : Int
 mac : M6
 til : Int
 tries : Int
 src : Int
 pk : List UInt8
structure Ca where
 own : M6
 most : Int
 l : List NE
 now : Int
abbrev keyE (e : NE) : Int := e.ip
abbrev maxT : Int := 1125899906842624
def mac0 : M6 := ⟨0, 0, 0, 0, 0, 0⟩
structure NE.ok (e : NE) : Prop where
 ip : 0 ≤ e.ip ∧ e.ip < 4294967296
 mac : e.mac.ok
 til : 0 ≤ e.til ∧ e.til ≤ maxT
 tries : 0 ≤ e.tries ∧ e.tries ≤ 3
 src : 0 ≤ e.src ∧ e.src < 4294967296
 known : e.tries = 0 → e.src = 0 ∧ e.pk = []
 asked : e.tries ≠ 0 → e.mac = mac0
 pk : e.pk.length ≤ 1099511627776
structure Ca.ok (c : Ca) : Prop where
 own : c.own.ok
 most : 1 ≤ c.most ∧ c.most ≤ 64
 srt : c.l.Pairwise fun a b => a.ip < b.ip
 all : ∀ e ∈ c.l, e.ok
 len : (c.l.length : Int) ≤ c.most
 now : 0 ≤ c.now ∧ c.now ≤ maxT
theorem srt_nod {l : List NE} (h : l.Pairwise fun a b => a.ip < b.ip) : NodK keyE l := h.imp fun h e => by simp only [keyE] at e; omega
theorem Ca.ok.nod {c : Ca} (h : c.ok) : NodK keyE c.l := srt_nod h.srt
def tellC (c : Ca) (now : Int) : Ca := { c with now := max c.now (min now maxT) }
def behindC (c : Ca) (n : Int) : Int := min (c.now + n) maxT
def leastK : Option NE → List NE → Option NE
 | b, [] => b
 | none, e :: l => leastK (if e.tries = 0 then some e else none) l
 | some x, e :: l => leastK (if e.tries = 0 ∧ e.til < x.til then some e else some x) l
def roomL (most : Int) (l : List NE) : Option (List NE) := if (l.length : Int) < most then some l else match leastK none l with
 | none => none
 | some e => some (delK keyE e.ip l)
def putL' (e : NE) : List NE → List NE
 | [] => [e]
 | x :: l => if x.ip > e.ip then e :: x :: l else x :: putL' e l
theorem putL_perm (e : NE) : ∀ l : List NE, (putL' e l).Perm (e :: l)
 | [] => List.Perm.refl _
 | p :: l => by
  unfold putL'
  split
  ·exact List.Perm.refl _
  ·exact ((putL_perm e l).cons p).trans (List.Perm.swap _ _ _)
structure Snd where
 dst : M6
 kind : Int
 data : List UInt8
def questC (c : Ca) (e : NE) : Snd := ⟨oneEighty, 2054, arpL 1 c.own e.src mac0 e.ip⟩
def entC (e : NE) (s : Sl) : List Value := [.int .u8 e.mac.a, .int .u8 e.mac.b, .int .u8 e.mac.c, .int .u8 e.mac.d, .int .u8 e.mac.e, .int .u8 e.mac.f, .int .i64 e.til, .int .i64 e.tries, .int .u32 e.src, s.v]
def entA (q : Nat) (e : NE) : Asn := exs fun s : Sl => star [row q 146 (entC e s), Hw.own 5 1 s (bc e.pk)]
def caC (c : Ca) (m : Nat) : List Value := [.int .u8 c.own.a, .int .u8 c.own.b, .int .u8 c.own.c, .int .u8 c.own.d, .int .u8 c.own.e, .int .u8 c.own.f, .int .i64 c.most, .map (some m), .int .i64 c.now]
def cacheA (b : Nat) (c : Ca) : Asn := exs fun m : Nat => star [row b 138 (caC c m), pmA keyE entA .u32 m c.l]
theorem cache_open {L : List Asn} {b : Nat} {c : Ca} {h : Hp} (hs : Sat (L ++ [cacheA b c]) h) : ∃ m, Sat (L ++ [row b 138 (caC c m), pmA keyE entA .u32 m c.l]) h := by
 obtain ⟨m, hs⟩ := hs.exOut
 have hs : Sat (L ++ [star [row b 138 (caC c m), pmA keyE entA .u32 m c.l]]) h := hs
 exact ⟨m, hs.open⟩
theorem cache_shut {L : List Asn} {b m : Nat} {c : Ca} {h : Hp} (hs : Sat (L ++ [row b 138 (caC c m), pmA keyE entA .u32 m c.l]) h) : Sat (L ++ [cacheA b c]) h := by
 have h2 := hs.close
 unfold cacheA
 exact h2.exIn m
theorem ent_open {L : List Asn} {q : Nat} {e : NE} {h : Hp} (hs : Sat (L ++ [entA q e]) h) : ∃ s, Sat (L ++ [row q 146 (entC e s), Hw.own 5 1 s (bc e.pk)]) h := by
 obtain ⟨s, hs⟩ := hs.exOut
 have hs : Sat (L ++ [star [row q 146 (entC e s), Hw.own 5 1 s (bc e.pk)]]) h := hs
 exact ⟨s, hs.open⟩
theorem ent_shut {L : List Asn} {q : Nat} {e : NE} {s : Sl} {h : Hp} (hs : Sat (L ++ [row q 146 (entC e s), Hw.own 5 1 s (bc e.pk)]) h) : Sat (L ++ [entA q e]) h := by
 have h2 := hs.close
 unfold entA
 exact h2.exIn s
theorem mu_t : Tryz.prog.underlying 136 = some (.map 25 143) := by kernel_rfl
theorem mu_k : Tryz.prog.underlying 25 = some (.int .u32) := by kernel_rfl
theorem u_a : Tryz.prog.cellsOf 25 = 1 := by kernel_rfl
theorem u_z : (zc Tryz.prog 25).length = 1 := by kernel_rfl
theorem u_b : Tryz.prog.bytesOf 25 = 4 := by kernel_rfl
theorem mx_eq {a b : Int} : mx a b = max a b := by unfold mx; omega
theorem mn_eq {a b : Int} : mn a b = min a b := by unfold mn; omega
section
variable {L : List Asn} {b : Nat} {c : Ca} {h : Hp}
theorem n_tell {now : Int} {K : Hp → Prop} (hs : Sat (L ++ [cacheA b c]) h) (hK : ∀ h', Sat (L ++ [cacheA b (tellC c now)]) h' → K h') : C55 (some (bk b)) now h K := by
 apply S55; unfold N55
 obtain ⟨m, hs⟩ := cache_open hs
 simp only [nn_some', add_bk]
 refine hs.lI 0 rfl rfl ?_
 refine hs.st 0 rfl (by simp [caC]) rfl ?_
 intro h1 hs1
 rw [mx_eq, mn_eq] at hs1
 exact hK _ (cache_shut (m := m) hs1)
theorem n_behind {n : Int} {K : Int → Hp → Prop} (hs : Sat (L ++ [cacheA b c]) h) (ho : c.ok) (hn : 0 ≤ n ∧ n ≤ 1000) (hK : K (behindC c n) h) : C59 (some (bk b)) n h K := by
 apply S59; unfold N59
 obtain ⟨m, hs⟩ := cache_open hs
 simp only [nn_some', add_bk]
 refine hs.lI 0 rfl rfl ?_
 have := ho.now
 rw [mn_eq, wi64i (by omega) (by simp only [maxT] at this; omega)]
 exact hK
theorem n_behind1 {L M : List Asn} {m : Nat} {n : Int} {K : Int → Hp → Prop} (hs : Sat (L ++ M) h) (j : Nat) (hj : M[j]? = some (row b 138 (caC c m))) (ho : c.ok) (hn : 0 ≤ n ∧ n ≤ 1000) (hK : K (behindC c n) h) : C59 (some (bk b)) n h K := by
 apply S59; unfold N59
 simp only [nn_some', add_bk]
 refine hs.lI j hj rfl ?_
 have := ho.now
 rw [mn_eq, wi64i (by omega) (by simp only [maxT] at this; omega)]
 exact hK
theorem n_known {q : Nat} {e : NE} {K : Bool → Hp → Prop} (hs : Sat (L ++ [entA q e]) h) (hK : K (e.tries == 0) h) : C56 (some (bk q)) h K := by
 apply S56; unfold N56
 obtain ⟨s, hs⟩ := ent_open hs
 simp only [nn_some', add_bk]
 exact hs.lI 0 rfl rfl hK
theorem sort_ips {E : List NE} {l : List NE} (hp : E.Perm l) (hs : l.Pairwise fun p q => p.ip < q.ip) : (E.map NE.ip).mergeSort (fun x y => decide (x ≤ y)) = l.map NE.ip := by
 have tr : ∀ a b c : Int, decide (a ≤ b) = true → decide (b ≤ c) = true → decide (a ≤ c) = true := fun a b c h1 h2 => by simp only [decide_eq_true_eq] at *; omega
 have to : ∀ a b : Int, (decide (a ≤ b) || decide (b ≤ a)) = true := fun a b => by simp only [Bool.or_eq_true, decide_eq_true_eq]; omega
 refine List.Perm.eq_of_pairwise (le := fun a b => a ≤ b) (fun a b _ _ h1 h2 => Int.le_antisymm h1 h2) ?_ ?_ ((List.mergeSort_perm _ _).trans (hp.map _))
 ·have := List.pairwise_mergeSort tr to (E.map NE.ip)
  exact this.imp fun h => by simpa using h
 ·rw [List.pairwise_map]
  exact hs.imp fun h => Int.le_of_lt h
def uz (l : List Int) : List Value := l.map fun n => .int .u32 n
theorem n_sorted {K : Sl → Hp → Prop} (hs : Sat (L ++ [cacheA b c]) h) (ho : c.ok) (hK : ∀ s h', Sat (L ++ [cacheA b c, Hw.own 25 1 s (uz (c.l.map NE.ip))]) h' → K s h') : C75 (some (bk b)) h K := by
 apply S75; unfold N75
 obtain ⟨m, hs⟩ := cache_open hs
 simp only [nn_some', add_bk]
 refine hs.lM 0 rfl rfl ?_
 have g1 : Sat ((L ++ [row b 138 (caC c m)]) ++ [pmA keyE entA .u32 m c.l]) h := Sat.csa hs
 obtain ⟨E, g2, hp⟩ := pm_open g1
 have g3 : Sat ((L ++ [row b 138 (caC c m), star (E.map fun e => entA e.1 e.2)]) ++ [mapA .u32 m (kvs keyE E)]) h := Sat.csa ((Sat.asc g2).sel [0, 2, 1] (by decide) rfl)
 refine g3.rgM ?_
 intro w h1 g4
 have hlen := hp.length_eq
 rw [List.length_map] at hlen
 have hl64 := ho.len
 have hm64 := ho.most
 unfold N75_l0
 have g5 : Sat ((L ++ [row b 138 (caC c m), star (E.map fun e => entA e.1 e.2)]) ++ [walkA .u32 m w (kvs keyE E) [], Hw.own 25 1 ⟨none, 0, 0⟩ (uz [])]) h1 := g4.addNil 25 1
 refine loopP_inv (fun (x : Sl) hc => ∃ ks : KV, Sat ((L ++ [row b 138 (caC c m), star (E.map fun e => entA e.1 e.2)]) ++ [walkA .u32 m w (kvs keyE E) ks, Hw.own 25 1 x (uz (ks.map Prod.fst))]) hc) (fun x _ => E.length - x.n) ?_ ⟨[], g5⟩
 rintro x hc ⟨ks, g6⟩
 unfold N75_l0_B N75_l0_b
 have g7 : Sat ((L ++ [row b 138 (caC c m), star (E.map fun e => entA e.1 e.2), Hw.own 25 1 x (uz (ks.map Prod.fst))]) ++ [walkA .u32 m w (kvs keyE E) ks]) hc := Sat.csa ((Sat.asc g6).sel [0, 1, 3, 2] (by decide) rfl)
 have xn : x.n = ks.length := by have := (g6.own 1 rfl).1; simp [uz] at this; exact this.symm
 have kvl : (kvs keyE E).length = E.length := by simp [kvs]
 refine g7.nxM ?_ ?_
 ·intro hk
  simp only [cond_false]
  have g8 := g7.endM
  have g9 : Sat ((L ++ [row b 138 (caC c m), mapA .u32 m (kvs keyE E), star (E.map fun e => entA e.1 e.2)]) ++ [Hw.own 25 1 x (uz (ks.map Prod.fst))]) hc := Sat.csa ((Sat.asc g8).sel [0, 3, 1, 2] (by decide) rfl)
  refine c_sortU g9 ?_ ?_
  ·have := hk.length_eq; simp only [List.length_map]; omega
  ·intro h2 g10
   have e1 : ((ks.map Prod.fst).mergeSort fun x y => decide (x ≤ y)) = c.l.map NE.ip := by
    have p1 : (ks.map Prod.fst).Perm (E.map Prod.snd |>.map NE.ip) := by
     have := hk.map Prod.fst
     have e2 : (kvs keyE E).map Prod.fst = (E.map Prod.snd).map NE.ip := by simp [kvs]
     rw [e2] at this; exact this
    rw [← sort_ips hp ho.srt]
    have tr : ∀ a b c : Int, decide (a ≤ b) = true → decide (b ≤ c) = true → decide (a ≤ c) = true := fun a b c h1 h2 => by simp only [decide_eq_true_eq] at *; omega
    have to : ∀ a b : Int, (decide (a ≤ b) || decide (b ≤ a)) = true := fun a b => by simp only [Bool.or_eq_true, decide_eq_true_eq]; omega
    refine List.Perm.eq_of_pairwise (le := fun a b => a ≤ b) (fun a b _ _ h1 h2 => Int.le_antisymm h1 h2) ?_ ?_ (((List.mergeSort_perm _ _).trans p1).trans (List.mergeSort_perm _ _).symm)
    ·exact (List.pairwise_mergeSort tr to _).imp fun h => by simpa using h
    ·exact (List.pairwise_mergeSort tr to _).imp fun h => by simpa using h
   rw [e1] at g10
   have g11 : Sat ((L ++ [Hw.own 25 1 x (uz (c.l.map NE.ip)), row b 138 (caC c m)]) ++ [mapA .u32 m (kvs keyE E), star (E.map fun e => entA e.1 e.2)]) h2 := Sat.csa ((Sat.asc g10).sel [3, 0, 1, 2] (by decide) rfl)
   have g12 := pm_shut g11 hp
   have g13 : Sat ((L ++ [Hw.own 25 1 x (uz (c.l.map NE.ip))]) ++ [row b 138 (caC c m), pmA keyE entA .u32 m c.l]) h2 := Sat.mv g12
   have g14 := cache_shut g13
   exact hK _ _ ((Sat.asc g14).sel [1, 0] (by decide) rfl)
 ·intro k v h2 hkv hlt g8
  simp only [cond_true]
  refine g8.enM ?_
  simp only [xI_some]
  have g9 : Sat ((L ++ [row b 138 (caC c m), star (E.map fun e => entA e.1 e.2)]) ++ [walkA .u32 m w (kvs keyE E) (ks ++ [(k, v)]), Hw.own 25 1 x (uz (ks.map Prod.fst))]) h2 := Sat.csa ((Sat.asc g8).sel [0, 1, 3, 2] (by decide) rfl)
  refine g9.push 1 rfl (k := 1) u_a u_z rfl (by intro v hv; simp at hv; subst hv; rfl) (by rw [u_b]; omega) ?_
  intro x' h3 g10 hx'
  refine ⟨⟨ks ++ [(k, v)], ?_⟩, by omega⟩
  have e2 : uz ((ks ++ [(k, v)]).map Prod.fst) = uz (ks.map Prod.fst) ++ [.int .u32 k] := by simp [uz]
  rw [e2]; exact g10
theorem n_get {m : Nat} {ip : Int} {F : Option (Nat × Value) → Prop} (hs : Sat (L ++ [row b 138 (caC c m), pmA keyE entA .u32 m c.l]) h) (ho : c.ok)
  (h0 : findK keyE ip c.l = none → ∀ r, r.map Prod.snd = none → F r)
  (h1 : ∀ e q, findK keyE ip c.l = some e → Sat (L ++ [row b 138 (caC c m), pmH keyE entA .u32 m c.l ip q, entA q e]) h → ∀ r, r.map Prod.snd = some (.pointer (some (bk q))) → F r) : xMap h (some m) fun es _ => keyAt (.int .u32) (.int .u32 ip) es F := by
 have g1 : Sat ((L ++ [row b 138 (caC c m)]) ++ [pmA keyE entA .u32 m c.l]) h := Sat.csa hs
 exact pm_find g1 ho.nod h0 fun e q hf hs2 r hr => h1 e q hf (Sat.asc hs2) r hr
theorem n_back {m q : Nat} {ip : Int} {e : NE} (hs : Sat (L ++ [row b 138 (caC c m), pmH keyE entA .u32 m c.l ip q, entA q e]) h) (hn : NodK keyE c.l) (he : findK keyE ip c.l = some e) : Sat (L ++ [row b 138 (caC c m), pmA keyE entA .u32 m c.l]) h := by
 have g1 : Sat ((L ++ [row b 138 (caC c m)]) ++ [pmH keyE entA .u32 m c.l ip q, entA q e]) h := Sat.csa hs
 have g2 := pm_in g1 hn (findK_some he).2
 rw [updK_same hn he] at g2
 exact Sat.asc g2
theorem leastK_mem : ∀ {l : List NE} {b : Option NE} {e : NE}, leastK b l = some e → b = some e ∨ e ∈ l := by
 intro l
 induction l with
 | nil => intro b e h; left; cases b <;> exact h
 | cons x l ih =>
  intro b e h
  cases b with
  | none =>
   rw [leastK] at h
   rcases ih h with h1 | h1
   ·split at h1
    ·cases h1; exact .inr List.mem_cons_self
    ·cases h1
   ·exact .inr (List.mem_cons_of_mem _ h1)
  | some y =>
   rw [leastK] at h
   rcases ih h with h1 | h1
   ·split at h1
    ·cases h1; exact .inr List.mem_cons_self
    ·exact .inl h1
   ·exact .inr (List.mem_cons_of_mem _ h1)
theorem n_room {K : Bool → Hp → Prop} (hs : Sat (L ++ [cacheA b c]) h) (ho : c.ok) (hnone : roomL c.most c.l = none → ∀ h', Sat (L ++ [cacheA b c]) h' → K false h') (hK : ∀ l, roomL c.most c.l = some l → ∀ h', Sat (L ++ [cacheA b { c with l := l }]) h' → K true h') : C58 (some (bk b)) h K := by
 apply S58; unfold N58
 have hs' := hs
 obtain ⟨m, hs⟩ := cache_open hs
 simp only [nn_some', add_bk]
 refine hs.lM 0 rfl rfl ?_
 have g1 : Sat ((L ++ [row b 138 (caC c m)]) ++ [pmA keyE entA .u32 m c.l]) h := Sat.csa hs
 refine pm_len g1 ?_
 intro es cc hl
 refine hs.lI 0 rfl rfl ?_
 rw [hl]
 unfold roomL at hnone hK
 by_cases hlt : (c.l.length : Int) < c.most
 ·rw [if_pos hlt] at hK
  rw [decide_eq_true hlt, cond_true]
  exact hK _ rfl h hs'
 ·rw [if_neg hlt] at hK hnone
  rw [decide_eq_false hlt, cond_false]
  refine n_sorted hs' ho ?_
  intro s h1 g2
  unfold N58_l0
  have sn : s.n = c.l.length := by have := (g2.own 1 rfl).1; simp [uz] at this; exact this.symm
  have hl64 := ho.len
  have hm64 := ho.most
  refine loopP_inv (fun (x : Bool × Int × Int) hc => ∃ (i : Nat) (o : Option NE), x.2.2 = i ∧ i ≤ c.l.length ∧ x.1 = o.isSome ∧ (∀ e, o = some e → x.2.1 = e.ip ∧ e ∈ c.l) ∧ leastK o (c.l.drop i) = leastK none c.l ∧ Sat (L ++ [cacheA b c, Hw.own 25 1 s (uz (c.l.map NE.ip))]) hc) (fun x _ => c.l.length - x.2.2.toNat) ?_ ⟨0, none, rfl, Nat.zero_le _, rfl, fun e he => (by cases he), rfl, g2⟩
  rintro ⟨some', least, x⟩ hc ⟨i, o, hx, hi, ho1, ho2, hr, g3⟩
  simp only at hx ho1 ho2
  subst hx ho1
  unfold N58_l0_B N58_l0_b
  dsimp only
  by_cases hil : i < c.l.length
  ·rw [show decide ((i : Int) < ((s.n : Nat) : Int)) = true from decide_eq_true (by omega), cond_true]
   have hpi : c.l[i]? = some c.l[i] := List.getElem?_eq_getElem hil
   have hdr : c.l.drop i = c.l[i] :: c.l.drop (i + 1) := List.drop_eq_getElem_cons hil
   rw [hdr] at hr
   generalize c.l[i] = e at hpi hr
   refine idx_of (by omega) (by omega) ?_
   simp only [Int.toNat_natCast, Nat.mul_one]
   refine g3.oI 1 rfl (n := e.ip) (by simp [uz, hpi]) ?_
   have g4 : Sat ((L ++ [Hw.own 25 1 s (uz (c.l.map NE.ip))]) ++ [cacheA b c]) hc := Sat.csa (g3.sel [1, 0] (by decide) rfl)
   obtain ⟨m, g5⟩ := cache_open g4
   simp only [nn_some', add_bk]
   refine g5.lM 0 rfl rfl ?_
   have hmem := List.mem_of_getElem? hpi
   have hfe := findK_of (key := keyE) ho.nod hmem rfl
   refine n_get g5 ho (fun hf => by rw [hfe] at hf; cases hf) ?_
   intro e' q hf g6 r hr'
   rw [hfe] at hf; cases hf
   rw [rval_kv hr']
   simp only [Option.getD_some, xP_some]
   have g7 : Sat ((L ++ [Hw.own 25 1 s (uz (c.l.map NE.ip)), row b 138 (caC c m), pmH keyE entA .u32 m c.l e.ip q]) ++ [entA q e]) hc := Sat.mv g6
   have back : ∀ (hd : Hp), hd = hc → Sat (L ++ [cacheA b c, Hw.own 25 1 s (uz (c.l.map NE.ip))]) hd := by
    rintro hd rfl; exact g3
   refine n_known g7 ?_
   have nx : IntKind.wrap .i64 ((i : Int) + 1) = ((i + 1 : Nat) : Int) := nat_succ64 (by omega)
   rw [nx]
   by_cases hk : e.tries = 0
   ·rw [show (e.tries == 0) = true by simp [hk], cond_true]
    cases o with
    | none =>
     simp only [Option.isSome_none, Bool.not_false, cond_true, N58_j1]
     rw [leastK, if_pos hk] at hr
     exact ⟨⟨i + 1, some e, rfl, hil, rfl, fun e2 he2 => by cases he2; exact ⟨rfl, hmem⟩, hr, g3⟩, by simp only [Int.toNat_natCast]; omega⟩
    | some x =>
     simp only [Option.isSome_some, Bool.not_true, cond_false]
     obtain ⟨y1, y2⟩ := ho2 x rfl
     subst y1
     obtain ⟨se, g8⟩ := ent_open g7
     simp only [nn_some', add_bk]
     refine g8.lI 0 rfl rfl ?_
     refine g5.lM 0 rfl rfl ?_
     have hfx := findK_of (key := keyE) ho.nod y2 rfl
     refine n_get g5 ho (fun hf => by rw [hfx] at hf; cases hf) ?_
     intro e' q' hf g6' r hr'
     rw [hfx] at hf; cases hf
     rw [rval_kv hr']
     simp only [Option.getD_some, xP_some, nn_some', add_bk]
     have g7' : Sat ((L ++ [Hw.own 25 1 s (uz (c.l.map NE.ip)), row b 138 (caC c m), pmH keyE entA .u32 m c.l x.ip q']) ++ [entA q' x]) hc := Sat.mv g6'
     obtain ⟨se', g8'⟩ := ent_open g7'
     refine g8'.lI 0 rfl rfl ?_
     unfold N58_j1
     rw [leastK] at hr
     by_cases hlt2 : e.til < x.til
     ·rw [if_pos ⟨hk, hlt2⟩] at hr
      rw [decide_eq_true hlt2, cond_true]
      exact ⟨⟨i + 1, some e, rfl, hil, rfl, fun e2 he2 => by cases he2; exact ⟨rfl, hmem⟩, hr, g3⟩, by simp only [Int.toNat_natCast]; omega⟩
     ·rw [if_neg (fun q => hlt2 q.2)] at hr
      rw [decide_eq_false hlt2, cond_false]
      exact ⟨⟨i + 1, some x, rfl, hil, rfl, fun e2 he2 => by cases he2; exact ⟨rfl, y2⟩, hr, g3⟩, by simp only [Int.toNat_natCast]; omega⟩
   ·rw [show (e.tries == 0) = false by simp [hk], cond_false]
    unfold N58_j1
    rw [cond_false]
    refine ⟨⟨i + 1, o, rfl, hil, rfl, ho2, ?_, g3⟩, by simp only [Int.toNat_natCast]; omega⟩
    rw [← hr]
    cases o with
    | none => rw [leastK, if_neg hk]
    | some x => rw [leastK, if_neg (fun q => hk q.1)]
  ·rw [show decide ((i : Int) < ((s.n : Nat) : Int)) = false from decide_eq_false (by omega), cond_false]
   rw [List.drop_of_length_le (by omega)] at hr
   have hr : o = leastK none c.l := by rw [← hr]; cases o <;> rfl
   have g4 : Sat (L ++ [cacheA b c]) hc := g3.sel [0] (by decide) rfl
   cases o with
   | none =>
    simp only [Option.isSome_none, cond_false]
    rw [← hr] at hnone
    exact hnone rfl hc g4
   | some e =>
    obtain ⟨y1, y2⟩ := ho2 e rfl
    subst y1
    simp only [Option.isSome_some, cond_true]
    rw [← hr] at hK
    obtain ⟨m, g5⟩ := cache_open g4
    refine g5.lM 0 rfl rfl ?_
    have g6 : Sat ((L ++ [row b 138 (caC c m)]) ++ [pmA keyE entA .u32 m c.l]) hc := Sat.csa g5
    refine pm_del g6 ho.nod mu_t mu_k ?_
    intro h2 g7
    have g8 : Sat (L ++ [row b 138 (caC { c with l := delK keyE e.ip c.l } m), pmA keyE entA .u32 m (delK keyE e.ip c.l)]) h2 := Sat.asc g7
    exact hK _ rfl h2 (cache_shut (c := { c with l := delK keyE e.ip c.l }) g8)
theorem n_quest {q : Nat} {e : NE} {K : Int → Int → Int → Int → Int → Int → Int → Sl → Hp → Prop} {m : Nat} (hs : Sat (L ++ [row b 138 (caC c m), entA q e]) h) (ho : c.ok) (hsrc : 0 ≤ e.src ∧ e.src < 4294967296) (hip : 0 ≤ e.ip ∧ e.ip < 4294967296)
  (hK : ∀ s h', Sat (L ++ [row b 138 (caC c m), entA q e, Hw.own 5 1 s (bc (questC c e).data)]) h' → K 255 255 255 255 255 255 2054 s h') : C60 (some (bk b)) e.ip (some (bk q)) h K := by
 apply S60; unfold N60
 have g1 : Sat ((L ++ [row b 138 (caC c m)]) ++ [entA q e]) h := Sat.csa hs
 obtain ⟨s, g2⟩ := ent_open g1
 have g3 : Sat (L ++ [row b 138 (caC c m), row q 146 (entC e s), Hw.own 5 1 s (bc e.pk)]) h := Sat.asc g2
 refine g3.nw ?_
 intro b0 h0 g4 _
 have g4 : Sat (L ++ [row b 138 (caC c m), row q 146 (entC e s), Hw.own 5 1 s (bc e.pk), row b0 99 [.int .u8 0, .int .u8 0, .int .u8 0, .int .u8 0, .int .u8 0, .int .u8 0, .int .i64 0, .slice none 0 0]]) h0 := g4
 simp only [nn_some', add_bk]
 refine g4.lI 0 rfl rfl ?_
 refine g4.lI 0 rfl rfl ?_
 refine g4.lI 0 rfl rfl ?_
 refine g4.lI 0 rfl rfl ?_
 refine g4.lI 0 rfl rfl ?_
 refine g4.lI 0 rfl rfl ?_
 refine g4.lI 1 rfl rfl ?_
 refine c_aask fun h1 he1 => ?_
 have zok : mac0.ok := by unfold M6.ok mac0; decide
 refine c_aenc (op := 1) (s := c.own) (d := mac0) (.inl rfl) ho.own zok hsrc hip fun h2 x hn => ?_
 have g5 := (g4.ext he1).addNew hn
 refine c_every fun h3 he3 => ?_
 have g6 : Sat (L ++ [row b 138 (caC c m), row q 146 (entC e s), Hw.own 5 1 s (bc e.pk), row b0 99 [.int .u8 0, .int .u8 0, .int .u8 0, .int .u8 0, .int .u8 0, .int .u8 0, .int .i64 0, .slice none 0 0], Hw.own 5 1 x (bc (questC c e).data)]) h3 := g5.ext he3
 refine g6.st 3 rfl (by simp) rfl fun h4 g6 => ?_
 refine Sat.st g6 3 rfl (by simp) rfl fun h4 g6 => ?_
 refine Sat.st g6 3 rfl (by simp) rfl fun h4 g6 => ?_
 refine Sat.st g6 3 rfl (by simp) rfl fun h4 g6 => ?_
 refine Sat.st g6 3 rfl (by simp) rfl fun h4 g6 => ?_
 refine Sat.st g6 3 rfl (by simp) rfl fun h4 g6 => ?_
 refine Sat.st g6 3 rfl (by simp) rfl fun h4 g6 => ?_
 refine Sat.st g6 3 rfl (by simp) rfl fun h4 g6 => ?_
 have g7 : Sat (L ++ [row b 138 (caC c m), row q 146 (entC e s), Hw.own 5 1 s (bc e.pk), row b0 99 [.int .u8 255, .int .u8 255, .int .u8 255, .int .u8 255, .int .u8 255, .int .u8 255, .int .i64 2054, .slice x.p x.n x.c], Hw.own 5 1 x (bc (questC c e).data)]) h4 := g6
 refine g7.lI 3 rfl rfl ?_
 refine g7.lI 3 rfl rfl ?_
 refine g7.lI 3 rfl rfl ?_
 refine g7.lI 3 rfl rfl ?_
 refine g7.lI 3 rfl rfl ?_
 refine g7.lI 3 rfl rfl ?_
 refine g7.lI 3 rfl rfl ?_
 refine g7.lL 3 rfl rfl ?_
 refine hK x h4 ?_
 have g8 : Sat ((L ++ [row b 138 (caC c m), Hw.own 5 1 x (bc (questC c e).data)]) ++ [row q 146 (entC e s), Hw.own 5 1 s (bc e.pk)]) h4 := Sat.csa (g7.sel [0, 4, 1, 2] (by decide) rfl)
 exact (Sat.asc (ent_shut g8)).sel [0, 2, 1] (by decide) rfl
theorem n_clear {K : Hp → Prop} (hs : Sat (L ++ [cacheA b c]) h) (hK : ∀ h', Sat (L ++ [cacheA b { c with l := [] }]) h' → K h') : C26 (some (bk b)) h K := by
 apply S26; unfold N26
 obtain ⟨m, hs⟩ := cache_open hs
 simp only [nn_some', add_bk]
 refine hs.lM 0 rfl rfl ?_
 refine pm_clear (Sat.csa hs (A := [row b 138 (caC c m)])) fun h1 g1 => ?_
 exact hK h1 (cache_shut (c := { c with l := [] }) (m := m) (Sat.asc g1))
theorem n_new {L M : List Asn} {h : Hp} {own : M6} {most : Int} {K : Option Addr → Hp → Prop} (hs : Sat (L ++ M) h)
  (hnone : most < 1 ∨ 64 < most → ∀ h', Sat (L ++ M) h' → K none h') (hK : 1 ≤ most ∧ most ≤ 64 → ∀ b h', Sat (L ++ (M ++ [cacheA b ⟨own, most, [], 0⟩])) h' → K (some (bk b)) h') : C22 own.a own.b own.c own.d own.e own.f most h K := by
 apply S22; unfold N22
 have hs0 : Sat ((L ++ M) ++ []) h := by rw [List.append_nil]; exact hs
 refine hs0.nw ?_
 intro b0 h0 g1 _
 simp only [List.nil_append] at g1
 by_cases h1 : most < 1
 ·rw [decide_eq_true h1, cond_true]
  exact hnone (.inl h1) h0 g1.left
 ·rw [decide_eq_false h1, cond_false]
  by_cases h2 : most > 64
  ·rw [decide_eq_true h2, cond_true]
   exact hnone (.inr h2) h0 g1.left
  ·rw [decide_eq_false h2, cond_false]
   have hs := g1
   repeat (first | (refine Sat.st hs 0 rfl (by simp) rfl ?_; intro _ hs; simp only [List.set_cons_zero, List.set_cons_succ] at hs) | (refine Sat.lI hs 0 rfl rfl ?_) | (refine Sat.lL hs 0 rfl rfl ?_) | (refine Sat.lP hs 0 rfl rfl ?_) | (refine Sat.lB hs 0 rfl rfl ?_) | (refine Sat.lS hs 0 rfl rfl ?_) | (refine Sat.lM hs 0 rfl rfl ?_) | (refine Sat.lA hs 0 rfl rfl ?_) | (simp only [nn_some', add_bk]))
   intro b1 e1
   have g2 := g1.newMap .u32 e1
   revert g2
   generalize upd h0 b1 _ = h2
   intro g2
   refine Sat.nw g2 ?_
   intro b2 h3 g3 _
   have g4 : Sat (((L ++ M) ++ [row b2 138 (caC ⟨own, most, [], 0⟩ b1)]) ++ [mapA .u32 b1 []]) h3 := Sat.csa (g3.sel [2, 1] (by decide) rfl)
   have g5 := pm_mk (key := keyE) (obj := entA) g4
   have g6 := cache_shut (c := ⟨own, most, [], 0⟩) (Sat.asc g5)
   exact hK (by omega) b2 h3 (Sat.asc g6)
end
end Go.Proofs.YtbbnpmikjdgdpaaGreat

/-
 The cache: Next, Look; rows of what is to be sent.
-/
set_option linter.unusedSimpArgs false
set_option linter.unusedVariables false
set_option maxRecDepth 4000
namespace Go.Proofs.YtbbnpmikjdgdpaaGreat
open Go Go.Hw
theorem star_get {α : Type} {L : List Asn} {E : List α} {obj : α → Asn} {h : Hp} {e : α} (hs : Sat (L ++ [star (E.map obj)]) h) (he : e ∈ E) : ∃ L', Sat (L' ++ [obj e]) h := by
 obtain ⟨j, hj, rfl⟩ := List.getElem_of_mem he
 have := hs.out j (A := obj E[j]) (by rw [List.getElem?_map, List.getElem?_eq_getElem hj]; rfl)
 exact ⟨_, Sat.csa this (A := [_]) (B := [_])⟩
section
variable {L : List Asn} {b : Nat} {c : Ca} {h : Hp}
end
end Go.Proofs.YtbbnpmikjdgdpaaGreat

set_option linter.unusedVariables false
set_option maxRecDepth 100000
namespace Go.Proofs.YtbbnpmikjdgdpaaGreat
open Go Go.Hw
noncomputable def B38 : Code := match Tryz.f38.body with | some c => c | none => .skip
def N38_j1 (x0 : Option Addr) (x1 x2 : Int) (x3 : Sl) (x11 : Option Addr) (x38 : Bool) (h : Hp) (Kn : Hp → Prop) (Kr : Sl → Hp → Prop) : Prop :=
 bif x38 then
 nn x11 fun a0 =>
 xI .u8 (cell h a0) fun n0 =>
 xI .u8 (cell h (a0.add 1)) fun n1 =>
 xI .u8 (cell h (a0.add 2)) fun n2 =>
 xI .u8 (cell h (a0.add 3)) fun n3 =>
 xI .u8 (cell h (a0.add 4)) fun n4 =>
 xI .u8 (cell h (a0.add 5)) fun n5 =>
 C57 x3 h fun s0 h0 =>
 both (xI .u8 (cell h0 a0) fun n6 => xI .u8 (cell h0 (a0.add 1)) fun n7 => xI .u8 (cell h0 (a0.add 2)) fun n8 => xI .u8 (cell h0 (a0.add 3)) fun n9 => xI .u8 (cell h0 (a0.add 4)) fun n10 => xI .u8 (cell h0 (a0.add 5)) fun n11 => Only (.agg ⟨[.int .u8 n0, .int .u8 n1, .int .u8 n2, .int .u8 n3, .int .u8 n4, .int .u8 n5]⟩) h0 (.agg ⟨[.int .u8 n6, .int .u8 n7, .int .u8 n8, .int .u8 n9, .int .u8 n10, .int .u8 n11]⟩) h0) <|
 nw h0 (.cells ⟨[.int .u8 n0, .int .u8 n1, .int .u8 n2, .int .u8 n3, .int .u8 n4, .int .u8 n5, .int .i64 2048, .slice s0.p s0.n s0.c]⟩ 99) fun b0 h1 =>
 Kr ⟨some (bk b0), 1, 1⟩ h1
 else
 Kn h
noncomputable def N38_j1_t : Xf := pieceT [(0, .c (.ptr)), (1, .c (.int .u32)), (2, .c (.int .u32)), (3, .c (.slice)), (11, .c (.ptr)), (38, .c (.bool))] (codeAt B38 [1, 1, 1, 0, 0, 1, 1, 1]) fun x h Q => N38_j1 x.1 x.2.1 x.2.2.1 x.2.2.2.1 x.2.2.2.2.1 x.2.2.2.2.2 h (fun h' => Q .normal (Sg.env [] ()) h') (fun o0 h' => Q .ret (Sg.env [(10, .c (.slice))] o0) h')
theorem N38_j1_ok : Sound Tryz.prog Tryz.f38.ntmps N38_j1_t (codeAt B38 [1, 1, 1, 0, 0, 1, 1, 1]) := by
 refine piece_sound (fun e => match e with | .normal => [] | .ret => [10] | _ => []) ?_
 intro x h Q hb
 refine den_sound hE hm _ (.two (.two (.ord [0, 1, 2, 3, 4, 5, 6, 7, 8]) .leaf) .leaf) _ _ _ (⟨⟨trivial, annOk_leaf⟩, annOk_leaf⟩) ?_
 refine cast ?_ hb
 kernel_rfl
def N38_j0 (x0 : Option Addr) (x1 x2 : Int) (x3 : Sl) (x11 : Option Addr) (x21 : Bool) (h : Hp) (Kn : Hp → Prop) (Kr : Sl → Hp → Prop) : Prop :=
 bif x21 then
 C57 x3 h fun s0 h0 =>
 nn x11 fun a0 =>
 st h0 (a0.add 8) (.int .u32 x1) fun h1 =>
 nn x11 fun a1 =>
 st h1 (a1.add 9) (.slice s0.p s0.n s0.c) fun h2 =>
 Kr ⟨none, 0, 0⟩ h2
 else
 peq h x11 none fun b0 =>
 bif (!b0) then
 nn x0 fun a2 =>
 xI .i64 (cell h (a2.add 8)) fun n0 =>
 nn x11 fun a3 =>
 xI .i64 (cell h (a3.add 6)) fun n1 =>
 N38_j1 x0 x1 x2 x3 x11 (decide (n0 < n1)) h
 (fun h3 =>
 Kn h3)
 (fun s1 h4 =>
 Kr s1 h4)
 else
 N38_j1 x0 x1 x2 x3 x11 false h
 (fun h5 =>
 Kn h5)
 (fun s2 h6 =>
 Kr s2 h6)
noncomputable def N38_j0_t : Xf := pieceT [(0, .c (.ptr)), (1, .c (.int .u32)), (2, .c (.int .u32)), (3, .c (.slice)), (11, .c (.ptr)), (21, .c (.bool))] (codeAt B38 [1, 1, 1, 0, 0, 1]) fun x h Q => N38_j0 x.1 x.2.1 x.2.2.1 x.2.2.2.1 x.2.2.2.2.1 x.2.2.2.2.2 h (fun h' => Q .normal (Sg.env [] ()) h') (fun o0 h' => Q .ret (Sg.env [(10, .c (.slice))] o0) h')
theorem N38_j0_ok : Sound Tryz.prog Tryz.f38.ntmps N38_j0_t (codeAt B38 [1, 1, 1, 0, 0, 1]) := by
 refine piece_sound (fun e => match e with | .normal => [] | .ret => [10] | _ => []) ?_
 intro x h Q hb
 refine den_sound hE hm _ (.two .leaf (.two (.ord [0, 1, 2, 3, 4, 5, 6, 7, 8, 9, 10, 11, 12, 13]) (.xf N38_j1_t))) _ _ _ (⟨annOk_leaf, ⟨trivial, N38_j1_ok⟩⟩) ?_
 refine cast ?_ hb
 kernel_rfl
def N38_j2 (x0 : Option Addr) (x1 x2 : Int) (x3 : Sl) (h : Hp) (Kr : Sl → Hp → Prop) : Prop :=
 nn x0 fun a0 =>
 xM (cell h (a0.add 7)) fun m0 =>
 mdK Tryz.prog 136 (.map m0) (.int .u32 x2) h fun h0 =>
 C58 x0 h0 fun b0 h1 =>
 bif (!b0) then
 Kr ⟨none, 0, 0⟩ h1
 else
 C59 x0 10 h1 fun n0 h2 =>
 C57 x3 h2 fun s0 h3 =>
 nw h3 (.cells ⟨[.int .u8 0, .int .u8 0, .int .u8 0, .int .u8 0, .int .u8 0, .int .u8 0, .int .i64 n0, .int .i64 1, .int .u32 x1, .slice s0.p s0.n s0.c]⟩ 146) fun b1 h4 =>
 nn x0 fun a1 =>
 xM (cell h4 (a1.add 7)) fun m1 =>
 muK Tryz.prog 136 (.map m1) (.int .u32 x2) (.pointer (some (bk b1))) h4 fun h5 =>
 C60 x0 x2 (some (bk b1)) h5 fun n1 n2 n3 n4 n5 n6 n7 s1 h6 =>
 nw h6 (.cells ⟨[.int .u8 n1, .int .u8 n2, .int .u8 n3, .int .u8 n4, .int .u8 n5, .int .u8 n6, .int .i64 n7, .slice s1.p s1.n s1.c]⟩ 99) fun b2 h7 =>
 Kr ⟨some (bk b2), 1, 1⟩ h7
noncomputable def N38_j2_t : Xf := pieceT [(0, .c (.ptr)), (1, .c (.int .u32)), (2, .c (.int .u32)), (3, .c (.slice))] (codeAt B38 [1, 1, 1, 1]) fun x h Q => N38_j2 x.1 x.2.1 x.2.2.1 x.2.2.2 h (fun o0 h' => Q .ret (Sg.env [(10, .c (.slice))] o0) h')
theorem N38_j2_ok : Sound Tryz.prog Tryz.f38.ntmps N38_j2_t (codeAt B38 [1, 1, 1, 1]) := by
 refine piece_sound (fun e => match e with | .ret => [10] | _ => []) ?_
 intro x h Q hb
 refine den_sound hE hm _ .leaf _ _ _ (annOk_leaf) ?_
 refine cast ?_ hb
 kernel_rfl
def N38 (x0 : Option Addr) (x1 x2 : Int) (x3 : Sl) (x4 : Int) (h : Hp) (K : Sl → Hp → Prop) : Prop :=
 C55 x0 x4 h fun h0 =>
 nn x0 fun a0 =>
 xM (cell h0 (a0.add 7)) fun m0 =>
 xMap h0 m0 fun es0 _ =>
 keyAt (.int .u32) (.int .u32 x2) es0 fun r0 =>
 xP (some (rval r0 (.pointer none))) fun p0 =>
 peq h0 p0 none fun b0 =>
 bif (!b0) then
 C56 p0 h0 fun b1 h1 =>
 N38_j0 x0 x1 x2 x3 p0 (!b1) h1
 (fun h2 =>
 N38_j2 x0 x1 x2 x3 h2
 (fun s0 h3 =>
 K s0 h3))
 (fun s1 h4 =>
 K s1 h4)
 else
 N38_j0 x0 x1 x2 x3 p0 false h0
 (fun h5 =>
 N38_j2 x0 x1 x2 x3 h5
 (fun s2 h6 =>
 K s2 h6))
 (fun s3 h7 =>
 K s3 h7)
theorem S38 {x0 : Option Addr} {x1 x2 : Int} {x3 : Sl} {x4 : Int} {h : Hp} {K : Sl → Hp → Prop} (hn : N38 x0 x1 x2 x3 x4 h K) : C38 x0 x1 x2 x3 x4 h K := by
 refine calls_of_D Tryz.func38 (c := B38) rfl (by kernel_rfl) ?_
 refine den_sound hE hm _ (.two .leaf (.two .leaf (.two .leaf (.two (.one (.two .leaf (.xf N38_j0_t))) (.xf N38_j2_t))))) _ _ _ (⟨annOk_leaf, ⟨annOk_leaf, ⟨annOk_leaf, ⟨⟨annOk_leaf, N38_j0_ok⟩, N38_j2_ok⟩⟩⟩⟩) ?_
 refine cast ?_ hn
 kernel_rfl
end Go.Proofs.YtbbnpmikjdgdpaaGreat
