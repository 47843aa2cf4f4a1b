/-
 NeighWaits: what is sent is as it may be (right), walked.
-/
import Derived.Test.YtkfccpabigikkaaPg
import Derived.Test.YtkfccpabigikkaaPd
set_option linter.unusedSimpArgs false
set_option linter.unusedVariables false
set_option maxRecDepth 4000
namespace Go.Proofs.Ytkfccpabigikkaa
open Go Go.Hw
inductive Right (M : List Td) (now ip : Int) : List Snd → List Wt → List Wt → Prop
 | nil (W : List Wt) : Right M now ip [] W W
 | tell {x : Snd} {xs : List Snd} {W W' : List Wt} {s d : M6} {si di : Int} (hk : x.kind = 2054) (hx : x.data = arpL 2 s si d di) (hs : s.ok) (hd : d.ok) (hi : 0 ≤ si ∧ si < 4294967296) (hdi : 0 ≤ di ∧ di < 4294967296) (hr : Right M now ip xs W W') : Right M now ip (x :: xs) W W'
 | ask {x : Snd} {xs : List Snd} {W W' : List Wt} {s d : M6} {si di : Int} {i : Nat} {w : Wt} (hk : x.kind = 2054) (hx : x.data = arpL 1 s si d di) (hs : s.ok) (hd : d.ok) (hi : 0 ≤ si ∧ si < 4294967296) (hdi : 0 ≤ di ∧ di < 4294967296) (hw : firstW di W i w) (ha : 0 ≤ w.asked ∧ w.asked < 3)
   (hr : Right M now ip xs (W.set i { w with asked := w.asked + 1 }) W') : Right M now ip (x :: xs) W W'
 | now {x : Snd} {xs : List Snd} {W W' : List Wt} {n : Nat} (hk : x.kind = 2048) (hx : x.data = be n 8) (hn : (n : Int) = now) (hl : n < 4611686018427387904) (hm : (ip, x.dst) ∈ M) (hr : Right M now ip xs W W') : Right M now ip (x :: xs) W W'
 | wait {x : Snd} {xs : List Snd} {W W' : List Wt} {n : Nat} {i : Nat} {w : Wt} (hk : x.kind = 2048) (hx : x.data = be n 8) (hn : (n : Int) ≠ now) (hl : n < 4611686018427387904) (hw : W[i]? = some w) (hwn : w.n = n) (hone : ∀ (j : Nat) (w' : Wt), W[j]? = some w' → w'.n = n → j = i) (hm : (w.ip, x.dst) ∈ M)
   (hr : Right M now ip xs (W.eraseIdx i) W') : Right M now ip (x :: xs) W W'
section
variable {L : List Asn} {h : Hp} {b : Nat} {W : List Wt} {M : List Td}
theorem s_good {l : Sl} {X : List (Snd × Sl)} {x : Snd × Sl} {i : Nat} {now ip to : Int} {K : Bool → Hp → Prop} (hs : Sat (L ++ [seenA b W M]) h) (HX : RdE h l sndC X) (hx : X[i]? = some x) (hl : M.length ≤ 2000000) (hm : (to, x.1.dst) ∈ M) (hK : K true h) : N15_l3 (some (bk b)) l now ip (i : Int) to false 0 h K := by
 unfold N15_l3
 obtain ⟨s, m, g⟩ := seen_open hs
 have mn := g.elemN 2 rfl tC_w (by decide)
 refine loopP_inv (fun (z : Bool × Int) hc => hc = h ∧ ∃ k : Nat, z.2 = k ∧ k ≤ M.length ∧ (z.1 = true ∨ (to, x.1.dst) ∈ M.drop k)) (fun z _ => M.length - z.2.toNat) ?_ ⟨rfl, 0, rfl, Nat.zero_le _, .inr hm⟩
 rintro ⟨good, z⟩ hc ⟨rfl, k, hz, hk, hg⟩
 simp only at hz hg
 subst hz
 unfold N15_l3_B N15_l3_b
 dsimp only
 rw [nn_some', add_bk]
 refine g.lL 0 rfl rfl ?_
 by_cases hlt : k < M.length
 ·rw [show decide ((k : Int) < ((m.n : Nat) : Int)) = true from decide_eq_true (by omega), cond_true]
  have hy : M[k]? = some M[k] := List.getElem?_eq_getElem hlt
  have hdr : M.drop k = M[k] :: M.drop (k + 1) := List.drop_eq_getElem_cons hlt
  generalize M[k] = t at hy hdr
  have nx : IntKind.wrap .i64 ((k : Int) + 1) = ((k + 1 : Nat) : Int) := nat_succ64 (by omega)
  have step : ∀ {g' : Bool}, (g' = true ∨ (to, x.1.dst) ∈ M.drop (k + 1)) → (hc = hc ∧ ∃ k' : Nat, ((k + 1 : Nat) : Int) = k' ∧ k' ≤ M.length ∧ (g' = true ∨ (to, x.1.dst) ∈ M.drop k')) ∧ M.length - (((k + 1 : Nat) : Int)).toNat < M.length - ((k : Nat) : Int).toNat := fun q => ⟨⟨rfl, k + 1, rfl, hlt, q⟩, by omega⟩
  cases good with
  | true =>
   rw [cond_true, nx]
   exact step (.inl rfl)
  | false =>
   rw [cond_false, nn_some', add_bk]
   rw [hdr] at hg
   refine g.lL 0 rfl rfl ?_
   refine g.elem 2 rfl tC_w (by decide) hy rfl ?_
   intro r hr rd
   rw [add_bk, Int.toNat_natCast]
   refine xI_of (rd (k := 0) rfl) ?_
   by_cases ht : t.1 = to
   ·rw [show (t.1 == to) = true by simp [ht], cond_true, nn_some', add_bk]
    refine g.lL 0 rfl rfl ?_
    refine g.elem 2 rfl tC_w (by decide) hy rfl ?_
    intro r2 hr2 rd2
    rw [add_bk, add_mk, add_mk, add_mk, add_mk, add_mk, add_mk, Int.toNat_natCast]
    refine xI_of (rd2 rfl) ?_
    refine xI_of (rd2 rfl) ?_
    refine xI_of (rd2 rfl) ?_
    refine xI_of (rd2 rfl) ?_
    refine xI_of (rd2 rfl) ?_
    refine xI_of (rd2 rfl) ?_
    refine HX.elem sndC_w (by decide) hx rfl ?_
    intro a ha ra0 ra
    refine xI_of (ra0 rfl) ?_
    refine xI_of (ra rfl) ?_
    refine xI_of (ra rfl) ?_
    refine xI_of (ra rfl) ?_
    refine xI_of (ra rfl) ?_
    refine xI_of (ra rfl) ?_
    rw [nx]
    refine step ?_
    by_cases hmac : t.2 = x.1.dst
    ·left
     rw [← hmac]
     simp
    ·right
     simp only [Bool.false_eq_true, false_or] at hg
     rcases List.mem_cons.1 hg with q | q
     ·exact absurd (congrArg Prod.snd q).symm hmac
     ·exact q
   ·rw [show (t.1 == to) = false by simp [ht], cond_false, nx]
    refine step (.inr ?_)
    simp only [Bool.false_eq_true, false_or] at hg
    rcases List.mem_cons.1 hg with q | q
    ·exact absurd (congrArg Prod.fst q).symm ht
    ·exact q
 ·rw [show decide ((k : Int) < ((m.n : Nat) : Int)) = false from decide_eq_false (by omega), cond_false]
  rw [List.drop_of_length_le (by omega)] at hg
  rcases hg with rfl | q
  ·exact hK
  ·cases q
theorem s_find {l : Sl} {i j : Nat} {w : Wt} {now ip : Int} {n : Nat} {K : Int → Hp → Prop} (hs : Sat (L ++ [seenA b W M]) h) (hl : W.length ≤ 2000000) (hn : n < 4611686018427387904) (hw : W[j]? = some w) (hwn : w.n = n) (hone : ∀ (k : Nat) (w' : Wt), W[k]? = some w' → w'.n = n → k = j) (hK : K (j : Int) h) : N15_l1 (some (bk b)) l now ip (i : Int) ((n : Nat) : Int) (-1) 0 h K := by
 unfold N15_l1
 obtain ⟨s, m, g⟩ := seen_open hs
 have sn := g.elemN 1 rfl wC_w (by decide)
 have hjl := lt_of_get hw
 refine loopP_inv (fun (z : Int × Int) hc => hc = h ∧ ∃ k : Nat, z.2 = k ∧ k ≤ W.length ∧ ((j < k ∧ z.1 = j) ∨ k ≤ j)) (fun z _ => W.length - z.2.toNat) ?_ ⟨rfl, 0, rfl, Nat.zero_le _, .inr (Nat.zero_le _)⟩
 rintro ⟨at_, z⟩ hc ⟨rfl, k, hz, hk, hg⟩
 simp only at hz hg
 subst hz
 unfold N15_l1_B N15_l1_b
 dsimp only
 rw [nn_some']
 refine g.lL 0 (k := 0) rfl rfl ?_
 by_cases hlt : k < W.length
 ·rw [show decide ((k : Int) < ((s.n : Nat) : Int)) = true from decide_eq_true (by omega), cond_true, nn_some']
  refine g.lL 0 (k := 0) rfl rfl ?_
  have hy : W[k]? = some W[k] := List.getElem?_eq_getElem hlt
  generalize W[k] = y at hy
  refine g.elem 1 rfl wC_w (by decide) hy rfl ?_
  intro r hr rd
  rw [add_bk, Int.toNat_natCast]
  refine xI_of (rd (k := 0) rfl) ?_
  rw [wi64i (by omega) (by omega), nat_succ64 (by omega)]
  by_cases he : y.n = n
  ·rw [show (y.n == ((n : Nat) : Int)) = true by simp [he], cond_true]
   have := hone k y hy he
   subst this
   exact ⟨⟨rfl, k + 1, rfl, hlt, .inl ⟨by omega, rfl⟩⟩, by omega⟩
  ·rw [show (y.n == ((n : Nat) : Int)) = false by simp [he], cond_false]
   refine ⟨⟨rfl, k + 1, rfl, hlt, ?_⟩, by omega⟩
   rcases hg with q | q
   ·exact .inl ⟨by omega, q.2⟩
   ·right
    have : k ≠ j := by rintro rfl; rw [hw] at hy; cases hy; exact he hwn
    omega
 ·rw [show decide ((k : Int) < ((s.n : Nat) : Int)) = false from decide_eq_false (by omega), cond_false]
  rcases hg with ⟨_, rfl⟩ | q
  ·exact hK
  ·omega
theorem getV_be (n : Nat) (h : n < 4611686018427387904) : getV (be n 8) 0 8 = n := by
 unfold getV
 rw [if_neg (by omega), if_neg (by rw [be_len]; omega)]
 show nat256 ((be n 8).take 8) = n
 rw [List.take_of_length_le (by rw [be_len]; omega), nat_be _ _ (by omega)]
theorem c_right {l : Sl} {o : List Snd} {W' : List Wt} {now ip : Int} {K : Bool → Hp → Prop} (hs : Sat (L ++ [seenA b W M, sndsA l o]) h) (hR : Right M now ip o W W') (hl : W.length ≤ 2000000) (hM : M.length ≤ 2000000) (ho : o.length ≤ 1000)
  (hK : ∀ h', Sat (L ++ [seenA b W' M]) h' → K true h') : C15 (some (bk b)) l now ip h K := by
 apply S15; unfold N15 N15_l0
 obtain ⟨X, g, hX⟩ := snds_open (L := L ++ [seenA b W M]) (Sat.csa hs (A := [_]))
 have hXl : X.length = o.length := by rw [← hX, List.length_map]
 have ln := g.elemN 0 rfl sndC_w (by decide)
 have g0 : Sat (L ++ [Hw.own 59 8 l (X.flatMap sndC), star (X.map fun x => Hw.own 5 1 x.2 (bc x.1.data)), seenA b W M]) h := (Sat.asc g).sel [1, 2, 0] (by decide) rfl
 refine loopP_inv (fun (z : Int) hc => ∃ (i : Nat) (W1 : List Wt), z = i ∧ i ≤ X.length ∧ Right M now ip (o.drop i) W1 W' ∧ W1.length ≤ 2000000 ∧ Sat (L ++ [Hw.own 59 8 l (X.flatMap sndC), star (X.map fun x => Hw.own 5 1 x.2 (bc x.1.data)), seenA b W1 M]) hc) (fun z _ => X.length - z.toNat) ?_ ⟨0, W, rfl, Nat.zero_le _, hR, hl, g0⟩
 rintro z hc ⟨i, W1, rfl, hi, hR, hl, g1⟩
 unfold N15_l0_B N15_l0_b
 dsimp only
 by_cases hlt : i < X.length
 ·rw [show decide ((i : Int) < ((l.n : Nat) : Int)) = true from decide_eq_true (by omega), cond_true]
  have hx : X[i]? = some X[i] := List.getElem?_eq_getElem hlt
  have hlo : i < o.length := by omega
  have hoi : o.drop i = X[i].1 :: o.drop (i + 1) := by
   rw [List.drop_eq_getElem_cons hlo]
   congr 1
   have := congrArg (fun q => q[i]?) hX
   simp only [List.getElem?_map, hx, Option.map_some, List.getElem?_eq_getElem hlo, Option.some.injEq] at this
   exact this.symm
  have hxm := List.getElem_mem hlt
  rw [hoi] at hR
  generalize X[i] = x at hx hR hxm
  have rdX : ∀ {h' : Hp} {W2 : List Wt}, Sat (L ++ [Hw.own 59 8 l (X.flatMap sndC), star (X.map fun x => Hw.own 5 1 x.2 (bc x.1.data)), seenA b W2 M]) h' → RdB h' x.2 x.1.data ∧ RdE h' l sndC X := by
   intro h' W2 g'
   have g2 : Sat ((L ++ [Hw.own 59 8 l (X.flatMap sndC), seenA b W2 M]) ++ [star (X.map fun x => Hw.own 5 1 x.2 (bc x.1.data))]) h' := g'.part [0, 2, 1] (by decide) rfl
   obtain ⟨L', g3⟩ := star_get g2 hxm
   exact ⟨(g3.own 0 rfl).rdb, (g'.own 0 rfl).rde sndC_w (by decide)⟩
  have nx : IntKind.wrap .i64 ((i : Int) + 1) = ((i + 1 : Nat) : Int) := nat_succ64 (by omega)
  have next : ∀ {h' : Hp} {W2 : List Wt}, Right M now ip (o.drop (i + 1)) W2 W' → W2.length ≤ 2000000 → Sat (L ++ [Hw.own 59 8 l (X.flatMap sndC), star (X.map fun x => Hw.own 5 1 x.2 (bc x.1.data)), seenA b W2 M]) h' →
    (∃ (k : Nat) (W1 : List Wt), ((i + 1 : Nat) : Int) = k ∧ k ≤ X.length ∧ Right M now ip (o.drop k) W1 W' ∧ W1.length ≤ 2000000 ∧ Sat (L ++ [Hw.own 59 8 l (X.flatMap sndC), star (X.map fun x => Hw.own 5 1 x.2 (bc x.1.data)), seenA b W1 M]) h') ∧ X.length - (((i + 1 : Nat) : Int)).toNat < X.length - ((i : Nat) : Int).toNat :=
   fun q1 q2 q3 => ⟨⟨i + 1, _, rfl, hlt, q1, q2, q3⟩, by omega⟩
  have cut : ∀ {h' : Hp} {W2 : List Wt} {A : List Asn}, Sat (L ++ ([Hw.own 59 8 l (X.flatMap sndC), star (X.map fun x => Hw.own 5 1 x.2 (bc x.1.data)), seenA b W2 M] ++ A)) h' → Sat ((L ++ [Hw.own 59 8 l (X.flatMap sndC), star (X.map fun x => Hw.own 5 1 x.2 (bc x.1.data))]) ++ [seenA b W2 M]) h' := fun g' => Sat.csa (Sat.csa g').left (A := [_, _])
  refine g1.elem 0 rfl sndC_w (by decide) hx rfl ?_
  intro r hr rd
  rw [add_bk, add_mk, Int.toNat_natCast]
  refine xI_of (rd rfl) ?_
  cases hR with
  | tell hk hd hs1 hs2 hi1 hi2 hr2 =>
   rename_i s6 d6 si di
   rw [hk, show ((2054 : Int) == 2054) = true from rfl, cond_true]
   refine g1.elem 0 rfl sndC_w (by decide) hx rfl ?_
   intro r2 hr2' rd2
   rw [add_bk, add_mk]
   refine xL_of (s := x.2) (rd2 rfl) ?_
   have rx := (rdX g1).1
   rw [hd] at rx
   refine c_dec rx (.inr rfl) hs1 hs2 hi1 hi2 fun h2 he2 => ?_
   refine (g1.ext he2).nw ?_
   intro z h3 g2 _
   have hs := g2
   simp only [List.cons_append, List.nil_append] at hs
   simp only [add_bk]
   refine Sat.st hs 3 rfl (by simp) rfl fun h4 hs => ?_
   simp only [List.set_cons_zero, List.set_cons_succ] at hs
   refine Sat.st hs 3 rfl (by simp) rfl fun h4 hs => ?_
   simp only [List.set_cons_zero, List.set_cons_succ] at hs
   refine Sat.st hs 3 rfl (by simp) rfl fun h4 hs => ?_
   simp only [List.set_cons_zero, List.set_cons_succ] at hs
   refine Sat.st hs 3 rfl (by simp) rfl fun h4 hs => ?_
   simp only [List.set_cons_zero, List.set_cons_succ] at hs
   refine Sat.st hs 3 rfl (by simp) rfl fun h4 hs => ?_
   simp only [List.set_cons_zero, List.set_cons_succ] at hs
   refine Sat.st hs 3 rfl (by simp) rfl fun h4 hs => ?_
   simp only [List.set_cons_zero, List.set_cons_succ] at hs
   refine Sat.st hs 3 rfl (by simp) rfl fun h4 hs => ?_
   simp only [List.set_cons_zero, List.set_cons_succ] at hs
   refine Sat.st hs 3 rfl (by simp) rfl fun h4 hs => ?_
   simp only [List.set_cons_zero, List.set_cons_succ] at hs
   refine Sat.st hs 3 rfl (by simp) rfl fun h4 hs => ?_
   simp only [List.set_cons_zero, List.set_cons_succ] at hs
   refine Sat.st hs 3 rfl (by simp) rfl fun h4 hs => ?_
   simp only [List.set_cons_zero, List.set_cons_succ] at hs
   refine Sat.st hs 3 rfl (by simp) rfl fun h4 hs => ?_
   simp only [List.set_cons_zero, List.set_cons_succ] at hs
   refine Sat.st hs 3 rfl (by simp) rfl fun h4 hs => ?_
   simp only [List.set_cons_zero, List.set_cons_succ] at hs
   refine Sat.st hs 3 rfl (by simp) rfl fun h4 hs => ?_
   simp only [List.set_cons_zero, List.set_cons_succ] at hs
   refine Sat.st hs 3 rfl (by simp) rfl fun h4 hs => ?_
   simp only [List.set_cons_zero, List.set_cons_succ] at hs
   refine Sat.st hs 3 rfl (by simp) rfl fun h4 hs => ?_
   simp only [List.set_cons_zero, List.set_cons_succ] at hs
   have g4 : Sat (L ++ ([Hw.own 59 8 l (X.flatMap sndC), star (X.map fun x => Hw.own 5 1 x.2 (bc x.1.data)), seenA b W1 M] ++ [row z 42 (arpC 2 s6 si d6 di)])) h4 := hs
   rw [show ((0 : Int) != 0) = false from rfl, cond_false]
   refine Sat.lI g4 3 rfl rfl ?_
   have fin : xI .i64 (cell h4 ⟨z, 0, none⟩) fun n19 => n19 = 2 := Sat.lI g4 3 rfl rfl rfl
   refine s_at (cut g4) hl (fun _ => ?_) (fun k w _ => ?_)
   ·refine Sat.lI g4 3 (k := 0) rfl rfl ?_
    rw [show ((2 : Int) == 1) = false from rfl, cond_false, nx]
    exact next hr2 hl (Sat.csa g4).left
   ·refine Sat.lI g4 3 (k := 0) rfl rfl ?_
    rw [show ((2 : Int) == 1) = false from rfl, cond_false, nx]
    exact next hr2 hl (Sat.csa g4).left
  | ask hk hd hs1 hs2 hi1 hi2 hw ha hr2 =>
   rename_i s6 d6 si di k0 w0
   rw [hk, show ((2054 : Int) == 2054) = true from rfl, cond_true]
   refine g1.elem 0 rfl sndC_w (by decide) hx rfl ?_
   intro r2 hr2' rd2
   rw [add_bk, add_mk]
   refine xL_of (s := x.2) (rd2 rfl) ?_
   have rx := (rdX g1).1
   rw [hd] at rx
   refine c_dec rx (.inl rfl) hs1 hs2 hi1 hi2 fun h2 he2 => ?_
   refine (g1.ext he2).nw ?_
   intro z h3 g2 _
   have hs := g2
   simp only [List.cons_append, List.nil_append] at hs
   simp only [add_bk]
   refine Sat.st hs 3 rfl (by simp) rfl fun h4 hs => ?_
   simp only [List.set_cons_zero, List.set_cons_succ] at hs
   refine Sat.st hs 3 rfl (by simp) rfl fun h4 hs => ?_
   simp only [List.set_cons_zero, List.set_cons_succ] at hs
   refine Sat.st hs 3 rfl (by simp) rfl fun h4 hs => ?_
   simp only [List.set_cons_zero, List.set_cons_succ] at hs
   refine Sat.st hs 3 rfl (by simp) rfl fun h4 hs => ?_
   simp only [List.set_cons_zero, List.set_cons_succ] at hs
   refine Sat.st hs 3 rfl (by simp) rfl fun h4 hs => ?_
   simp only [List.set_cons_zero, List.set_cons_succ] at hs
   refine Sat.st hs 3 rfl (by simp) rfl fun h4 hs => ?_
   simp only [List.set_cons_zero, List.set_cons_succ] at hs
   refine Sat.st hs 3 rfl (by simp) rfl fun h4 hs => ?_
   simp only [List.set_cons_zero, List.set_cons_succ] at hs
   refine Sat.st hs 3 rfl (by simp) rfl fun h4 hs => ?_
   simp only [List.set_cons_zero, List.set_cons_succ] at hs
   refine Sat.st hs 3 rfl (by simp) rfl fun h4 hs => ?_
   simp only [List.set_cons_zero, List.set_cons_succ] at hs
   refine Sat.st hs 3 rfl (by simp) rfl fun h4 hs => ?_
   simp only [List.set_cons_zero, List.set_cons_succ] at hs
   refine Sat.st hs 3 rfl (by simp) rfl fun h4 hs => ?_
   simp only [List.set_cons_zero, List.set_cons_succ] at hs
   refine Sat.st hs 3 rfl (by simp) rfl fun h4 hs => ?_
   simp only [List.set_cons_zero, List.set_cons_succ] at hs
   refine Sat.st hs 3 rfl (by simp) rfl fun h4 hs => ?_
   simp only [List.set_cons_zero, List.set_cons_succ] at hs
   refine Sat.st hs 3 rfl (by simp) rfl fun h4 hs => ?_
   simp only [List.set_cons_zero, List.set_cons_succ] at hs
   refine Sat.st hs 3 rfl (by simp) rfl fun h4 hs => ?_
   simp only [List.set_cons_zero, List.set_cons_succ] at hs
   have g4 : Sat (L ++ ([Hw.own 59 8 l (X.flatMap sndC), star (X.map fun x => Hw.own 5 1 x.2 (bc x.1.data)), seenA b W1 M] ++ [row z 42 (arpC 1 s6 si d6 di)])) h4 := hs
   rw [show ((0 : Int) != 0) = false from rfl, cond_false]
   refine Sat.lI g4 3 rfl rfl ?_
   obtain ⟨q1, q2, q3⟩ := hw
   have hkl := lt_of_get q1
   refine s_at (cut g4) hl (fun hne => absurd q2 (hne w0 (List.mem_of_getElem? q1))) (fun k w hkw => ?_)
   obtain ⟨p1, p2, p3⟩ := hkw
   have hkk : k = k0 := by
    rcases Nat.lt_trichotomy k k0 with hlt' | h0 | hlt'
    ·refine absurd p2 (q3 w (List.mem_of_getElem? (i := k) ?_))
     rw [List.getElem?_take_of_lt hlt']; exact p1
    ·exact h0
    ·refine absurd q2 (p3 w0 (List.mem_of_getElem? (i := k0) ?_))
     rw [List.getElem?_take_of_lt hlt']; exact q1
   subst hkk
   rw [q1] at p1; cases p1
   refine Sat.lI g4 3 (k := 0) rfl rfl ?_
   rw [show ((1 : Int) == 1) = true from rfl, cond_true, show decide ((k : Int) < 0) = false from decide_eq_false (by omega), cond_false]
   obtain ⟨s, m, g5⟩ := seen_open (cut g4)
   simp only [nn_some']
   refine g5.lL 0 (k := 0) rfl rfl ?_
   refine g5.elem 1 rfl wC_w (by decide) q1 rfl ?_
   intro r3 hr3 rd3
   simp only [add_bk, Int.toNat_natCast]
   simp only [add_mk]
   refine xI_of (rd3 rfl) ?_
   rw [show decide (w0.asked ≥ 3) = false from decide_eq_false (by omega), cond_false]
   refine g5.lL 0 (k := 0) rfl rfl ?_
   refine g5.elem 1 rfl wC_w (by decide) q1 rfl ?_
   intro r4 hr4 rd4
   simp only [add_bk]
   simp only [add_mk]
   refine xI_of (rd4 rfl) ?_
   refine g5.elem 1 rfl wC_w (by decide) q1 rfl ?_
   intro r5 hr5 rd5
   simp only [add_bk]
   simp only [add_mk]
   refine g5.stE 1 rfl wC_w q1 (k := 2) (x' := { w0 with asked := w0.asked + 1 }) (by decide) (by rw [wi64i (by omega) (by omega)]; rfl) rfl hr5 ?_
   intro h5 g6
   rw [nx]
   refine next hr2 (by rw [List.length_set]; exact hl) ?_
   exact Sat.asc (seen_shut (W := W1.set k { w0 with asked := w0.asked + 1 }) g6)
  | now hk hd hn hln hm hr2 =>
   rename_i n
   rw [hk, show ((2048 : Int) == 2054) = false from rfl, cond_false]
   refine g1.elem 0 rfl sndC_w (by decide) hx rfl ?_
   intro r2 hr2' rd2
   rw [add_bk, add_mk]
   refine xL_of (s := x.2) (rd2 rfl) ?_
   have rx := (rdX g1).1
   rw [hd] at rx
   refine c_Get rx (by rw [be_len]; omega) ?_
   rw [getV_be n hln, wi64i (by omega) (by omega), show (((n : Nat) : Int) != now) = false by simp [hn], cond_false]
   unfold N15_j2
   refine s_good (Sat.csa g1 (A := [_, _])) (rdX g1).2 hx hM hm ?_
   rw [Bool.not_true, cond_false]
   refine g1.elem 0 rfl sndC_w (by decide) hx rfl ?_
   intro r3 hr3 rd3
   rw [add_bk, add_mk]
   refine xI_of (rd3 rfl) ?_
   rw [hk, show ((2048 : Int) != 2048) = false from rfl, cond_false, nx]
   exact next hr2 hl g1
  | wait hk hd hn hln hw hwn hone hm hr2 =>
   rename_i n k w
   rw [hk, show ((2048 : Int) == 2054) = false from rfl, cond_false]
   refine g1.elem 0 rfl sndC_w (by decide) hx rfl ?_
   intro r2 hr2' rd2
   rw [add_bk, add_mk]
   refine xL_of (s := x.2) (rd2 rfl) ?_
   have rx := (rdX g1).1
   rw [hd] at rx
   refine c_Get rx (by rw [be_len]; omega) ?_
   rw [getV_be n hln, wi64i (by omega) (by omega), show (((n : Nat) : Int) != now) = true by simp [hn], cond_true]
   have gc := Sat.csa g1 (A := [_, _])
   refine s_find gc hl hln hw hwn hone ?_
   rw [show decide ((k : Int) < 0) = false from decide_eq_false (by omega), cond_false]
   obtain ⟨s, m, g5⟩ := seen_open gc
   rw [nn_some']
   refine g5.lL 0 (k := 0) rfl rfl ?_
   refine g5.elem 1 rfl wC_w (by decide) hw rfl ?_
   intro r4 hr4 rd4
   rw [add_bk, add_mk, Int.toNat_natCast]
   refine xI_of (rd4 rfl) ?_
   refine s_without gc hl (lt_of_get hw) fun h3 g6 => ?_
   have g6 : Sat (L ++ [Hw.own 59 8 l (X.flatMap sndC), star (X.map fun x => Hw.own 5 1 x.2 (bc x.1.data)), seenA b (W1.eraseIdx k) M]) h3 := Sat.asc g6
   unfold N15_j2
   refine s_good (Sat.csa g6 (A := [_, _])) (rdX g6).2 hx hM hm ?_
   rw [Bool.not_true, cond_false]
   refine g6.elem 0 rfl sndC_w (by decide) hx rfl ?_
   intro r5 hr5 rd5
   rw [add_bk, add_mk]
   refine xI_of (rd5 rfl) ?_
   rw [hk, show ((2048 : Int) != 2048) = false from rfl, cond_false, nx]
   exact next hr2 (by have := List.length_eraseIdx_le W1 k; omega) g6
 ·rw [show decide ((i : Int) < ((l.n : Nat) : Int)) = false from decide_eq_false (by omega), cond_false]
  rw [List.drop_of_length_le (by omega)] at hR
  cases hR
  exact hK _ (g1.sel [2] (by decide) rfl)
end
end Go.Proofs.Ytkfccpabigikkaa

/-
 NeighWaits: the plain law.
-/
set_option linter.unusedSimpArgs false
set_option linter.unusedVariables false
set_option maxRecDepth 4000
namespace Go.Proofs.Ytkfccpabigikkaa
open Go Go.Hw
def wOf (e : NE) : Wt := ⟨(nat256 e.pk : Nat), e.ip, e.tries⟩
def wL (l : List NE) : List Wt := (l.filter fun e => e.tries != 0).map wOf
structure InvW (i : Nat) (l : List NE) (M : List Td) : Prop where
 num : ∀ e ∈ l, e.tries ≠ 0 → e.pk = be (nat256 e.pk) 8 ∧ nat256 e.pk < i
 one : ∀ e ∈ l, ∀ f ∈ l, e.tries ≠ 0 → f.tries ≠ 0 → nat256 e.pk = nat256 f.pk → e.ip = f.ip
 kn : ∀ e ∈ l, e.tries = 0 → isHost e.ip = true ∧ (e.ip, e.mac) ∈ M
structure GoodW (l : List NE) (W : List Wt) : Prop where
 ds : W.Pairwise fun a b => a.ip ≠ b.ip
 kn : ∀ e ∈ l, e.tries = 0 → ∀ w ∈ W, w.ip ≠ e.ip
 wt : ∀ e ∈ l, e.tries ≠ 0 → wOf e ∈ W
abbrev SrtW (l : List NE) : Prop := l.Pairwise fun a b => a.ip < b.ip
theorem srt_one {l : List NE} (h : SrtW l) {e f : NE} (he : e ∈ l) (hf : f ∈ l) (q : e.ip = f.ip) : e = f := by
 induction l with
 | nil => cases he
 | cons x l ih =>
  obtain ⟨h1, h2⟩ := List.pairwise_cons.1 h
  rcases List.mem_cons.1 he with rfl | he'
  ·rcases List.mem_cons.1 hf with rfl | hf'
   ·rfl
   ·have := h1 f hf'; omega
  ·rcases List.mem_cons.1 hf with rfl | hf'
   ·have := h1 e he'; omega
   ·exact ih h2 he' hf'
theorem wL_mem {l : List NE} {w : Wt} (h : w ∈ wL l) : ∃ e ∈ l, e.tries ≠ 0 ∧ w = wOf e := by
 obtain ⟨e, he, rfl⟩ := List.mem_map.1 h
 obtain ⟨h1, h2⟩ := List.mem_filter.1 he
 exact ⟨e, h1, by simpa using h2, rfl⟩
theorem mem_wL {l : List NE} {e : NE} (h : e ∈ l) (ht : e.tries ≠ 0) : wOf e ∈ wL l := List.mem_map.2 ⟨e, List.mem_filter.2 ⟨h, by simpa using ht⟩, rfl⟩
theorem good_wL {l : List NE} (h : SrtW l) : GoodW l (wL l) where
 ds := by
  unfold wL
  rw [List.pairwise_map]
  exact (h.filter _).imp fun q => by simp only [wOf]; omega
 kn e he ht w hw q := by
  obtain ⟨f, hf, hft, rfl⟩ := wL_mem hw
  have := srt_one h hf he q
  subst this
  exact hft ht
 wt e he ht := mem_wL he ht
theorem wL_len (l : List NE) : (wL l).length ≤ l.length := by
 unfold wL
 rw [List.length_map]
 exact List.length_filter_le _ _
theorem ds_ne {W : List Wt} (h : W.Pairwise fun a b => a.ip ≠ b.ip) {i j : Nat} {a b : Wt} (hi : W[i]? = some a) (hj : W[j]? = some b) (q : a.ip = b.ip) : i = j := by
 obtain ⟨h1, e1⟩ := List.getElem?_eq_some_iff.1 hi
 obtain ⟨h2, e2⟩ := List.getElem?_eq_some_iff.1 hj
 rcases Nat.lt_trichotomy i j with q1 | q1 | q1
 ·exact absurd (by rw [e1, e2]; exact q) (List.pairwise_iff_getElem.1 h i j h1 h2 q1)
 ·exact q1
 ·exact absurd (by rw [e1, e2]; exact q.symm) (List.pairwise_iff_getElem.1 h j i h2 h1 q1)
theorem first_of {W : List Wt} (h : W.Pairwise fun a b => a.ip ≠ b.ip) {k : Nat} {w : Wt} (hk : W[k]? = some w) : firstW w.ip W k w := by
 refine ⟨hk, rfl, fun x hx q => ?_⟩
 obtain ⟨j, hj⟩ := List.mem_iff_getElem?.1 hx
 have hjl := lt_of_get hj
 rw [List.length_take] at hjl
 rw [List.getElem?_take_of_lt (by omega)] at hj
 have := ds_ne h hj hk q
 omega
theorem ds_set {W : List Wt} (h : W.Pairwise fun a b => a.ip ≠ b.ip) {k : Nat} {w w' : Wt} (hk : W[k]? = some w) (q : w'.ip = w.ip) : (W.set k w').Pairwise fun a b => a.ip ≠ b.ip := by
 have e : (W.set k w').map Wt.ip = W.map Wt.ip := by
  apply List.ext_getElem?
  intro j
  rw [List.getElem?_map, List.getElem?_map, List.getElem?_set]
  split
  ·rename_i hj
   subst hj
   have := lt_of_get hk
   rw [if_pos this, hk]; simp [q]
  ·rfl
 have h2 : (W.map Wt.ip).Pairwise fun a b => a ≠ b := List.pairwise_map.2 h
 rw [← e] at h2
 exact List.pairwise_map.1 h2
theorem mem_set_of {W : List Wt} {k : Nat} {w w' x : Wt} (hk : W[k]? = some w) (hx : x ∈ W) (hn : x.ip ≠ w.ip) : x ∈ W.set k w' := by
 obtain ⟨j, hj⟩ := List.mem_iff_getElem?.1 hx
 refine List.mem_iff_getElem?.2 ⟨j, ?_⟩
 rw [List.getElem?_set]
 split
 ·rename_i e; subst e; rw [hk] at hj; cases hj; exact absurd rfl hn
 ·exact hj
theorem set_mem {W : List Wt} {k : Nat} {w w' x : Wt} (hk : W[k]? = some w) (q : w'.ip = w.ip) (hx : x ∈ W.set k w') : ∃ y ∈ W, y.ip = x.ip := by
 obtain ⟨j, hj⟩ := List.mem_iff_getElem?.1 hx
 rw [List.getElem?_set] at hj
 split at hj
 ·rename_i e; subst e
  split at hj
  ·cases hj; exact ⟨w, List.mem_of_getElem? hk, q.symm⟩
  ·cases hj
 ·exact ⟨x, List.mem_of_getElem? hj, rfl⟩
theorem GoodW.sub {l l' : List NE} {W : List Wt} (h : GoodW l W) (hs : ∀ e ∈ l', e ∈ l) : GoodW l' W := ⟨h.ds, fun e he => h.kn e (hs e he), fun e he => h.wt e (hs e he)⟩
theorem InvW.sub {i : Nat} {l l' : List NE} {M : List Td} (h : InvW i l M) (hs : ∀ e ∈ l', e ∈ l) : InvW i l' M := ⟨fun e he => h.num e (hs e he), fun e he f hf => h.one e (hs e he) f (hs f hf), fun e he => h.kn e (hs e he)⟩
theorem InvW.up {i : Nat} {l : List NE} {M : List Td} (h : InvW i l M) : InvW (i + 1) l M := ⟨fun e he ht => ⟨(h.num e he ht).1, by have := (h.num e he ht).2; omega⟩, h.one, h.kn⟩
theorem nat_be8 {i : Nat} (h : i < 4611686018427387904) : nat256 (be i 8) = i := nat_be i 8 (by omega)
/-! ### Ask -/
inductive AskW (M : List Td) (i : Nat) (ip : Int) (W : List Wt) : List Snd → List NE → Prop
 | same {k : Nat} {w : Wt} {l : List NE} (hw : firstW ip W k w) (hg : GoodW l (W.set k { w with n := i })) : AskW M i ip W [] l
 | none {l : List NE} (hw : ∀ w ∈ W, w.ip ≠ ip) (hg : GoodW l W) : AskW M i ip W [] l
 | now {x : Snd} {l : List NE} (hx : x.kind = 2048) (hr : Right M i ip [x] W W) (hg : GoodW l W) : AskW M i ip W [x] l
 | new {x : Snd} {l : List NE} {W2 : List Wt} (hx : x.kind = 2054) (hw : ∀ w ∈ W, w.ip ≠ ip) (hr : Right M i ip [x] (W ++ [⟨i, ip, 0⟩]) W2) (hl : W2.length = W.length + 1) (hg : GoodW l W2) : AskW M i ip W [x] l
theorem newC_w {c : Ca} {M : List Td} {i : Nat} {src ip : Int} (ho : c.ok) (hv : InvW i c.l M) (hi : i < 4611686018427387904) (hsrc : 0 ≤ src ∧ src < 4294967296) (hip : 0 ≤ ip ∧ ip < 4294967296) (hn : ∀ e ∈ c.l, e.ip = ip → e.tries = 0) :
  AskW M i ip (wL c.l) (newC c src ip (be i 8)).1 (newC c src ip (be i 8)).2.l ∧ InvW (i + 1) (newC c src ip (be i 8)).2.l M := by
 have hg := good_wL ho.srt
 have hnw : ∀ w ∈ wL c.l, w.ip ≠ ip := by
  intro w hw q
  obtain ⟨e, he, het, rfl⟩ := wL_mem hw
  exact het (hn e he q)
 have ho1 := ho.del ip
 have hsub : ∀ e ∈ delK keyE ip c.l, e ∈ c.l := fun e he => (delK_mem he).1
 unfold newC
 cases hr : roomL c.most (delK keyE ip c.l) with
 | none => exact ⟨.none hnw (hg.sub hsub), (hv.sub hsub).up⟩
 | some l =>
  have hr' : roomL ({ c with l := delK keyE ip c.l } : Ca).most ({ c with l := delK keyE ip c.l } : Ca).l = some l := hr
  obtain ⟨ho2, hl2, hm2⟩ := ho1.room hr'
  have hs2 : ∀ e ∈ l, e ∈ c.l := fun e he => hsub e (hm2 e he)
  have hni : ∀ e ∈ l, e.ip ≠ ip := fun e he => (delK_mem (hm2 e he)).2
  have hw1 : (⟨ip, mac0, behindC c 10, 1, src, be i 8⟩ : NE).tries = 1 := rfl
  refine ⟨.new (W2 := wL c.l ++ [⟨i, ip, 1⟩]) rfl hnw ?_ (by simp) ?_, ?_⟩
  ·refine Right.ask (i := (wL c.l).length) (w := ⟨i, ip, 0⟩) (s := c.own) (d := mac0) (si := src) (di := ip) rfl rfl ho.own mac0_ok hsrc hip ⟨by simp, rfl, ?_⟩ ⟨by simp, by simp⟩ ?_
   ·rw [List.take_left]; exact hnw
   ·have : (wL c.l ++ [(⟨i, ip, 0⟩ : Wt)]).set (wL c.l).length { (⟨i, ip, 0⟩ : Wt) with asked := 0 + 1 } = wL c.l ++ [⟨i, ip, 1⟩] := by
     rw [List.set_append_right (h := Nat.le_refl _), Nat.sub_self]; rfl
    rw [this]
    exact Right.nil _
  ·refine ⟨?_, ?_, ?_⟩
   ·rw [List.pairwise_append]
    refine ⟨hg.ds, List.pairwise_singleton _ _, fun a ha b hb => ?_⟩
    simp at hb; subst hb; exact hnw a ha
   ·intro e he ht w hw
    rcases putL_mem he with rfl | he
    ·cases ht
    ·rcases List.mem_append.1 hw with hw | hw
     ·exact hg.kn e (hs2 e he) ht w hw
     ·simp at hw; subst hw; exact fun q => hni e he q.symm
   ·intro e he ht
    rcases putL_mem he with rfl | he
    ·simp [wOf, nat_be8 hi]
    ·exact List.mem_append_left _ (hg.wt e (hs2 e he) ht)
  ·refine ⟨?_, ?_, ?_⟩
   ·intro e he ht
    rcases putL_mem he with rfl | he
    ·simp only [nat_be8 hi]; exact ⟨trivial, by omega⟩
    ·have := hv.num e (hs2 e he) ht; exact ⟨this.1, by omega⟩
   ·intro e he f hf ht hft q
    rcases putL_mem he with rfl | he
    ·rcases putL_mem hf with rfl | hf
     ·rfl
     ·have := (hv.num f (hs2 f hf) hft).2
      simp only [nat_be8 hi] at q
      omega
    ·rcases putL_mem hf with rfl | hf
     ·have := (hv.num e (hs2 e he) ht).2
      simp only [nat_be8 hi] at q
      omega
     ·exact hv.one e (hs2 e he) f (hs2 f hf) ht hft q
   ·intro e he ht
    rcases putL_mem he with rfl | he
    ·cases ht
    ·exact hv.kn e (hs2 e he) ht
theorem askC_w {c : Ca} {M : List Td} {i : Nat} {src ip : Int} (ho : c.ok) (hv : InvW i c.l M) (hi : i < 4611686018427387904) (hsrc : 0 ≤ src ∧ src < 4294967296) (hip : 0 ≤ ip ∧ ip < 4294967296) :
  AskW M i ip (wL c.l) (askC c src ip (be i 8)).1 (askC c src ip (be i 8)).2.l ∧ InvW (i + 1) (askC c src ip (be i 8)).2.l M := by
 have hg := good_wL ho.srt
 unfold askC
 cases hf : findK keyE ip c.l with
 | none => exact newC_w ho hv hi hsrc hip fun e he q => absurd q (findK_none hf e he)
 | some e =>
  obtain ⟨hem, hei⟩ := findK_some hf
  have hei : e.ip = ip := hei
  dsimp only
  by_cases ht : e.tries = 0
  ·rw [if_neg (by omega)]
   split
   ·refine ⟨.now rfl (Right.now (n := i) rfl rfl rfl hi (by rw [← hei]; exact (hv.kn e hem ht).2) (Right.nil _)) hg, hv.up⟩
   ·exact newC_w ho hv hi hsrc hip fun f hf q => by rw [srt_one ho.srt hf hem (by rw [q, hei])]; exact ht
  ·rw [if_pos ht]
   obtain ⟨k, hk⟩ := List.mem_iff_getElem?.1 (hg.wt e hem ht)
   have hfirst := first_of hg.ds hk
   have hup : ∀ f ∈ updK keyE ip { e with src := src, pk := be i 8 } c.l, f = { e with src := src, pk := be i 8 } ∨ (f ∈ c.l ∧ f.ip ≠ ip) := by
    intro f hf
    obtain ⟨x, hx, rfl⟩ := List.mem_map.1 hf
    by_cases q : x.ip = ip
    ·left; exact if_pos q
    ·right
     have : (if keyE x = ip then ({ e with src := src, pk := be i 8 } : NE) else x) = x := if_neg q
     rw [this]; exact ⟨hx, q⟩
   refine ⟨.same (k := k) (w := wOf e) (by rw [← hei]; exact hfirst) ?_, ?_⟩
   ·refine ⟨ds_set hg.ds hk rfl, ?_, ?_⟩
    ·intro f hf hft w hw
     rcases hup f hf with rfl | ⟨hf, hfi⟩
     ·exact absurd hft ht
     ·obtain ⟨y, hy, hyi⟩ := set_mem hk (w' := { wOf e with n := (i : Int) }) rfl hw
      rw [← hyi]; exact hg.kn f hf hft y hy
    ·intro f hf hft
     rcases hup f hf with rfl | ⟨hf, hfi⟩
     ·refine List.mem_iff_getElem?.2 ⟨k, ?_⟩
      rw [List.getElem?_set_self (lt_of_get hk)]
      simp [wOf, nat_be8 hi]
     ·exact mem_set_of hk (hg.wt f hf hft) (by simp only [wOf]; omega)
   ·refine ⟨?_, ?_, ?_⟩
    ·intro f hf hft
     rcases hup f hf with rfl | ⟨hf, hfi⟩
     ·simp only [nat_be8 hi]; exact ⟨trivial, by omega⟩
     ·have := hv.num f hf hft; exact ⟨this.1, by omega⟩
    ·intro f hf g hg' hft hgt q
     rcases hup f hf with rfl | ⟨hf, hfi⟩
     ·rcases hup g hg' with rfl | ⟨hg', hgi⟩
      ·rfl
      ·have := (hv.num g hg' hgt).2
       simp only [nat_be8 hi] at q
       omega
     ·rcases hup g hg' with rfl | ⟨hg', hgi⟩
      ·have := (hv.num f hf hft).2
       simp only [nat_be8 hi] at q
       omega
      ·exact hv.one f hf g hg' hft hgt q
    ·intro f hf hft
     rcases hup f hf with rfl | ⟨hf, hfi⟩
     ·exact absurd hft ht
     ·exact hv.kn f hf hft
theorem tickL_w {c : Ca} {M : List Td} {now ip : Int} (ho : c.ok) : ∀ {l : List NE} {W : List Wt}, SrtW l → (∀ e ∈ l, e.ok) → (W.Pairwise fun a b => a.ip ≠ b.ip) → (∀ e ∈ l, e.tries ≠ 0 → wOf e ∈ W) →
  ∃ W2, Right M now ip (tickL c l).2 W W2 ∧ (W2.Pairwise fun a b => a.ip ≠ b.ip) ∧ W2.length = W.length ∧ (∀ w ∈ W2, ∃ y ∈ W, y.ip = w.ip) ∧ (∀ e ∈ (tickL c l).1, e.tries ≠ 0 → wOf e ∈ W2) ∧ ∀ w ∈ W, (∀ e ∈ l, e.ip ≠ w.ip) → w ∈ W2 := by
 intro l
 induction l with
 | nil =>
  intro W hs ha hd hw
  exact ⟨W, Right.nil W, hd, rfl, fun w hw => ⟨w, hw, rfl⟩, (fun e he => by cases he), fun w hw _ => hw⟩
 | cons e l ih =>
  intro W hs ha hd hw
  obtain ⟨h1, h2⟩ := List.pairwise_cons.1 hs
  have hal : ∀ x ∈ l, x.ok := fun x hx => ha x (List.mem_cons_of_mem _ hx)
  have hwl : ∀ x ∈ l, x.tries ≠ 0 → wOf x ∈ W := fun x hx => hw x (List.mem_cons_of_mem _ hx)
  rw [tickL]
  by_cases hn : c.now < e.til
  ·rw [if_pos hn]
   obtain ⟨W2, q1, q2, q3, q4, q5, q6⟩ := ih h2 hal hd hwl
   refine ⟨W2, q1, q2, q3, q4, ?_, fun w hw2 hne => q6 w hw2 fun x hx => hne x (List.mem_cons_of_mem _ hx)⟩
   intro x hx ht
   rcases List.mem_cons.1 hx with rfl | hx
   ·exact q6 _ (hw x List.mem_cons_self ht) fun y hy => by have := h1 y hy; simp only [wOf]; omega
   ·exact q5 x hx ht
  ·rw [if_neg hn]
   by_cases ht : e.tries = 0 ∨ 3 ≤ e.tries
   ·rw [if_pos ht]
    obtain ⟨W2, q1, q2, q3, q4, q5, q6⟩ := ih h2 hal hd hwl
    exact ⟨W2, q1, q2, q3, q4, q5, fun w hw2 hne => q6 w hw2 fun x hx => hne x (List.mem_cons_of_mem _ hx)⟩
   ·rw [if_neg ht]
    have heo := ha e List.mem_cons_self
    have ht0 : e.tries ≠ 0 := by omega
    obtain ⟨k, hk⟩ := List.mem_iff_getElem?.1 (hw e List.mem_cons_self ht0)
    have hd2 := ds_set (w' := wOf (tickE c e)) hd hk rfl
    have hwl2 : ∀ x ∈ l, x.tries ≠ 0 → wOf x ∈ W.set k (wOf (tickE c e)) := fun x hx hxt => mem_set_of hk (hwl x hx hxt) (by have := h1 x hx; simp only [wOf]; omega)
    obtain ⟨W2, q1, q2, q3, q4, q5, q6⟩ := ih h2 hal hd2 hwl2
    refine ⟨W2, ?_, q2, by rw [q3, List.length_set], ?_, ?_, ?_⟩
    ·refine Right.ask (x := questC c (tickE c e)) (s := c.own) (d := mac0) (si := e.src) (di := e.ip) (i := k) (w := wOf e) rfl rfl ho.own mac0_ok heo.src heo.ip (first_of hd hk) ?_ ?_
     ·have := heo.tries; simp only [wOf]; omega
     ·exact q1
    ·intro w hw2
     obtain ⟨y, hy, hyi⟩ := q4 w hw2
     obtain ⟨z, hz, hzi⟩ := set_mem hk (w' := wOf (tickE c e)) rfl hy
     exact ⟨z, hz, by rw [hzi, hyi]⟩
    ·intro x hx hxt
     rcases List.mem_cons.1 hx with rfl | hx
     ·refine q6 _ (List.mem_iff_getElem?.2 ⟨k, by rw [List.getElem?_set_self (lt_of_get hk)]⟩) fun y hy => ?_
      have := h1 y hy
      simp only [wOf, tickE]; omega
     ·exact q5 x hx hxt
    ·intro w hw2 hne
     refine q6 w (mem_set_of hk hw2 ?_) fun x hx => hne x (List.mem_cons_of_mem _ hx)
     have := hne e List.mem_cons_self
     simp only [wOf]; exact fun q => this q.symm
theorem tickC_w {c : Ca} {M : List Td} {i : Nat} (ho : c.ok) (hv : InvW i c.l M) :
  ∃ W2, Right M (-1) 0 (tickC c).1 (wL c.l) W2 ∧ W2.length = (wL c.l).length ∧ GoodW (tickC c).2.l W2 ∧ InvW i (tickC c).2.l M := by
 have hg := good_wL ho.srt
 obtain ⟨W2, q1, q2, q3, q4, q5, q6⟩ := tickL_w (M := M) (now := -1) (ip := 0) ho ho.srt ho.all hg.ds hg.wt
 have hm := @tickL_mem c c.l
 refine ⟨W2, q1, q3, ⟨q2, ?_, q5⟩, ⟨?_, ?_, ?_⟩⟩
 ·intro e he ht w hw q
  rcases hm he with he | ⟨f, hf, rfl, hf0, hf3⟩
  ·obtain ⟨y, hy, hyi⟩ := q4 w hw
   exact hg.kn e he ht y hy (by rw [hyi, q])
  ·have := (ho.all f hf).tries
   simp only [tickE] at ht; omega
 ·intro e he ht
  rcases hm he with he | ⟨f, hf, rfl, hf0, hf3⟩
  ·exact hv.num e he ht
  ·exact hv.num f hf hf0
 ·have hb : ∀ e ∈ (tickC c).2.l, e.tries ≠ 0 → ∃ f ∈ c.l, f.tries ≠ 0 ∧ f.ip = e.ip ∧ f.pk = e.pk := by
   intro e he ht
   rcases hm he with he | ⟨f, hf, rfl, hf0, hf3⟩
   ·exact ⟨e, he, ht, rfl, rfl⟩
   ·exact ⟨f, hf, hf0, rfl, rfl⟩
  intro e he f hf ht hft q
  obtain ⟨e', h1, h2, h3, h4⟩ := hb e he ht
  obtain ⟨f', k1, k2, k3, k4⟩ := hb f hf hft
  rw [← h3, ← k3]
  exact hv.one e' h1 f' k1 h2 k2 (by rw [h4, k4]; exact q)
 ·intro e he ht
  rcases hm he with he | ⟨f, hf, rfl, hf0, hf3⟩
  ·exact hv.kn e he ht
  ·have := (ho.all f hf).tries
   simp only [tickE] at ht; omega
theorem Right.app {M : List Td} {now ip : Int} {a b : List Snd} {W W1 W2 : List Wt} (h : Right M now ip a W W1) (h2 : Right M now ip b W1 W2) : Right M now ip (a ++ b) W W2 := by
 induction h with
 | nil W => exact h2
 | tell hk hx hs hd hi hdi hr ih => exact Right.tell hk hx hs hd hi hdi (ih h2)
 | ask hk hx hs hd hi hdi hw ha hr ih => exact Right.ask hk hx hs hd hi hdi hw ha (ih h2)
 | now hk hx hn hl hm hr ih => exact Right.now hk hx hn hl hm (ih h2)
 | wait hk hx hn hl hw hwn hone hm hr ih => exact Right.wait hk hx hn hl hw hwn hone hm (ih h2)
theorem heard_in {ip : Int} {mac : M6} {M : List Td} : (ip, mac) ∈ heardM ip mac M := by simp [heardM]
theorem heard_old {ip : Int} {mac : M6} {M : List Td} {t : Td} (h : t ∈ M) (hn : t.1 ≠ ip) : t ∈ heardM ip mac M := List.mem_append_left _ (List.mem_filter.2 ⟨h, by simpa using hn⟩)
theorem erase_ne {W : List Wt} (h : W.Pairwise fun a b => a.ip ≠ b.ip) {k : Nat} {w : Wt} (hk : W[k]? = some w) : ∀ x ∈ W.eraseIdx k, x ∈ W ∧ x.ip ≠ w.ip := by
 intro x hx
 obtain ⟨j, hj⟩ := List.mem_iff_getElem?.1 hx
 rw [List.getElem?_eraseIdx] at hj
 split at hj
 ·refine ⟨List.mem_of_getElem? hj, fun q => ?_⟩
  have := ds_ne h hj hk q
  omega
 ·refine ⟨List.mem_of_getElem? hj, fun q => ?_⟩
  have := ds_ne h hj hk q
  omega
theorem mem_erase {W : List Wt} {k : Nat} {w x : Wt} (hk : W[k]? = some w) (hx : x ∈ W) (hn : x.ip ≠ w.ip) : x ∈ W.eraseIdx k := by
 obtain ⟨j, hj⟩ := List.mem_iff_getElem?.1 hx
 have hne : j ≠ k := by rintro rfl; rw [hk] at hj; cases hj; exact hn rfl
 rcases Nat.lt_or_ge j k with q | q
 ·exact List.mem_iff_getElem?.2 ⟨j, by rw [List.getElem?_eraseIdx, if_pos q]; exact hj⟩
 ·refine List.mem_iff_getElem?.2 ⟨j - 1, ?_⟩
  rw [List.getElem?_eraseIdx, if_neg (by omega), show j - 1 + 1 = j by omega]; exact hj
theorem kn_heard {l : List NE} {M : List Td} {i : Nat} {si : Int} {s : M6} (hv : InvW i l M) {e : NE} (he : e ∈ l) (ht : e.tries = 0) (hn : e.ip ≠ si) : isHost e.ip = true ∧ (e.ip, e.mac) ∈ heardM si s M := ⟨(hv.kn e he ht).1, heard_old (hv.kn e he ht).2 hn⟩
theorem learnC_w {c : Ca} {M : List Td} {i : Nat} {si : Int} {s : M6} {asks : Bool} (ho : c.ok) (hv : InvW i c.l M) (hi : i < 4611686018427387904) (hh : isHost si = true) :
  ∃ W2, Right (heardM si s M) (-1) 0 (learnC c si s asks).1 (wL c.l) W2 ∧ W2.length ≤ (wL c.l).length ∧ GoodW (learnC c si s asks).2.l W2 ∧ InvW i (learnC c si s asks).2.l (heardM si s M) := by
 have hg := good_wL ho.srt
 unfold learnC
 cases hf : findK keyE si c.l with
 | some e =>
  obtain ⟨hem, hei⟩ := findK_some hf
  have hei : e.ip = si := hei
  dsimp only
  generalize hE : (⟨si, s, behindC c 600, 0, 0, []⟩ : NE) = e2
  have e2t : e2.tries = 0 := by rw [← hE]
  have e2i : e2.ip = si := by rw [← hE]
  have e2m : e2.mac = s := by rw [← hE]
  have hup : ∀ f ∈ updK keyE si e2 c.l, f = e2 ∨ (f ∈ c.l ∧ f.ip ≠ si) := by
   intro f hf
   obtain ⟨x, hx, rfl⟩ := List.mem_map.1 hf
   by_cases q : x.ip = si
   ·left; exact if_pos q
   ·right
    have : (if keyE x = si then e2 else x) = x := if_neg q
    rw [this]; exact ⟨hx, q⟩
  have hinv : InvW i (updK keyE si e2 c.l) (heardM si s M) := by
   refine ⟨?_, ?_, ?_⟩
   ·intro f hf ht
    rcases hup f hf with rfl | ⟨hf, _⟩
    ·exact absurd e2t ht
    ·exact hv.num f hf ht
   ·intro f hf g hg ht hgt q
    rcases hup f hf with rfl | ⟨hf, _⟩
    ·exact absurd e2t ht
    ·rcases hup g hg with rfl | ⟨hg, _⟩
     ·exact absurd e2t hgt
     ·exact hv.one f hf g hg ht hgt q
   ·intro f hf ht
    rcases hup f hf with rfl | ⟨hf, hn⟩
    ·rw [e2i, e2m]; exact ⟨hh, heard_in⟩
    ·exact kn_heard hv hf ht hn
  by_cases ht : e.tries = 0
  ·rw [if_neg (by omega)]
   refine ⟨wL c.l, Right.nil _, Nat.le_refl _, ⟨hg.ds, ?_, ?_⟩, hinv⟩
   ·intro f hf hft w hw
    rcases hup f hf with rfl | ⟨hf, _⟩
    ·rw [e2i, ← hei]; exact hg.kn e hem ht w hw
    ·exact hg.kn f hf hft w hw
   ·intro f hf hft
    rcases hup f hf with rfl | ⟨hf, _⟩
    ·exact absurd e2t hft
    ·exact hg.wt f hf hft
  ·rw [if_pos ht]
   obtain ⟨k, hk⟩ := List.mem_iff_getElem?.1 (hg.wt e hem ht)
   have hpk := hv.num e hem ht
   refine ⟨(wL c.l).eraseIdx k, ?_, List.length_eraseIdx_le _ _, ⟨hg.ds.sublist (List.eraseIdx_sublist _ _), ?_, ?_⟩, hinv⟩
   ·refine Right.wait (n := nat256 e.pk) (i := k) (w := wOf e) rfl hpk.1 (by omega) (by omega) hk rfl ?_ ?_ (Right.nil _)
    ·intro j w' hj hn
     obtain ⟨f, hf, hft, rfl⟩ := wL_mem (List.mem_of_getElem? hj)
     have hn : ((nat256 f.pk : Nat) : Int) = ((nat256 e.pk : Nat) : Int) := hn
     have hfe := hv.one f hf e hem hft ht (by omega)
     exact ds_ne hg.ds hj hk hfe
    ·show (e.ip, s) ∈ _
     rw [hei]; exact heard_in
   ·intro f hf hft w hw
    have hw' := erase_ne hg.ds hk w hw
    rcases hup f hf with rfl | ⟨hf, _⟩
    ·rw [e2i, ← hei]; exact hw'.2
    ·exact hg.kn f hf hft w hw'.1
   ·intro f hf hft
    rcases hup f hf with rfl | ⟨hf, hn⟩
    ·exact absurd e2t hft
    ·exact mem_erase hk (hg.wt f hf hft) (by simp only [wOf]; omega)
 | none =>
  have hni : ∀ e ∈ c.l, e.ip ≠ si := findK_none hf
  have hinv : InvW i c.l (heardM si s M) := ⟨hv.num, hv.one, fun e he ht => kn_heard hv he ht (hni e he)⟩
  cases asks with
  | false => exact ⟨_, Right.nil _, Nat.le_refl _, hg, hinv⟩
  | true =>
   dsimp only
   cases hr : roomL c.most c.l with
   | none => exact ⟨_, Right.nil _, Nat.le_refl _, hg, hinv⟩
   | some l =>
    obtain ⟨ho2, hl2, hm2⟩ := ho.room hr
    refine ⟨_, Right.nil _, Nat.le_refl _, ⟨hg.ds, ?_, ?_⟩, ⟨?_, ?_, ?_⟩⟩
    ·intro f hf ht w hw
     rcases putL_mem hf with rfl | hf
     ·obtain ⟨e, he, _, rfl⟩ := wL_mem hw
      exact hni e he
     ·exact hg.kn f (hm2 f hf) ht w hw
    ·intro f hf ht
     rcases putL_mem hf with rfl | hf
     ·exact absurd rfl ht
     ·exact hg.wt f (hm2 f hf) ht
    ·intro f hf ht
     rcases putL_mem hf with rfl | hf
     ·exact absurd rfl ht
     ·exact hv.num f (hm2 f hf) ht
    ·intro f hf g hg ht hgt q
     rcases putL_mem hf with rfl | hf
     ·exact absurd rfl ht
     ·rcases putL_mem hg with rfl | hg
      ·exact absurd rfl hgt
      ·exact hv.one f (hm2 f hf) g (hm2 g hg) ht hgt q
    ·intro f hf ht
     rcases putL_mem hf with rfl | hf
     ·exact ⟨hh, heard_in⟩
     ·exact kn_heard hv (hm2 f hf) ht (hni f (hm2 f hf))
def hearsC (op : Int) (s : M6) (si own : Int) : Bool := (op == 1 || op == 2) && (!(s.a % 2 == 1) && si != own)
def heardC (op : Int) (s : M6) (si own : Int) (M : List Td) : List Td := if hearsC op s si own then heardM si s M else M
theorem onC_w {c : Ca} {M : List Td} {i : Nat} {op si di own : Int} {s : M6} (ho : c.ok) (hv : InvW i c.l M) (hi : i < 4611686018427387904) (hm : s.ok) (hsi : 0 ≤ si ∧ si < 4294967296) (hdi : 0 ≤ di ∧ di < 4294967296) :
  ∃ W2, Right (heardC op s si own M) (-1) 0 (onC c op s si di own).1 (wL c.l) W2 ∧ W2.length ≤ (wL c.l).length ∧ GoodW (onC c op s si di own).2.l W2 ∧ InvW i (onC c op s si di own).2.l (heardC op s si own M) := by
 have hg := good_wL ho.srt
 unfold onC
 by_cases hb : (op ≠ 1 ∧ op ≠ 2) ∨ s.a % 2 = 1
 ·rw [if_pos hb]
  have hq : hearsC op s si own = false := by
   unfold hearsC
   rcases hb with ⟨q1, q2⟩ | q
   ·simp [q1, q2]
   ·simp [q]
  unfold heardC
  rw [hq, if_neg (by decide)]
  exact ⟨_, Right.nil _, Nat.le_refl _, hg, hv⟩
 ·rw [if_neg hb]
  have hb1 : op = 1 ∨ op = 2 := by omega
  have hb2 : s.a % 2 ≠ 1 := by omega
  have answer : ∀ {M' : List Td} {W : List Wt}, Right M' (-1) 0 (if asksC op own di = true then [(⟨s, 2054, arpL 2 c.own di s si⟩ : Snd)] else []) W W := by
   intro M' W
   split
   ·exact Right.tell rfl rfl ho.own hm hdi hsi (Right.nil _)
   ·exact Right.nil _
  by_cases hso : si = own
  ·have hq : hearsC op s si own = false := by simp [hearsC, hso]
   have hr : (isHost si && decide (si ≠ own)) = false := by simp [hso]
   unfold heardC
   rw [hq, if_neg (by decide), hr]
   exact ⟨_, (Right.nil _).app answer, Nat.le_refl _, hg, hv⟩
  ·have hq : hearsC op s si own = true := by
    unfold hearsC
    rcases hb1 with q | q <;> simp [q, hb2, hso]
   unfold heardC
   rw [hq, if_pos rfl]
   cases hh : isHost si with
   | true =>
    have hr : (true && decide (si ≠ own)) = true := by simp [hso]
    rw [hr]
    obtain ⟨W2, q1, q2, q3, q4⟩ := learnC_w (s := s) (asks := asksC op own di) ho hv hi hh
    exact ⟨W2, q1.app answer, q2, q3, q4⟩
   | false =>
    rw [show (false && decide (si ≠ own)) = false from rfl]
    refine ⟨_, (Right.nil _).app answer, Nat.le_refl _, hg, ⟨hv.num, hv.one, fun e he ht => kn_heard hv he ht fun q => ?_⟩⟩
    have := (hv.kn e he ht).1
    rw [q, hh] at this
    cases this
end Go.Proofs.Ytkfccpabigikkaa

set_option linter.unusedVariables false
set_option maxRecDepth 100000
namespace Go.Proofs.Ytkfccpabigikkaa
open Go Go.Hw
noncomputable def B5 : Code := match Try.f5.body with | some c => c | none => .skip
def N5_j0 (x1 : Int) (x2 : Sl) (x7 : Bool) (x8 : Option Addr) (x32 : Bool) (h : Hp) (Kn : Hp → Prop) (Kr : Bool → Hp → Prop) : Prop :=
 bif x32 then
 bif x7 then
 bif (decide (x1 < 1)) then
 Kr true h
 else
 Kr (decide (x1 > 64)) h
 else
 Kr false h
 else
 Kn h
noncomputable def N5_j0_t : Xf := pieceT [(1, .c (.int .i64)), (2, .c (.slice)), (7, .c (.bool)), (8, .c (.ptr)), (32, .c (.bool))] (codeAt B5 [1, 1, 1, 0, 1]) fun x h Q => N5_j0 x.1 x.2.1 x.2.2.1 x.2.2.2.1 x.2.2.2.2 h (fun h' => Q .normal (Sg.env [] ()) h') (fun o0 h' => Q .ret (Sg.env [(6, .c (.bool))] o0) h')
theorem N5_j0_ok : Sound Try.prog Try.f5.ntmps N5_j0_t (codeAt B5 [1, 1, 1, 0, 1]) := by
 refine piece_sound (fun e => match e with | .normal => [] | .ret => [6] | _ => []) ?_
 intro x h Q hb
 refine den_sound hE hm _ .leaf _ _ _ (annOk_leaf) ?_
 refine cast ?_ hb
 kernel_rfl
def N5_j3 (x1 : Int) (x2 : Sl) (x8 x9 : Option Addr) (x10 : Int) (x11 : Option Addr) (x13 : Sl) (x14 : Int) (x79 : Bool) (h : Hp) (Kn : Hp → Prop) : Prop :=
 bif x79 then
 nn x9 fun a0 =>
 xL (cell h a0) fun s0 =>
 idx x14 s0.n <|
 nn s0.p fun a1 =>
 st h (a1.add (x14.toNat * 3)) (.int .i64 x10) fun h0 =>
 Kn h0
 else
 Kn h
noncomputable def N5_j3_t : Xf := pieceT [(1, .c (.int .i64)), (2, .c (.slice)), (8, .c (.ptr)), (9, .c (.ptr)), (10, .c (.int .i64)), (11, .c (.ptr)), (13, .c (.slice)), (14, .c (.int .i64)), (79, .c (.bool))] (codeAt B5 [1, 1, 1, 1, 1, 0, 1, 0, 0, 1, 0, 0, 1, 1, 0, 1, 0, 1, 0, 1, 1, 0, 1]) fun x h Q => N5_j3 x.1 x.2.1 x.2.2.1 x.2.2.2.1 x.2.2.2.2.1 x.2.2.2.2.2.1 x.2.2.2.2.2.2.1 x.2.2.2.2.2.2.2.1 x.2.2.2.2.2.2.2.2 h (fun h' => Q .normal (Sg.env [] ()) h')
theorem N5_j3_ok : Sound Try.prog Try.f5.ntmps N5_j3_t (codeAt B5 [1, 1, 1, 1, 1, 0, 1, 0, 0, 1, 0, 0, 1, 1, 0, 1, 0, 1, 0, 1, 1, 0, 1]) := by
 refine piece_sound (fun e => match e with | .normal => [] | _ => []) ?_
 intro x h Q hb
 refine den_sound hE hm _ .leaf _ _ _ (annOk_leaf) ?_
 refine cast ?_ hb
 kernel_rfl
def N5_j5 (x1 : Int) (x2 : Sl) (x8 x9 : Option Addr) (x10 : Int) (x11 : Option Addr) (x13 : Sl) (x14 : Int) (x97 : Bool) (h : Hp) (Kn : Hp → Prop) (Kr : Bool → Hp → Prop) : Prop :=
 bif x97 then
 bif (decide (x14 ≥ 0)) then
 Kr false h
 else
 nn x9 fun a0 =>
 xL (cell h a0) fun s0 =>
 nn x11 fun a1 =>
 xI .u32 (cell h (a1.add 3)) fun n0 =>
 nw h (.cells ⟨[.int .i64 x10, .int .u32 n0, .int .i64 0]⟩ 57) fun b0 h0 =>
 both (xL (cell h0 a0) fun s1 => Only (.slice s0.p s0.n s0.c) h0 (.slice s1.p s1.n s1.c) h0) <|
 apK Try.prog 57 s0 (.slice (some (bk b0)) 1 1) h0 fun s2 h1 =>
 nn x9 fun a2 =>
 st h1 a2 (.slice s2.p s2.n s2.c) fun h2 =>
 Kn h2
 else
 Kn h
noncomputable def N5_j5_t : Xf := pieceT [(1, .c (.int .i64)), (2, .c (.slice)), (8, .c (.ptr)), (9, .c (.ptr)), (10, .c (.int .i64)), (11, .c (.ptr)), (13, .c (.slice)), (14, .c (.int .i64)), (97, .c (.bool))] (codeAt B5 [1, 1, 1, 1, 1, 0, 1, 0, 0, 1, 0, 0, 1, 1, 0, 1, 0, 1, 0, 1, 1, 1, 0, 1]) fun x h Q => N5_j5 x.1 x.2.1 x.2.2.1 x.2.2.2.1 x.2.2.2.2.1 x.2.2.2.2.2.1 x.2.2.2.2.2.2.1 x.2.2.2.2.2.2.2.1 x.2.2.2.2.2.2.2.2 h (fun h' => Q .normal (Sg.env [] ()) h') (fun o0 h' => Q .ret (Sg.env [(6, .c (.bool))] o0) h')
theorem N5_j5_ok : Sound Try.prog Try.f5.ntmps N5_j5_t (codeAt B5 [1, 1, 1, 1, 1, 0, 1, 0, 0, 1, 0, 0, 1, 1, 0, 1, 0, 1, 0, 1, 1, 1, 0, 1]) := by
 refine piece_sound (fun e => match e with | .normal => [] | .ret => [6] | _ => []) ?_
 intro x h Q hb
 refine den_sound hE hm _ (.two (.two .leaf (.ord [0, 1, 2, 3, 4, 5, 6, 7, 8, 9, 10, 11, 12, 13])) .leaf) _ _ _ (⟨⟨annOk_leaf, trivial⟩, annOk_leaf⟩) ?_
 refine cast ?_ hb
 kernel_rfl
def N5_j6 (x1 : Int) (x2 : Sl) (x8 x9 : Option Addr) (x10 : Int) (x11 : Option Addr) (x13 : Sl) (h : Hp) (Kn : Bool → Hp → Prop) : Prop :=
 nn x11 fun a0 =>
 xI .u32 (cell h (a0.add 3)) fun n0 =>
 C15 x9 x13 x10 n0 h fun b0 h0 =>
 Kn b0 h0
noncomputable def N5_j6_t : Xf := pieceT [(1, .c (.int .i64)), (2, .c (.slice)), (8, .c (.ptr)), (9, .c (.ptr)), (10, .c (.int .i64)), (11, .c (.ptr)), (13, .c (.slice))] (codeAt B5 [1, 1, 1, 1, 1, 0, 1, 0, 0, 1, 0, 0, 1, 1, 0, 1, 0, 1, 0, 1, 1, 1, 1]) fun x h Q => N5_j6 x.1 x.2.1 x.2.2.1 x.2.2.2.1 x.2.2.2.2.1 x.2.2.2.2.2.1 x.2.2.2.2.2.2 h (fun o0 h' => Q .normal (Sg.env [(12, .c (.bool))] o0) h')
theorem N5_j6_ok : Sound Try.prog Try.f5.ntmps N5_j6_t (codeAt B5 [1, 1, 1, 1, 1, 0, 1, 0, 0, 1, 0, 0, 1, 1, 0, 1, 0, 1, 0, 1, 1, 1, 1]) := by
 refine piece_sound (fun e => match e with | .normal => [12] | _ => []) ?_
 intro x h Q hb
 refine den_sound hE hm _ .leaf _ _ _ (annOk_leaf) ?_
 refine cast ?_ hb
 kernel_rfl
def N5_j4 (x1 : Int) (x2 : Sl) (x8 x9 : Option Addr) (x10 : Int) (x11 : Option Addr) (x13 : Sl) (x14 : Int) (h : Hp) (Kn Kr : Bool → Hp → Prop) : Prop :=
 bif (decide (((x13.n : Nat) : Int) > 0)) then
 idx 0 x13.n <|
 nn x13.p fun a0 =>
 xI .i64 (cell h ((a0.add ((0 : Int).toNat * 8)).add 6)) fun n0 =>
 N5_j5 x1 x2 x8 x9 x10 x11 x13 x14 (n0 == 2054) h
 (fun h0 =>
 N5_j6 x1 x2 x8 x9 x10 x11 x13 h0
 (fun b0 h1 =>
 Kn b0 h1))
 (fun b1 h2 =>
 Kr b1 h2)
 else
 N5_j5 x1 x2 x8 x9 x10 x11 x13 x14 false h
 (fun h3 =>
 N5_j6 x1 x2 x8 x9 x10 x11 x13 h3
 (fun b2 h4 =>
 Kn b2 h4))
 (fun b3 h5 =>
 Kr b3 h5)
noncomputable def N5_j4_t : Xf := pieceT [(1, .c (.int .i64)), (2, .c (.slice)), (8, .c (.ptr)), (9, .c (.ptr)), (10, .c (.int .i64)), (11, .c (.ptr)), (13, .c (.slice)), (14, .c (.int .i64))] (codeAt B5 [1, 1, 1, 1, 1, 0, 1, 0, 0, 1, 0, 0, 1, 1, 0, 1, 0, 1, 0, 1, 1, 1]) fun x h Q => N5_j4 x.1 x.2.1 x.2.2.1 x.2.2.2.1 x.2.2.2.2.1 x.2.2.2.2.2.1 x.2.2.2.2.2.2.1 x.2.2.2.2.2.2.2 h (fun o0 h' => Q .normal (Sg.env [(12, .c (.bool))] o0) h') (fun o0 h' => Q .ret (Sg.env [(6, .c (.bool))] o0) h')
theorem N5_j4_ok : Sound Try.prog Try.f5.ntmps N5_j4_t (codeAt B5 [1, 1, 1, 1, 1, 0, 1, 0, 0, 1, 0, 0, 1, 1, 0, 1, 0, 1, 0, 1, 1, 1]) := by
 refine piece_sound (fun e => match e with | .normal => [12] | .ret => [6] | _ => []) ?_
 intro x h Q hb
 refine den_sound hE hm _ (.two (.two .leaf (.xf N5_j5_t)) (.xf N5_j6_t)) _ _ _ (⟨⟨annOk_leaf, N5_j5_ok⟩, N5_j6_ok⟩) ?_
 refine cast ?_ hb
 kernel_rfl
def N5_j9 (x1 : Int) (x2 : Sl) (x8 x9 : Option Addr) (x10 : Int) (x18 x19 : Sl) (x20 x21 : Int) (x22 : Bool) (h : Hp) (Kn : Sl → Hp → Prop) : Prop :=
 bif x22 then
 nn x9 fun a0 =>
 xL (cell h a0) fun s0 =>
 idx x21 s0.n <|
 nn s0.p fun a1 =>
 xI .i64 (cell h (a1.add (x21.toNat * 3))) fun n0 =>
 xI .u32 (cell h ((a1.add (x21.toNat * 3)).add 1)) fun n1 =>
 xI .i64 (cell h ((a1.add (x21.toNat * 3)).add 2)) fun n2 =>
 nw h (.cells ⟨[.int .i64 n0, .int .u32 n1, .int .i64 n2]⟩ 57) fun b0 h0 =>
 apK Try.prog 57 x19 (.slice (some (bk b0)) 1 1) h0 fun s1 h1 =>
 Kn s1 h1
 else
 Kn x19 h
noncomputable def N5_j9_t : Xf := pieceT [(1, .c (.int .i64)), (2, .c (.slice)), (8, .c (.ptr)), (9, .c (.ptr)), (10, .c (.int .i64)), (18, .c (.slice)), (19, .c (.slice)), (20, .c (.int .i64)), (21, .c (.int .i64)), (22, .c (.bool))] (codeAt B5 [1, 1, 1, 1, 1, 0, 1, 0, 0, 1, 0, 0, 1, 1, 1, 1, 1, 1, 0, 1, 0, 0, 1, 0, 0, 1, 1, 1]) fun x h Q => N5_j9 x.1 x.2.1 x.2.2.1 x.2.2.2.1 x.2.2.2.2.1 x.2.2.2.2.2.1 x.2.2.2.2.2.2.1 x.2.2.2.2.2.2.2.1 x.2.2.2.2.2.2.2.2.1 x.2.2.2.2.2.2.2.2.2 h (fun o0 h' => Q .normal (Sg.env [(19, .c (.slice))] o0) h')
theorem N5_j9_ok : Sound Try.prog Try.f5.ntmps N5_j9_t (codeAt B5 [1, 1, 1, 1, 1, 0, 1, 0, 0, 1, 0, 0, 1, 1, 1, 1, 1, 1, 0, 1, 0, 0, 1, 0, 0, 1, 1, 1]) := by
 refine piece_sound (fun e => match e with | .normal => [19] | _ => []) ?_
 intro x h Q hb
 refine den_sound hE hm _ .leaf _ _ _ (annOk_leaf) ?_
 refine cast ?_ hb
 kernel_rfl
def N5_l8_b (x1 : Int) (x2 : Sl) (x8 x9 : Option Addr) (x10 : Int) (x18 : Sl) (Φ : Sl → Int → Hp → Prop) (x19 : Sl) (x20 : Int) (h : Hp) (K3 : Sl → Hp → Prop) (Kr : Bool → Hp → Prop) : Prop :=
 bif (decide (x20 < ((x18.n : Nat) : Int))) then
 idx x20 x18.n <|
 nn x18.p fun a0 =>
 xI .u32 (cell h (a0.add (x20.toNat * 11))) fun n0 =>
 C14 x9 n0 h fun n1 h0 =>
 idx x20 x18.n <|
 nn x18.p fun a1 =>
 xI .i64 (cell h0 ((a1.add (x20.toNat * 11)).add 7)) fun n2 =>
 bif (decide (x20 > 0)) then
 idx (IntKind.wrap .i64 (x20 - 1)) x18.n <|
 nn x18.p fun a2 =>
 xI .u32 (cell h0 (a2.add ((IntKind.wrap .i64 (x20 - 1)).toNat * 11))) fun n3 =>
 idx x20 x18.n <|
 nn x18.p fun a3 =>
 xI .u32 (cell h0 (a3.add (x20.toNat * 11))) fun n4 =>
 bif (decide (n3 ≥ n4)) then
 Kr false h0
 else
 idx x20 x18.n <|
 nn x18.p fun a4 =>
 xB (cell h0 ((a4.add (x20.toNat * 11)).add 10)) fun b0 =>
 bif (!((n2 == 1) == b0)) then
 Kr false h0
 else
 bif (!((n2 == 1) == (decide (n1 ≥ 0)))) then
 Kr false h0
 else
 bif (n2 == 1) then
 idx x20 x18.n <|
 nn x18.p fun a5 =>
 xI .i64 (cell h0 ((a5.add (x20.toNat * 11)).add 9)) fun n5 =>
 nn x9 fun a6 =>
 xL (cell h0 a6) fun s0 =>
 idx n1 s0.n <|
 nn s0.p fun a7 =>
 xI .i64 (cell h0 ((a7.add (n1.toNat * 3)).add 2)) fun n6 =>
 bif (n5 != n6) then
 Kr false h0
 else
 N5_j9 x1 x2 x8 x9 x10 x18 x19 x20 n1 (n2 == 1) h0
 (fun s1 h1 =>
 Φ s1 (IntKind.wrap .i64 (x20 + 1)) h1)
 else
 N5_j9 x1 x2 x8 x9 x10 x18 x19 x20 n1 (n2 == 1) h0
 (fun s2 h2 =>
 Φ s2 (IntKind.wrap .i64 (x20 + 1)) h2)
 else
 idx x20 x18.n <|
 nn x18.p fun a8 =>
 xB (cell h0 ((a8.add (x20.toNat * 11)).add 10)) fun b1 =>
 bif (!((n2 == 1) == b1)) then
 Kr false h0
 else
 bif (!((n2 == 1) == (decide (n1 ≥ 0)))) then
 Kr false h0
 else
 bif (n2 == 1) then
 idx x20 x18.n <|
 nn x18.p fun a9 =>
 xI .i64 (cell h0 ((a9.add (x20.toNat * 11)).add 9)) fun n7 =>
 nn x9 fun a10 =>
 xL (cell h0 a10) fun s3 =>
 idx n1 s3.n <|
 nn s3.p fun a11 =>
 xI .i64 (cell h0 ((a11.add (n1.toNat * 3)).add 2)) fun n8 =>
 bif (n7 != n8) then
 Kr false h0
 else
 N5_j9 x1 x2 x8 x9 x10 x18 x19 x20 n1 (n2 == 1) h0
 (fun s4 h3 =>
 Φ s4 (IntKind.wrap .i64 (x20 + 1)) h3)
 else
 N5_j9 x1 x2 x8 x9 x10 x18 x19 x20 n1 (n2 == 1) h0
 (fun s5 h4 =>
 Φ s5 (IntKind.wrap .i64 (x20 + 1)) h4)
 else
 K3 x19 h
def N5_l8_B (x1 : Int) (x2 : Sl) (x8 x9 : Option Addr) (x10 : Int) (x18 : Sl) (K3 : Sl → Hp → Prop) (Kr : Bool → Hp → Prop) (s : Sg.T [(19, .c (.slice)), (20, .c (.int .i64))]) (h : Hp) (Φ : Sg.T [(19, .c (.slice)), (20, .c (.int .i64))] → Hp → Prop) : Prop :=
 N5_l8_b x1 x2 x8 x9 x10 x18 (fun x19 x20 h => Φ (x19, x20) h) s.1 s.2 h K3 Kr
def N5_l8 (x1 : Int) (x2 : Sl) (x8 x9 : Option Addr) (x10 : Int) (x18 x19 : Sl) (x20 : Int) (h : Hp) (K3 : Sl → Hp → Prop) (Kr : Bool → Hp → Prop) : Prop :=
 loopP (N5_l8_B x1 x2 x8 x9 x10 x18 K3 Kr) (x19, x20) h
noncomputable def N5_l8_t : Xf := loopT [(1, .c (.int .i64)), (2, .c (.slice)), (8, .c (.ptr)), (9, .c (.ptr)), (10, .c (.int .i64)), (18, .c (.slice))] [(19, .c (.slice)), (20, .c (.int .i64))] (codeAt B5 [1, 1, 1, 1, 1, 0, 1, 0, 0, 1, 0, 0, 1, 1, 1, 1, 1, 1, 0, 1, 0, 0]) fun F Q => N5_l8_B F.1 F.2.1 F.2.2.1 F.2.2.2.1 F.2.2.2.2.1 F.2.2.2.2.2 (fun o0 h' => Q (.exit 3) (Sg.env [(19, .c (.slice))] o0) h') (fun o0 h' => Q .ret (Sg.env [(6, .c (.bool))] o0) h')
theorem N5_l8_ok : Sound Try.prog Try.f5.ntmps N5_l8_t (codeAt B5 [1, 1, 1, 1, 1, 0, 1, 0, 0, 1, 0, 0, 1, 1, 1, 1, 1, 1, 0, 1, 0]) := by
 refine loop_sound (fun e => match e with | .exit 3 => [19] | .ret => [6] | _ => []) (by kernel_rfl) ?_
 intro F Q s h Φ hb
 refine den_sound hE hm _ (.two .leaf (.two (.one (.two .leaf (.two .leaf (.two (.two (.ord [0, 1, 2, 3, 4, 5, 6, 7, 8, 9, 10, 11, 12, 13, 14, 15, 16, 17, 18, 19, 20, 21, 22, 23, 24, 25, 26, 27, 28, 29, 30, 31, 32, 33, 34, 35, 36, 37, 38, 39, 40, 41, 42, 43, 44, 45, 46, 47, 48, 49]) .leaf) (.xf N5_j9_t))))) .leaf)) _ _ _ (⟨annOk_leaf, ⟨⟨annOk_leaf, ⟨annOk_leaf, ⟨⟨trivial, annOk_leaf⟩, N5_j9_ok⟩⟩⟩, annOk_leaf⟩⟩) ?_
 refine cast ?_ hb
 kernel_rfl
def N5_j7 (x1 : Int) (x2 : Sl) (x8 x9 : Option Addr) (x10 : Int) (x12 : Bool) (h : Hp) (Kn : Hp → Prop) (Kr : Bool → Hp → Prop) : Prop :=
 C21 x8 h fun s0 h0 =>
 bif (!x12) then
 Kr false h0
 else
 bif (decide (((s0.n : Nat) : Int) > x1)) then
 Kr false h0
 else
 N5_l8 x1 x2 x8 x9 x10 s0 ⟨none, 0, 0⟩ 0 h0
 (fun s1 h1 =>
 nn x9 fun a0 =>
 st h1 a0 (.slice s1.p s1.n s1.c) fun h2 =>
 Kn h2)
 (fun b0 h3 =>
 Kr b0 h3)
noncomputable def N5_j7_t : Xf := pieceT [(1, .c (.int .i64)), (2, .c (.slice)), (8, .c (.ptr)), (9, .c (.ptr)), (10, .c (.int .i64)), (12, .c (.bool))] (codeAt B5 [1, 1, 1, 1, 1, 0, 1, 0, 0, 1, 0, 0, 1, 1, 1]) fun x h Q => N5_j7 x.1 x.2.1 x.2.2.1 x.2.2.2.1 x.2.2.2.2.1 x.2.2.2.2.2 h (fun h' => Q .normal (Sg.env [] ()) h') (fun o0 h' => Q .ret (Sg.env [(6, .c (.bool))] o0) h')
theorem N5_j7_ok : Sound Try.prog Try.f5.ntmps N5_j7_t (codeAt B5 [1, 1, 1, 1, 1, 0, 1, 0, 0, 1, 0, 0, 1, 1, 1]) := by
 refine piece_sound (fun e => match e with | .normal => [] | .ret => [6] | _ => []) ?_
 intro x h Q hb
 refine den_sound hE hm _ (.two .leaf (.two .leaf (.two .leaf (.two (.two .leaf (.one (.xf N5_l8_t))) .leaf)))) _ _ _ (⟨annOk_leaf, ⟨annOk_leaf, ⟨annOk_leaf, ⟨⟨annOk_leaf, N5_l8_ok⟩, annOk_leaf⟩⟩⟩⟩) ?_
 refine cast ?_ hb
 kernel_rfl
def N5_j10 (x1 : Int) (x2 : Sl) (x8 x9 : Option Addr) (x10 : Int) (x11 : Option Addr) (x146 : Bool) (h : Hp) (Kn : Hp → Prop) : Prop :=
 bif x146 then
 nn x11 fun a0 =>
 xI .i64 (cell h (a0.add 5)) fun n0 =>
 xI .u8 (cell h (a0.add 6)) fun n1 =>
 xI .u8 (cell h (a0.add 7)) fun n2 =>
 xI .u8 (cell h (a0.add 8)) fun n3 =>
 xI .u8 (cell h (a0.add 9)) fun n4 =>
 xI .u8 (cell h (a0.add 10)) fun n5 =>
 xI .u8 (cell h (a0.add 11)) fun n6 =>
 xI .u32 (cell h (a0.add 12)) fun n7 =>
 xI .u8 (cell h (a0.add 13)) fun n8 =>
 xI .u8 (cell h (a0.add 14)) fun n9 =>
 xI .u8 (cell h (a0.add 15)) fun n10 =>
 xI .u8 (cell h (a0.add 16)) fun n11 =>
 xI .u8 (cell h (a0.add 17)) fun n12 =>
 xI .u8 (cell h (a0.add 18)) fun n13 =>
 xI .u32 (cell h (a0.add 19)) fun n14 =>
 C17 x9 n0 n1 n2 n3 n4 n5 n6 n7 n8 n9 n10 n11 n12 n13 n14 h fun h0 =>
 Kn h0
 else
 Kn h
noncomputable def N5_j10_t : Xf := pieceT [(1, .c (.int .i64)), (2, .c (.slice)), (8, .c (.ptr)), (9, .c (.ptr)), (10, .c (.int .i64)), (11, .c (.ptr)), (146, .c (.bool))] (codeAt B5 [1, 1, 1, 1, 1, 0, 1, 0, 0, 1, 0, 0, 1, 1, 0, 1, 0, 1, 1, 1, 0, 1, 0, 1]) fun x h Q => N5_j10 x.1 x.2.1 x.2.2.1 x.2.2.2.1 x.2.2.2.2.1 x.2.2.2.2.2.1 x.2.2.2.2.2.2 h (fun h' => Q .normal (Sg.env [] ()) h')
theorem N5_j10_ok : Sound Try.prog Try.f5.ntmps N5_j10_t (codeAt B5 [1, 1, 1, 1, 1, 0, 1, 0, 0, 1, 0, 0, 1, 1, 0, 1, 0, 1, 1, 1, 0, 1, 0, 1]) := by
 refine piece_sound (fun e => match e with | .normal => [] | _ => []) ?_
 intro x h Q hb
 refine den_sound hE hm _ .leaf _ _ _ (annOk_leaf) ?_
 refine cast ?_ hb
 kernel_rfl
def N5_j11 (x1 : Int) (x2 : Sl) (x8 x9 : Option Addr) (x10 : Int) (x11 : Option Addr) (h : Hp) (Kn : Bool → Hp → Prop) : Prop :=
 nn x11 fun a0 =>
 xI .i64 (cell h (a0.add 5)) fun n0 =>
 xI .u8 (cell h (a0.add 6)) fun n1 =>
 xI .u8 (cell h (a0.add 7)) fun n2 =>
 xI .u8 (cell h (a0.add 8)) fun n3 =>
 xI .u8 (cell h (a0.add 9)) fun n4 =>
 xI .u8 (cell h (a0.add 10)) fun n5 =>
 xI .u8 (cell h (a0.add 11)) fun n6 =>
 xI .u32 (cell h (a0.add 12)) fun n7 =>
 xI .u8 (cell h (a0.add 13)) fun n8 =>
 xI .u8 (cell h (a0.add 14)) fun n9 =>
 xI .u8 (cell h (a0.add 15)) fun n10 =>
 xI .u8 (cell h (a0.add 16)) fun n11 =>
 xI .u8 (cell h (a0.add 17)) fun n12 =>
 xI .u8 (cell h (a0.add 18)) fun n13 =>
 xI .u32 (cell h (a0.add 19)) fun n14 =>
 nn x11 fun a1 =>
 xI .u32 (cell h (a1.add 20)) fun n15 =>
 nn x11 fun a2 =>
 xI .i64 (cell h (a2.add 1)) fun n16 =>
 C18 x8 n0 n1 n2 n3 n4 n5 n6 n7 n8 n9 n10 n11 n12 n13 n14 n15 n16 h fun s0 h0 =>
 C15 x9 s0 (-1) 0 h0 fun b0 h1 =>
 Kn b0 h1
noncomputable def N5_j11_t : Xf := pieceT [(1, .c (.int .i64)), (2, .c (.slice)), (8, .c (.ptr)), (9, .c (.ptr)), (10, .c (.int .i64)), (11, .c (.ptr))] (codeAt B5 [1, 1, 1, 1, 1, 0, 1, 0, 0, 1, 0, 0, 1, 1, 0, 1, 0, 1, 1, 1, 0, 1, 1]) fun x h Q => N5_j11 x.1 x.2.1 x.2.2.1 x.2.2.2.1 x.2.2.2.2.1 x.2.2.2.2.2 h (fun o0 h' => Q .normal (Sg.env [(12, .c (.bool))] o0) h')
theorem N5_j11_ok : Sound Try.prog Try.f5.ntmps N5_j11_t (codeAt B5 [1, 1, 1, 1, 1, 0, 1, 0, 0, 1, 0, 0, 1, 1, 0, 1, 0, 1, 1, 1, 0, 1, 1]) := by
 refine piece_sound (fun e => match e with | .normal => [12] | _ => []) ?_
 intro x h Q hb
 refine den_sound hE hm _ .leaf _ _ _ (annOk_leaf) ?_
 refine cast ?_ hb
 kernel_rfl
def N5_l2_b (x1 : Int) (x2 : Sl) (x8 x9 : Option Addr) (Φ : Int → Hp → Prop) (x10 : Int) (h : Hp) (K0 : Hp → Prop) (Kr : Bool → Hp → Prop) : Prop :=
 bif (decide (x10 < ((x2.n : Nat) : Int))) then
 idx x10 x2.n <|
 nn x2.p fun a0 =>
 xI .i64 (cell h (a0.add (x10.toNat * 21))) fun n0 =>
 xI .i64 (cell h ((a0.add (x10.toNat * 21)).add 1)) fun n1 =>
 xI .u32 (cell h ((a0.add (x10.toNat * 21)).add 2)) fun n2 =>
 xI .u32 (cell h ((a0.add (x10.toNat * 21)).add 3)) fun n3 =>
 xL (cell h ((a0.add (x10.toNat * 21)).add 4)) fun s0 =>
 xI .i64 (cell h ((a0.add (x10.toNat * 21)).add 5)) fun n4 =>
 xI .u8 (cell h ((a0.add (x10.toNat * 21)).add 6)) fun n5 =>
 xI .u8 (cell h ((a0.add (x10.toNat * 21)).add 7)) fun n6 =>
 xI .u8 (cell h ((a0.add (x10.toNat * 21)).add 8)) fun n7 =>
 xI .u8 (cell h ((a0.add (x10.toNat * 21)).add 9)) fun n8 =>
 xI .u8 (cell h ((a0.add (x10.toNat * 21)).add 10)) fun n9 =>
 xI .u8 (cell h ((a0.add (x10.toNat * 21)).add 11)) fun n10 =>
 xI .u32 (cell h ((a0.add (x10.toNat * 21)).add 12)) fun n11 =>
 xI .u8 (cell h ((a0.add (x10.toNat * 21)).add 13)) fun n12 =>
 xI .u8 (cell h ((a0.add (x10.toNat * 21)).add 14)) fun n13 =>
 xI .u8 (cell h ((a0.add (x10.toNat * 21)).add 15)) fun n14 =>
 xI .u8 (cell h ((a0.add (x10.toNat * 21)).add 16)) fun n15 =>
 xI .u8 (cell h ((a0.add (x10.toNat * 21)).add 17)) fun n16 =>
 xI .u8 (cell h ((a0.add (x10.toNat * 21)).add 18)) fun n17 =>
 xI .u32 (cell h ((a0.add (x10.toNat * 21)).add 19)) fun n18 =>
 xI .u32 (cell h ((a0.add (x10.toNat * 21)).add 20)) fun n19 =>
 nw h (.cells ⟨[.int .i64 0, .int .i64 0, .int .u32 0, .int .u32 0, .slice none 0 0, .int .i64 0, .int .u8 0, .int .u8 0, .int .u8 0, .int .u8 0, .int .u8 0, .int .u8 0, .int .u32 0, .int .u8 0, .int .u8 0, .int .u8 0, .int .u8 0, .int .u8 0, .int .u8 0, .int .u32 0, .int .u32 0]⟩ 44) fun b0 h0 =>
 st h0 (bk b0) (.int .i64 n0) fun h1 =>
 st h1 ((bk b0).add 1) (.int .i64 n1) fun h2 =>
 st h2 ((bk b0).add 2) (.int .u32 n2) fun h3 =>
 st h3 ((bk b0).add 3) (.int .u32 n3) fun h4 =>
 st h4 ((bk b0).add 4) (.slice s0.p s0.n s0.c) fun h5 =>
 st h5 ((bk b0).add 5) (.int .i64 n4) fun h6 =>
 st h6 ((bk b0).add 6) (.int .u8 n5) fun h7 =>
 st h7 ((bk b0).add 7) (.int .u8 n6) fun h8 =>
 st h8 ((bk b0).add 8) (.int .u8 n7) fun h9 =>
 st h9 ((bk b0).add 9) (.int .u8 n8) fun h10 =>
 st h10 ((bk b0).add 10) (.int .u8 n9) fun h11 =>
 st h11 ((bk b0).add 11) (.int .u8 n10) fun h12 =>
 st h12 ((bk b0).add 12) (.int .u32 n11) fun h13 =>
 st h13 ((bk b0).add 13) (.int .u8 n12) fun h14 =>
 st h14 ((bk b0).add 14) (.int .u8 n13) fun h15 =>
 st h15 ((bk b0).add 15) (.int .u8 n14) fun h16 =>
 st h16 ((bk b0).add 16) (.int .u8 n15) fun h17 =>
 st h17 ((bk b0).add 17) (.int .u8 n16) fun h18 =>
 st h18 ((bk b0).add 18) (.int .u8 n17) fun h19 =>
 st h19 ((bk b0).add 19) (.int .u32 n18) fun h20 =>
 st h20 ((bk b0).add 20) (.int .u32 n19) fun h21 =>
 xI .i64 (cell h21 (bk b0)) fun n20 =>
 bif (n20 == 1) then
 xI .u32 (cell h21 ((bk b0).add 2)) fun n21 =>
 xI .u32 (cell h21 ((bk b0).add 3)) fun n22 =>
 xI .i64 (cell h21 ((bk b0).add 1)) fun n23 =>
 C13 (IntKind.wrap .u64 x10) 8 h21 fun s1 h22 =>
 both (xI .i64 (cell h22 ((bk b0).add 1)) fun n24 => Only (.int .i64 n23) h22 (.int .i64 n24) h22) <|
 both (xI .u32 (cell h22 ((bk b0).add 3)) fun n25 => Only (.int .u32 n22) h22 (.int .u32 n25) h22) <|
 both (xI .u32 (cell h22 ((bk b0).add 2)) fun n26 => Only (.int .u32 n21) h22 (.int .u32 n26) h22) <|
 C12 x8 n21 n22 s1 n23 h22 fun s2 h23 =>
 xI .u32 (cell h23 ((bk b0).add 3)) fun n27 =>
 C14 x9 n27 h23 fun n28 h24 =>
 bif (((s2.n : Nat) : Int) == 0) then
 N5_j3 x1 x2 x8 x9 x10 (some (bk b0)) s2 n28 (decide (n28 ≥ 0)) h24
 (fun h25 =>
 N5_j4 x1 x2 x8 x9 x10 (some (bk b0)) s2 n28 h25
 (fun b1 h26 =>
 N5_j7 x1 x2 x8 x9 x10 b1 h26
 (fun h27 =>
 Φ (IntKind.wrap .i64 (x10 + 1)) h27)
 (fun b2 h28 =>
 Kr b2 h28))
 (fun b3 h29 =>
 Kr b3 h29))
 else
 N5_j3 x1 x2 x8 x9 x10 (some (bk b0)) s2 n28 false h24
 (fun h30 =>
 N5_j4 x1 x2 x8 x9 x10 (some (bk b0)) s2 n28 h30
 (fun b4 h31 =>
 N5_j7 x1 x2 x8 x9 x10 b4 h31
 (fun h32 =>
 Φ (IntKind.wrap .i64 (x10 + 1)) h32)
 (fun b5 h33 =>
 Kr b5 h33))
 (fun b6 h34 =>
 Kr b6 h34))
 else
 bif (n20 == 2) then
 xI .u8 (cell h21 ((bk b0).add 6)) fun n29 =>
 xI .u8 (cell h21 ((bk b0).add 7)) fun n30 =>
 xI .u8 (cell h21 ((bk b0).add 8)) fun n31 =>
 xI .u8 (cell h21 ((bk b0).add 9)) fun n32 =>
 xI .u8 (cell h21 ((bk b0).add 10)) fun n33 =>
 xI .u8 (cell h21 ((bk b0).add 11)) fun n34 =>
 C16 n29 n30 n31 n32 n33 n34 h21 fun b7 h35 =>
 xI .i64 (cell h35 ((bk b0).add 5)) fun n35 =>
 bif (n35 == 1) then
 bif (!b7) then
 xI .u32 (cell h35 ((bk b0).add 12)) fun n36 =>
 xI .u32 (cell h35 ((bk b0).add 20)) fun n37 =>
 N5_j10 x1 x2 x8 x9 x10 (some (bk b0)) (n36 != n37) h35
 (fun h36 =>
 N5_j11 x1 x2 x8 x9 x10 (some (bk b0)) h36
 (fun b8 h37 =>
 N5_j7 x1 x2 x8 x9 x10 b8 h37
 (fun h38 =>
 Φ (IntKind.wrap .i64 (x10 + 1)) h38)
 (fun b9 h39 =>
 Kr b9 h39)))
 else
 N5_j10 x1 x2 x8 x9 x10 (some (bk b0)) false h35
 (fun h40 =>
 N5_j11 x1 x2 x8 x9 x10 (some (bk b0)) h40
 (fun b10 h41 =>
 N5_j7 x1 x2 x8 x9 x10 b10 h41
 (fun h42 =>
 Φ (IntKind.wrap .i64 (x10 + 1)) h42)
 (fun b11 h43 =>
 Kr b11 h43)))
 else
 xI .i64 (cell h35 ((bk b0).add 5)) fun n38 =>
 bif (n38 == 2) then
 bif (!b7) then
 xI .u32 (cell h35 ((bk b0).add 12)) fun n39 =>
 xI .u32 (cell h35 ((bk b0).add 20)) fun n40 =>
 N5_j10 x1 x2 x8 x9 x10 (some (bk b0)) (n39 != n40) h35
 (fun h44 =>
 N5_j11 x1 x2 x8 x9 x10 (some (bk b0)) h44
 (fun b12 h45 =>
 N5_j7 x1 x2 x8 x9 x10 b12 h45
 (fun h46 =>
 Φ (IntKind.wrap .i64 (x10 + 1)) h46)
 (fun b13 h47 =>
 Kr b13 h47)))
 else
 N5_j10 x1 x2 x8 x9 x10 (some (bk b0)) false h35
 (fun h48 =>
 N5_j11 x1 x2 x8 x9 x10 (some (bk b0)) h48
 (fun b14 h49 =>
 N5_j7 x1 x2 x8 x9 x10 b14 h49
 (fun h50 =>
 Φ (IntKind.wrap .i64 (x10 + 1)) h50)
 (fun b15 h51 =>
 Kr b15 h51)))
 else
 N5_j10 x1 x2 x8 x9 x10 (some (bk b0)) false h35
 (fun h52 =>
 N5_j11 x1 x2 x8 x9 x10 (some (bk b0)) h52
 (fun b16 h53 =>
 N5_j7 x1 x2 x8 x9 x10 b16 h53
 (fun h54 =>
 Φ (IntKind.wrap .i64 (x10 + 1)) h54)
 (fun b17 h55 =>
 Kr b17 h55)))
 else
 bif (n20 == 3) then
 xI .i64 (cell h21 ((bk b0).add 1)) fun n41 =>
 C19 x8 n41 h21 fun s3 h56 =>
 C15 x9 s3 (-1) 0 h56 fun b18 h57 =>
 N5_j7 x1 x2 x8 x9 x10 b18 h57
 (fun h58 =>
 Φ (IntKind.wrap .i64 (x10 + 1)) h58)
 (fun b19 h59 =>
 Kr b19 h59)
 else
 bif (n20 == 4) then
 C20 x8 h21 fun h60 =>
 nn x9 fun a1 =>
 st h60 a1 (.slice none 0 0) fun h61 =>
 N5_j7 x1 x2 x8 x9 x10 true h61
 (fun h62 =>
 Φ (IntKind.wrap .i64 (x10 + 1)) h62)
 (fun b20 h63 =>
 Kr b20 h63)
 else
 N5_j7 x1 x2 x8 x9 x10 true h21
 (fun h64 =>
 Φ (IntKind.wrap .i64 (x10 + 1)) h64)
 (fun b21 h65 =>
 Kr b21 h65)
 else
 K0 h
def N5_l2_B (x1 : Int) (x2 : Sl) (x8 x9 : Option Addr) (K0 : Hp → Prop) (Kr : Bool → Hp → Prop) (s : Sg.T [(10, .c (.int .i64))]) (h : Hp) (Φ : Sg.T [(10, .c (.int .i64))] → Hp → Prop) : Prop :=
 N5_l2_b x1 x2 x8 x9 (fun x10 h => Φ x10 h) s h K0 Kr
def N5_l2 (x1 : Int) (x2 : Sl) (x8 x9 : Option Addr) (x10 : Int) (h : Hp) (K0 : Hp → Prop) (Kr : Bool → Hp → Prop) : Prop :=
 loopP (N5_l2_B x1 x2 x8 x9 K0 Kr) x10 h
noncomputable def N5_l2_t : Xf := loopT [(1, .c (.int .i64)), (2, .c (.slice)), (8, .c (.ptr)), (9, .c (.ptr))] [(10, .c (.int .i64))] (codeAt B5 [1, 1, 1, 1, 1, 0, 1, 0, 0]) fun F Q => N5_l2_B F.1 F.2.1 F.2.2.1 F.2.2.2 (fun h' => Q (.exit 0) (Sg.env [] ()) h') (fun o0 h' => Q .ret (Sg.env [(6, .c (.bool))] o0) h')
theorem N5_l2_ok : Sound Try.prog Try.f5.ntmps N5_l2_t (codeAt B5 [1, 1, 1, 1, 1, 0, 1, 0]) := by
 refine loop_sound (fun e => match e with | .exit 0 => [] | .ret => [6] | _ => []) (by kernel_rfl) ?_
 intro F Q s h Φ hb
 refine den_sound hE hm _ (.two .leaf (.two (.one (.two .leaf (.two .leaf (.two (.two .leaf (.one (.two .leaf (.two (.two (.ord [0, 1, 2, 3, 4, 5, 6, 8, 9, 7, 10, 11]) (.two .leaf (.two (.two .leaf (.xf N5_j3_t)) (.xf N5_j4_t)))) (.two .leaf (.two (.two .leaf (.two (.two .leaf (.xf N5_j10_t)) (.xf N5_j11_t))) .leaf)))))) (.xf N5_j7_t))))) .leaf)) _ _ _ (⟨annOk_leaf, ⟨⟨annOk_leaf, ⟨annOk_leaf, ⟨⟨annOk_leaf, ⟨annOk_leaf, ⟨⟨trivial, ⟨annOk_leaf, ⟨⟨annOk_leaf, N5_j3_ok⟩, N5_j4_ok⟩⟩⟩, ⟨annOk_leaf, ⟨⟨annOk_leaf, ⟨⟨annOk_leaf, N5_j10_ok⟩, N5_j11_ok⟩⟩, annOk_leaf⟩⟩⟩⟩⟩, N5_j7_ok⟩⟩⟩, annOk_leaf⟩⟩) ?_
 refine cast ?_ hb
 kernel_rfl
def N5_j1 (x1 : Int) (x2 : Sl) (x8 : Option Addr) (h : Hp) (Kr : Bool → Hp → Prop) : Prop :=
 nw h (.cells ⟨[.slice none 0 0, .slice none 0 0]⟩ 50) fun b0 h0 =>
 N5_l2 x1 x2 x8 (some (bk b0)) 0 h0
 (fun h1 =>
 Kr true h1)
 (fun b1 h2 =>
 Kr b1 h2)
noncomputable def N5_j1_t : Xf := pieceT [(1, .c (.int .i64)), (2, .c (.slice)), (8, .c (.ptr))] (codeAt B5 [1, 1, 1, 1]) fun x h Q => N5_j1 x.1 x.2.1 x.2.2 h (fun o0 h' => Q .ret (Sg.env [(6, .c (.bool))] o0) h')
theorem N5_j1_ok : Sound Try.prog Try.f5.ntmps N5_j1_t (codeAt B5 [1, 1, 1, 1]) := by
 refine piece_sound (fun e => match e with | .ret => [6] | _ => []) ?_
 intro x h Q hb
 refine den_sound hE hm _ (.two .leaf (.two (.two .leaf (.one (.xf N5_l2_t))) .leaf)) _ _ _ (⟨annOk_leaf, ⟨⟨annOk_leaf, N5_l2_ok⟩, annOk_leaf⟩⟩) ?_
 refine cast ?_ hb
 kernel_rfl
def N5 (x0_0 x0_1 x0_2 x0_3 x0_4 x0_5 x1 : Int) (x2 : Sl) (h : Hp) (K : Bool → Hp → Prop) : Prop :=
 nw h (.cells ⟨[.int .u8 x0_0, .int .u8 x0_1, .int .u8 x0_2, .int .u8 x0_3, .int .u8 x0_4, .int .u8 x0_5]⟩ 24) fun b0 h0 =>
 C6 h0 fun b1 h1 =>
 xI .u8 (cell h1 (bk b0)) fun n0 =>
 xI .u8 (cell h1 ((bk b0).add 1)) fun n1 =>
 xI .u8 (cell h1 ((bk b0).add 2)) fun n2 =>
 xI .u8 (cell h1 ((bk b0).add 3)) fun n3 =>
 xI .u8 (cell h1 ((bk b0).add 4)) fun n4 =>
 xI .u8 (cell h1 ((bk b0).add 5)) fun n5 =>
 C7 n0 n1 n2 n3 n4 n5 x1 h1 fun p0 h2 =>
 bif (!b1) then
 N5_j0 x1 x2 b1 p0 true h2
 (fun h3 =>
 N5_j1 x1 x2 p0 h3
 (fun b2 h4 =>
 K b2 h4))
 (fun b3 h5 =>
 K b3 h5)
 else
 peq h2 p0 none fun b4 =>
 N5_j0 x1 x2 b1 p0 b4 h2
 (fun h6 =>
 N5_j1 x1 x2 p0 h6
 (fun b5 h7 =>
 K b5 h7))
 (fun b6 h8 =>
 K b6 h8)
theorem S5 {x0_0 x0_1 x0_2 x0_3 x0_4 x0_5 x1 : Int} {x2 : Sl} {h : Hp} {K : Bool → Hp → Prop} (hn : N5 x0_0 x0_1 x0_2 x0_3 x0_4 x0_5 x1 x2 h K) : C5 x0_0 x0_1 x0_2 x0_3 x0_4 x0_5 x1 x2 h K := by
 refine calls_of_D Try.func5 (c := B5) rfl (by kernel_rfl) ?_
 refine den_sound hE hm _ (.two .leaf (.two .leaf (.two .leaf (.two (.two .leaf (.xf N5_j0_t)) (.xf N5_j1_t))))) _ _ _ (⟨annOk_leaf, ⟨annOk_leaf, ⟨annOk_leaf, ⟨⟨annOk_leaf, N5_j0_ok⟩, N5_j1_ok⟩⟩⟩⟩) ?_
 refine cast ?_ hn
 kernel_rfl
end Go.Proofs.Ytkfccpabigikkaa

/-
 NeighWaits: the walk.
-/
set_option linter.unusedSimpArgs false
set_option linter.unusedVariables false
set_option maxRecDepth 4000
namespace Go.Proofs.Ytkfccpabigikkaa
open Go Go.Hw
theorem newC_most {c : Ca} {src ip : Int} {pk : List UInt8} : (newC c src ip pk).2.most = c.most := by unfold newC; split <;> rfl
theorem askC_most {c : Ca} {src ip : Int} {pk : List UInt8} : (askC c src ip pk).2.most = c.most := by
 unfold askC
 split
 ·exact newC_most
 ·split
  ·rfl
  ·split
   ·rfl
   ·exact newC_most
theorem learnC_most {c : Ca} {ip : Int} {mac : M6} {asks : Bool} : (learnC c ip mac asks).2.most = c.most := by
 unfold learnC
 split
 ·rfl
 ·split
  ·split <;> rfl
  ·rfl
theorem onC_most {c : Ca} {op si di own : Int} {s : M6} : (onC c op s si di own).2.most = c.most := by
 unfold onC
 split
 ·rfl
 ·dsimp only
  split
  ·exact learnC_most
  ·rfl
section
variable {L : List Asn} {h : Hp} {b sb : Nat} {c : Ca} {W : List Wt} {M : List Td}
theorem seen_new {L M : List Asn} {h : Hp} {F : Nat → Hp → Prop} (hs : Sat (L ++ M) h) (hF : ∀ k h', Sat (L ++ (M ++ [seenA k [] []])) h' → F k h') :
  nw h (.cells ⟨[.slice none 0 0, .slice none 0 0]⟩ 50) F := by
 intro kb e0
 have a1 := ((Sat.csa (hs.new e0 (.cells ⟨[.slice none 0 0, .slice none 0 0]⟩ 50 (0, 0)))).addNil 57 3).addNil 97 7
 revert a1
 generalize upd h kb _ = h1
 intro a1
 have a2 : Sat ((L ++ M) ++ [row kb 50 [Sl.v ⟨none, 0, 0⟩, Sl.v ⟨none, 0, 0⟩], Hw.own 57 3 ⟨none, 0, 0⟩ (([] : List Wt).flatMap wC), Hw.own 97 7 ⟨none, 0, 0⟩ (([] : List Td).flatMap tC)]) h1 := a1
 exact hF kb h1 (Sat.asc (seen_shut a2))
theorem take_wL {l : List NE} {k : Nat} {e : NE} (hk : l[k]? = some e) : wL (l.take (k + 1)) = wL (l.take k) ++ (if e.tries = 0 then [] else [wOf e]) := by
 have hkl := lt_of_get hk
 have he : l[k] = e := by have := List.getElem?_eq_getElem hkl; rw [hk] at this; cases this; rfl
 rw [List.take_succ_eq_append_getElem hkl, he]
 unfold wL
 rw [List.filter_append, List.map_append]
 by_cases ht : e.tries = 0
 ·simp [ht]
 ·simp [ht]
theorem w_look {most i : Int} {so : Sl} {K : Hp → Prop} {Kr : Bool → Hp → Prop} (hs : Sat (L ++ [cacheA b c, seenA sb W M]) h) (ho : c.ok) (hmo : c.most = most) (hg : GoodW c.l W) (hW : W.length ≤ 2000000)
  (hK : ∀ h', Sat (L ++ [cacheA b c, seenA sb (wL c.l) M]) h' → K h') : N5_j7 most so (some (bk b)) (some (bk sb)) i true h K Kr := by
 unfold N5_j7
 have g0 : Sat ((L ++ [seenA sb W M]) ++ [cacheA b c]) h := hs.part [1, 0] (by decide) rfl
 refine n_look g0 ho fun all h1 g1 => ?_
 have g2 : Sat ((L ++ [cacheA b c, Hw.own 68 11 all (nbs c.l)]) ++ [seenA sb W M]) h1 := (Sat.asc g1).part [1, 2, 0] (by decide) rfl
 obtain ⟨s, m, g3⟩ := seen_open g2
 have g4 : Sat (L ++ [cacheA b c, Hw.own 68 11 all (c.l.flatMap nbC), row sb 50 [Sl.v s, Sl.v m], Hw.own 57 3 s (W.flatMap wC), Hw.own 97 7 m (M.flatMap tC)]) h1 := Sat.asc g3
 have an := g4.elemN 1 rfl nbC_w (by decide)
 have sn := g4.elemN 3 rfl wC_w (by decide)
 have hl64 := ho.len
 have hm64 := ho.most
 rw [Bool.not_true, cond_false, show decide (((all.n : Nat) : Int) > most) = false from decide_eq_false (by omega), cond_false]
 have g5 := g4.addNil 57 3
 unfold N5_l8
 refine loopP_inv (fun (z : Sl × Int) hc => ∃ k : Nat, z.2 = k ∧ k ≤ c.l.length ∧ Sat (L ++ [cacheA b c, Hw.own 68 11 all (c.l.flatMap nbC), row sb 50 [Sl.v s, Sl.v m], Hw.own 57 3 s (W.flatMap wC), Hw.own 97 7 m (M.flatMap tC), Hw.own 57 3 z.1 ((wL (c.l.take k)).flatMap wC)]) hc) (fun z _ => c.l.length - z.2.toNat) ?_ ⟨0, rfl, Nat.zero_le _, g5⟩
 rintro ⟨acc, z⟩ hc ⟨k, hz, hk, g6⟩
 simp only at hz g6
 subst hz
 unfold N5_l8_B N5_l8_b
 dsimp only
 by_cases hlt : k < c.l.length
 ·rw [show decide ((k : Int) < ((all.n : Nat) : Int)) = true from decide_eq_true (by omega), cond_true]
  have hx : c.l[k]? = some c.l[k] := List.getElem?_eq_getElem hlt
  have hxm := List.getElem_mem hlt
  have hnx := take_wL hx
  have hprev : ∀ (j : Nat) (f : NE), j < k → c.l[j]? = some f → f.ip < c.l[k].ip := by
   intro j f hj hf
   have := List.pairwise_iff_getElem.1 ho.srt j k (by omega) hlt hj
   have e2 := List.getElem?_eq_getElem (l := c.l) (i := j) (by omega)
   rw [hf] at e2; cases e2; exact this
  generalize c.l[k] = e at hx hxm hnx hprev
  refine g6.elem 1 rfl nbC_w (by decide) hx rfl ?_
  intro r hr rd
  simp only [add_bk, Int.toNat_natCast]
  refine xI_of (rd (k := 0) rfl) ?_
  have gs : Sat ((L ++ [cacheA b c, Hw.own 68 11 all (c.l.flatMap nbC), Hw.own 57 3 acc ((wL (c.l.take k)).flatMap wC)]) ++ [row sb 50 [Sl.v s, Sl.v m], Hw.own 57 3 s (W.flatMap wC), Hw.own 97 7 m (M.flatMap tC)]) hc := g6.part [0, 1, 5, 2, 3, 4] (by decide) rfl
  have accn := g6.elemN 5 rfl wC_w (by decide)
  have accl : (wL (c.l.take k)).length ≤ 2000000 := by
   have := wL_len (c.l.take k)
   rw [List.length_take] at this; omega
  have nx : IntKind.wrap .i64 ((k : Int) + 1) = ((k + 1 : Nat) : Int) := nat_succ64 (by omega)
  -- the neighbour before
  have before : ∀ {X : Prop}, X → (bif decide ((k : Int) > 0) then idx (IntKind.wrap .i64 ((k : Int) - 1)) all.n (nn all.p fun a2 => xI .u32 (cell hc (a2.add ((IntKind.wrap .i64 ((k : Int) - 1)).toNat * 11))) fun n3 => idx (k : Int) all.n (nn all.p fun a3 => xI .u32 (cell hc (a3.add (k * 11))) fun n4 => bif decide (n3 ≥ n4) then Kr false hc else X)) else X) := by
   intro X hX
   by_cases hk0 : 0 < k
   ·rw [show decide ((k : Int) > 0) = true from decide_eq_true (by omega), cond_true]
    have e1 : IntKind.wrap .i64 ((k : Int) - 1) = ((k - 1 : Nat) : Int) := by rw [wi64i (by omega) (by omega)]; omega
    rw [e1]
    have hy : c.l[k - 1]? = some c.l[k - 1] := List.getElem?_eq_getElem (by omega)
    have hlt2 := hprev (k - 1) _ (by omega) hy
    refine g6.elem 1 rfl nbC_w (by decide) hy rfl ?_
    intro r2 hr2 rd2
    simp only [add_bk, Int.toNat_natCast]
    refine xI_of (rd2 (k := 0) rfl) ?_
    refine g6.elem 1 rfl nbC_w (by decide) hx rfl ?_
    intro r3 hr3 rd3
    simp only [add_bk]
    refine xI_of (rd3 (k := 0) rfl) ?_
    rw [show decide (c.l[k - 1].ip ≥ e.ip) = false from decide_eq_false (by omega), cond_false]
    exact hX
   ·rw [show decide ((k : Int) > 0) = false from decide_eq_false (by omega), cond_false]
    exact hX
  by_cases ht : e.tries = 0
  ·refine s_at (seen_shut gs) hW (fun _ => ?_) (fun j w hw => absurd hw.2.1 (hg.kn e hxm ht w (List.mem_of_getElem? hw.1)))
   refine g6.elem 1 rfl nbC_w (by decide) hx rfl ?_
   intro r2 hr2 rd2
   simp only [add_bk]
   simp only [add_mk]
   refine xI_of (n := 2) (by rw [rd2 (k := 7) rfl]; simp [ht]) ?_
   refine before ?_
   refine g6.elem 1 rfl nbC_w (by decide) hx rfl ?_
   intro r3 hr3 rd3
   simp only [add_bk]
   simp only [add_mk]
   refine xB_of (b := false) (by rw [rd3 (k := 10) rfl]; simp [ht]) ?_
   rw [show (!(((2 : Int) == 1) == false)) = false from rfl, cond_false, show (!(((2 : Int) == 1) == decide ((-1 : Int) ≥ 0))) = false from rfl, cond_false, show ((2 : Int) == 1) = false from rfl]
   unfold N5_j9
   rw [cond_false, nx]
   refine ⟨⟨k + 1, rfl, hlt, ?_⟩, by omega⟩
   rw [hnx, if_pos ht, List.append_nil]; exact g6
  ·have wom := hg.wt e hxm ht
   refine s_at (seen_shut gs) hW (fun hne => absurd rfl (hne _ wom)) (fun j w hw => ?_)
   have hjl := lt_of_get hw.1
   have hwe : w = wOf e := by
    obtain ⟨j2, hj2⟩ := List.mem_iff_getElem?.1 wom
    have := ds_ne hg.ds hw.1 hj2 hw.2.1
    subst this
    have := hw.1.symm.trans hj2
    cases this; rfl
   have hwj := hw.1
   rw [hwe] at hwj
   refine g6.elem 1 rfl nbC_w (by decide) hx rfl ?_
   intro r2 hr2 rd2
   simp only [add_bk]
   simp only [add_mk]
   refine xI_of (n := 1) (by rw [rd2 (k := 7) rfl]; simp [ht]) ?_
   refine before ?_
   refine g6.elem 1 rfl nbC_w (by decide) hx rfl ?_
   intro r3 hr3 rd3
   simp only [add_bk]
   simp only [add_mk]
   refine xB_of (b := true) (by rw [rd3 (k := 10) rfl]; simp [ht]) ?_
   rw [show (!(((1 : Int) == 1) == true)) = false from rfl, cond_false, show (!(((1 : Int) == 1) == decide ((j : Int) ≥ 0))) = false by simp, cond_false, show ((1 : Int) == 1) = true from rfl, cond_true]
   refine g6.elem 1 rfl nbC_w (by decide) hx rfl ?_
   intro r4 hr4 rd4
   simp only [add_bk, nn_some']
   simp only [add_mk]
   refine xI_of (n := e.tries) (rd4 (k := 9) rfl) ?_
   refine g6.lL 2 (k := 0) rfl rfl ?_
   refine g6.elem 3 rfl wC_w (by decide) hwj rfl ?_
   intro r5 hr5 rd5
   simp only [add_bk, Int.toNat_natCast]
   simp only [add_mk]
   refine xI_of (n := e.tries) (rd5 (k := 2) rfl) ?_
   rw [show (e.tries != e.tries) = false by simp, cond_false]
   unfold N5_j9
   rw [cond_true, nn_some', nx]
   refine g6.lL 2 (k := 0) rfl rfl ?_
   refine g6.elem 3 rfl wC_w (by decide) hwj rfl ?_
   intro r6 hr6 rd6
   simp only [add_bk, Int.toNat_natCast]
   simp only [add_mk]
   refine xI_of (rd6 (k := 0) rfl) ?_
   refine xI_of (rd6 (k := 1) rfl) ?_
   refine xI_of (rd6 (k := 2) rfl) ?_
   refine g6.push 5 rfl (k := 1) (ns := wC (wOf e)) wt_a wt_z rfl wC_plain ?_ ?_
   ·have : (acc.n + 1) * 2 * Try.prog.bytesOf 57 ≤ (acc.n + 1) * 2 * 32 := Nat.mul_le_mul_left _ wt_b
    omega
   ·intro acc' h2 g7 _
    refine ⟨⟨k + 1, rfl, hlt, ?_⟩, by omega⟩
    rw [hnx, if_neg ht, List.flatMap_append, List.flatMap_singleton]
    exact g7
 ·rw [show decide ((k : Int) < ((all.n : Nat) : Int)) = false from decide_eq_false (by omega), cond_false]
  have : k = c.l.length := by omega
  subst this
  rw [List.take_length] at g6
  simp only [nn_some']
  refine g6.st 2 (k := 0) rfl (by simp) rfl ?_
  intro h2 g7
  have g8 : Sat ((L ++ [cacheA b c]) ++ [row sb 50 [Sl.v acc, Sl.v m], Hw.own 57 3 acc ((wL c.l).flatMap wC), Hw.own 97 7 m (M.flatMap tC)]) h2 := Sat.csa (g7.sel [0, 2, 5, 4] (by decide) rfl) (A := [_])
  exact hK h2 (Sat.asc (seen_shut g8))
end
theorem heardC_len {op si own : Int} {s : M6} {M : List Td} : (heardC op s si own M).length ≤ M.length + 1 := by
 unfold heardC
 split
 ·unfold heardM
  have := List.length_filter_le (fun t : Td => t.1 != si) M
  rw [List.length_append, List.length_singleton]; omega
 ·omega
section
variable {L : List Asn} {h : Hp} {b sb z i : Nat} {c : Ca} {M : List Td} {o : OpN}
theorem w_on {most : Int} {so : Sl} {x : Bool} {B : Nat} {Kn : Hp → Prop} {Kr : Bool → Hp → Prop} (hs : Sat (L ++ [cacheA b c, seenA sb (wL c.l) M, row z 44 (opC o)]) h) (ho : c.ok) (hmo : c.most = most) (hv : InvW i c.l M) (hi : i ≤ 1048576) (hM : M.length ≤ 1048576) (hop : o.ok h B) (hx : x = hearsC o.op o.sm o.si o.own)
  (hK : ∀ c' M' h', c'.ok → c'.most = most → InvW (i + 1) c'.l M' → M'.length ≤ M.length + 1 → Sat (L ++ [cacheA b c', seenA sb (wL c'.l) M']) h' → Kn h') :
  N5_j10 most so (some (bk b)) (some (bk sb)) (i : Int) (some (bk z)) x h fun h1 => N5_j11 most so (some (bk b)) (some (bk sb)) (i : Int) (some (bk z)) h1 fun b1 h2 => N5_j7 most so (some (bk b)) (some (bk sb)) (i : Int) b1 h2 Kn Kr := by
 have hwl := wL_len c.l
 have hl64 := ho.len
 have hm64 := ho.most
 have rest : ∀ {h1 : Hp}, Sat (L ++ [cacheA b c, seenA sb (wL c.l) (heardC o.op o.sm o.si o.own M), row z 44 (opC o)]) h1 → N5_j11 most so (some (bk b)) (some (bk sb)) (i : Int) (some (bk z)) h1 fun b1 h2 => N5_j7 most so (some (bk b)) (some (bk sb)) (i : Int) b1 h2 Kn Kr := by
  intro h1 g
  have hc1 : (tellC c o.now).ok := ho.tell o.now
  obtain ⟨W2, q1, q2, q3, q4⟩ := onC_w (op := o.op) (si := o.si) (di := o.di) (own := o.own) (s := o.sm) (c := tellC c o.now) hc1 hv (by omega) hop.sm hop.si hop.di
  unfold N5_j11
  simp only [nn_some', add_bk]
  refine g.lI 2 rfl rfl ?_
  refine g.lI 2 rfl rfl ?_
  refine g.lI 2 rfl rfl ?_
  refine g.lI 2 rfl rfl ?_
  refine g.lI 2 rfl rfl ?_
  refine g.lI 2 rfl rfl ?_
  refine g.lI 2 rfl rfl ?_
  refine g.lI 2 rfl rfl ?_
  refine g.lI 2 rfl rfl ?_
  refine g.lI 2 rfl rfl ?_
  refine g.lI 2 rfl rfl ?_
  refine g.lI 2 rfl rfl ?_
  refine g.lI 2 rfl rfl ?_
  refine g.lI 2 rfl rfl ?_
  refine g.lI 2 rfl rfl ?_
  refine g.lI 2 rfl rfl ?_
  refine g.lI 2 rfl rfl ?_
  have g2 : Sat ((L ++ [seenA sb (wL c.l) (heardC o.op o.sm o.si o.own M)]) ++ [cacheA b c]) h1 := g.part [1, 0] (by decide) rfl
  refine n_on g2 ho hop.sm hop.si hop.di fun s2 h2 g3 => ?_
  have e1 : (onC (tellC c o.now) o.op o.sm o.si o.di o.own).2.most = most := by rw [onC_most]; exact hmo
  have hon := onC_ok hc1 (op := o.op) (si := o.si) (di := o.di) (own := o.own) hop.sm hop.si
  have hsh := onC_short hc1 (op := o.op) (si := o.si) (di := o.di) (own := o.own) (s := o.sm)
  generalize onC (tellC c o.now) o.op o.sm o.si o.di o.own = r at q1 q3 q4 g3 e1 hon hsh
  have g4 : Sat ((L ++ [cacheA b r.2]) ++ [seenA sb (wL c.l) (heardC o.op o.sm o.si o.own M), sndsA s2 r.1]) h2 := (Sat.asc g3).part [1, 0, 2] (by decide) rfl
  have hwl1 : (wL (tellC c o.now).l).length = (wL c.l).length := rfl
  have hhl := heardC_len (op := o.op) (s := o.sm) (si := o.si) (own := o.own) (M := M)
  refine c_right g4 q1 (by omega) (by omega) (by have := hsh.1; omega) fun h3 g5 => ?_
  refine w_look (Sat.asc g5) hon e1 q3 (by omega) fun h4 g6 => ?_
  exact hK r.2 _ h4 hon e1 q4.up hhl g6
 unfold N5_j10
 cases hh : hearsC o.op o.sm o.si o.own with
 | false =>
  rw [hx, hh, cond_false]
  refine rest ?_
  unfold heardC
  rw [hh, if_neg (by decide)]
  exact hs
 | true =>
  rw [hx, hh, cond_true]
  simp only [nn_some', add_bk]
  refine hs.lI 2 rfl rfl ?_
  refine hs.lI 2 rfl rfl ?_
  refine hs.lI 2 rfl rfl ?_
  refine hs.lI 2 rfl rfl ?_
  refine hs.lI 2 rfl rfl ?_
  refine hs.lI 2 rfl rfl ?_
  refine hs.lI 2 rfl rfl ?_
  refine hs.lI 2 rfl rfl ?_
  refine hs.lI 2 rfl rfl ?_
  refine hs.lI 2 rfl rfl ?_
  refine hs.lI 2 rfl rfl ?_
  refine hs.lI 2 rfl rfl ?_
  refine hs.lI 2 rfl rfl ?_
  refine hs.lI 2 rfl rfl ?_
  refine hs.lI 2 rfl rfl ?_
  have g2 : Sat ((L ++ [cacheA b c, row z 44 (opC o)]) ++ [seenA sb (wL c.l) M]) h := hs.part [0, 2, 1] (by decide) rfl
  refine s_hears g2 (by omega) fun h2 g3 => ?_
  refine rest ?_
  unfold heardC
  rw [hh, if_pos rfl]
  exact (Sat.asc g3).sel [0, 2, 1] (by decide) rfl
theorem w_ask {most : Int} {so out : Sl} {o2 : List Snd} {Kn : Hp → Prop} {Kr : Bool → Hp → Prop} {W : List Wt} (hs : Sat (L ++ [cacheA b c, seenA sb W M, row z 44 (opC o), sndsA out o2]) h) (ho : c.ok) (hmo : c.most = most) (hA : AskW M i o.ip W o2 c.l) (hW : W.length ≤ 64) (hi : i ≤ 1048576) (hM : M.length ≤ 1048576)
  (hK : ∀ h', Sat (L ++ [cacheA b c, seenA sb (wL c.l) M]) h' → Kn h') :
  C14 (some (bk sb)) o.ip h fun n h1 => bif (((out.n : Nat) : Int) == 0) then
    N5_j3 most so (some (bk b)) (some (bk sb)) (i : Int) (some (bk z)) out n (decide (n ≥ 0)) h1 fun h2 => N5_j4 most so (some (bk b)) (some (bk sb)) (i : Int) (some (bk z)) out n h2 (fun b1 h3 => N5_j7 most so (some (bk b)) (some (bk sb)) (i : Int) b1 h3 Kn Kr) Kr
   else
    N5_j3 most so (some (bk b)) (some (bk sb)) (i : Int) (some (bk z)) out n false h1 fun h2 => N5_j4 most so (some (bk b)) (some (bk sb)) (i : Int) (some (bk z)) out n h2 (fun b1 h3 => N5_j7 most so (some (bk b)) (some (bk sb)) (i : Int) b1 h3 Kn Kr) Kr := by
 have on := snds_n (Sat.csa hs (A := [_, _, _]))
 have hl64 := ho.len
 have hm64 := ho.most
 -- what was sent is right; then the look
 have fin : ∀ {h1 : Hp} {W1 W2 : List Wt}, Sat (L ++ [cacheA b c, seenA sb W1 M, row z 44 (opC o), sndsA out o2]) h1 → Right M i o.ip o2 W1 W2 → W1.length ≤ 100 → W2.length ≤ 100 → o2.length ≤ 100 → GoodW c.l W2 →
   N5_j6 most so (some (bk b)) (some (bk sb)) (i : Int) (some (bk z)) out h1 fun b1 h3 => N5_j7 most so (some (bk b)) (some (bk sb)) (i : Int) b1 h3 Kn Kr := by
  intro h1 W1 W2 g q1 q2 q3 q4 q5
  unfold N5_j6
  simp only [nn_some', add_bk]
  refine g.lI 2 rfl rfl ?_
  have g2 : Sat ((L ++ [cacheA b c]) ++ [seenA sb W1 M, sndsA out o2]) h1 := g.part [0, 1, 3] (by decide) rfl
  refine c_right g2 q1 (by omega) (by omega) (by omega) fun h2 g3 => ?_
  exact w_look (Sat.asc g3) ho hmo q5 (by omega) hK
 have gs : Sat ((L ++ [cacheA b c, row z 44 (opC o), sndsA out o2]) ++ [seenA sb W M]) h := hs.part [0, 2, 3, 1] (by decide) rfl
 have kind0 : ∀ {x : Snd} {h1 : Hp} {F : Int → Prop}, o2 = [x] → F x.kind → idx 0 out.n (nn out.p fun a0 => xI .i64 (cell h1 ((a0.add ((0 : Int).toNat * 8)).add 6)) fun n0 => F n0) ∨ h1 ≠ h := by
  intro x h1 F hx hF
  by_cases hh : h1 = h
  ·left
   subst hh
   obtain ⟨X, g, hX⟩ := snds_open (Sat.csa hs (A := [_, _, _]))
   rw [hx] at hX
   have hX0 : ∃ y, X = [y] ∧ y.1 = x := by
    cases X with
    | nil => cases hX
    | cons y X =>
     cases X with
     | nil => simp at hX; exact ⟨y, rfl, hX⟩
     | cons _ _ => simp at hX
   obtain ⟨y, rfl, hy⟩ := hX0
   refine g.elem 0 rfl sndC_w (by decide) (i := 0) (x := y) rfl rfl ?_
   intro r hr rd
   simp only [add_bk]
   simp only [add_mk]
   refine xI_of (n := y.1.kind) (rd (k := 6) rfl) ?_
   rw [hy]; exact hF
  ·exact .inr hh
 cases hA with
 | same hw hg =>
  rename_i k w
  have hn0 : out.n = 0 := on
  refine s_at gs (by omega) (fun hne => absurd hw.2.1 (hne w (List.mem_of_getElem? hw.1))) (fun k2 w2 hw2 => ?_)
  obtain ⟨rfl, rfl⟩ : k2 = k ∧ w2 = w := by
   have hk : k2 = k := by
    rcases Nat.lt_trichotomy k2 k with q | q | q
    ·refine absurd hw2.2.1 (hw.2.2 w2 (List.mem_of_getElem? (i := k2) ?_))
     rw [List.getElem?_take_of_lt q]; exact hw2.1
    ·exact q
    ·refine absurd hw.2.1 (hw2.2.2 w (List.mem_of_getElem? (i := k) ?_))
     rw [List.getElem?_take_of_lt q]; exact hw.1
   subst hk
   have := hw2.1.symm.trans hw.1
   cases this; exact ⟨rfl, rfl⟩
  rw [hn0, show ((((0 : Nat) : Int)) == 0) = true from rfl, cond_true, show decide ((k2 : Int) ≥ 0) = true from decide_eq_true (by omega)]
  unfold N5_j3
  rw [cond_true]
  obtain ⟨s, m, g⟩ := seen_open gs
  simp only [nn_some']
  refine g.lL 0 (k := 0) rfl rfl ?_
  have hk2 := lt_of_get hw.1
  have sn := g.elemN 1 rfl wC_w (by decide)
  refine g.elem 1 rfl wC_w (by decide) hw.1 rfl ?_
  intro r hr rd
  simp only [add_bk, Int.toNat_natCast]
  refine Sat.stE (k := 0) (x' := { w2 with n := (i : Int) }) g 1 rfl wC_w hw.1 (by decide) rfl rfl hr ?_
  intro h2 g2
  unfold N5_j4
  rw [hn0, show decide (((((0 : Nat) : Int))) > 0) = false from rfl, cond_false]
  unfold N5_j5
  rw [cond_false]
  have g3 : Sat ((L ++ [cacheA b c, row z 44 (opC o), sndsA out []]) ++ [seenA sb (W.set k2 { w2 with n := (i : Int) }) M]) h2 := seen_shut g2
  refine fin ((Sat.asc g3).sel [0, 3, 1, 2] (by decide) rfl) (Right.nil _) (by rw [List.length_set]; omega) (by rw [List.length_set]; omega) (by simp) hg
 | none hw hg =>
  have hn0 : out.n = 0 := on
  refine s_at gs (by omega) (fun _ => ?_) (fun k2 w2 hw2 => absurd hw2.2.1 (hw w2 (List.mem_of_getElem? hw2.1)))
  rw [hn0, show ((((0 : Nat) : Int)) == 0) = true from rfl, cond_true, show decide ((-1 : Int) ≥ 0) = false from rfl]
  unfold N5_j3
  rw [cond_false]
  show N5_j4 _ _ _ _ _ _ _ _ _ _ _
  unfold N5_j4
  rw [hn0, show decide (((((0 : Nat) : Int))) > 0) = false from rfl, cond_false]
  unfold N5_j5
  rw [cond_false]
  exact fin hs (Right.nil _) (by omega) (by omega) (by simp) hg
 | now hx hr hg =>
  rename_i x
  have hn0 : out.n = 1 := on
  have go : ∀ {n : Int}, (bif (((out.n : Nat) : Int) == 0) then
    N5_j3 most so (some (bk b)) (some (bk sb)) (i : Int) (some (bk z)) out n (decide (n ≥ 0)) h fun h2 => N5_j4 most so (some (bk b)) (some (bk sb)) (i : Int) (some (bk z)) out n h2 (fun b1 h3 => N5_j7 most so (some (bk b)) (some (bk sb)) (i : Int) b1 h3 Kn Kr) Kr
   else
    N5_j3 most so (some (bk b)) (some (bk sb)) (i : Int) (some (bk z)) out n false h fun h2 => N5_j4 most so (some (bk b)) (some (bk sb)) (i : Int) (some (bk z)) out n h2 (fun b1 h3 => N5_j7 most so (some (bk b)) (some (bk sb)) (i : Int) b1 h3 Kn Kr) Kr) := by
   intro n
   rw [hn0, show ((((1 : Nat) : Int)) == 0) = false from rfl, cond_false]
   unfold N5_j3
   rw [cond_false]
   show N5_j4 _ _ _ _ _ _ _ _ _ _ _
   unfold N5_j4
   rw [hn0, show decide (((((1 : Nat) : Int))) > 0) = true from rfl, cond_true]
   rw [← hn0]
   refine (kind0 (x := x) (h1 := h) rfl ?_).resolve_right (fun q => q rfl)
   rw [hx, show ((2048 : Int) == 2054) = false from rfl]
   unfold N5_j5
   rw [cond_false]
   exact fin hs hr (by omega) (by omega) (by simp) hg
  exact s_at gs (by omega) (fun _ => go) (fun _ _ _ => go)
 | new hx hw hr hl hg =>
  rename_i x W2
  have hn0 : out.n = 1 := on
  refine s_at gs (by omega) (fun _ => ?_) (fun k2 w2 hw2 => absurd hw2.2.1 (hw w2 (List.mem_of_getElem? hw2.1)))
  rw [hn0, show ((((1 : Nat) : Int)) == 0) = false from rfl, cond_false]
  unfold N5_j3
  rw [cond_false]
  show N5_j4 _ _ _ _ _ _ _ _ _ _ _
  unfold N5_j4
  rw [hn0, show decide (((((1 : Nat) : Int))) > 0) = true from rfl, cond_true]
  rw [← hn0]
  refine (kind0 (x := x) (h1 := h) rfl ?_).resolve_right (fun q => q rfl)
  rw [hx, show ((2054 : Int) == 2054) = true from rfl]
  unfold N5_j5
  rw [cond_true, show decide ((-1 : Int) ≥ 0) = false from rfl, cond_false]
  obtain ⟨s, m, g⟩ := seen_open gs
  have g1 : Sat (L ++ [row z 44 (opC o), row sb 50 [Sl.v s, Sl.v m], Hw.own 57 3 s (W.flatMap wC), Hw.own 97 7 m (M.flatMap tC), cacheA b c, sndsA out [x]]) h := (Sat.asc g).sel [1, 3, 4, 5, 0, 2] (by decide) rfl
  simp only [nn_some', add_bk]
  refine g1.lL 1 (k := 0) rfl rfl ?_
  refine g1.lI 0 rfl rfl ?_
  have sn := g1.elemN 2 rfl wC_w (by decide)
  intro b0 e0
  refine ⟨Sat.lL (g1.ext (Ext.new e0)) 1 (k := 0) rfl rfl ⟨rfl, rfl⟩, ?_⟩
  revert e0 b0
  refine g1.push 2 rfl (k := 1) (ns := wC ⟨(i : Int), o.ip, 0⟩) wt_a wt_z rfl wC_plain ?_ ?_
  ·have : (s.n + 1) * 2 * Try.prog.bytesOf 57 ≤ (s.n + 1) * 2 * 32 := Nat.mul_le_mul_left _ wt_b
   show (s.n + 1) * 2 * Try.prog.bytesOf 57 ≤ _
   omega
  ·intro s2 h2 g2 _
   refine g2.st 1 (k := 0) rfl (by simp) rfl ?_
   intro h3 g3
   have g4 : Sat ((L ++ [row z 44 (opC o), cacheA b c, sndsA out [x]]) ++ [row sb 50 [Sl.v s2, Sl.v m], Hw.own 57 3 s2 ((W ++ [(⟨(i : Int), o.ip, 0⟩ : Wt)]).flatMap wC), Hw.own 97 7 m (M.flatMap tC)]) h3 := by
    rw [List.flatMap_append, List.flatMap_singleton]
    exact g3.part [0, 4, 5, 1, 2, 3] (by decide) rfl
   refine fin ((Sat.asc (seen_shut g4)).sel [1, 3, 0, 2] (by decide) rfl) hr (by rw [List.length_append, List.length_singleton]; omega) (by omega) (by simp) hg
end
theorem putL8 (n : Nat) : putL n 8 = be n 8 := by unfold putL; rw [if_neg (by omega)]; rfl
set_option maxHeartbeats 4000000 in
theorem c_waits {own : M6} {most : Int} {so : Sl} {ops : List OpN} {h : Hp} {K : Bool → Hp → Prop} (hm : own.ok) (H : RdE h so opC ops) (hl : ops.length ≤ 1048576) (hop : ∀ o ∈ ops, o.ok h 1048576) (hK : ∀ h', Ext none' h h' → K true h') : C5 own.a own.b own.c own.d own.e own.f most so h K := by
 apply S5; unfold N5
 have hs0 : Sat ([Hw.was h] ++ []) h := Sat.start
 refine hs0.nw ?_
 intro z h1 g0 _
 have g0 : Sat ([Hw.was h] ++ [row z 24 [.int .u8 own.a, .int .u8 own.b, .int .u8 own.c, .int .u8 own.d, .int .u8 own.e, .int .u8 own.f]]) h1 := g0
 refine c_live fun h2 he2 => ?_
 have g1 := g0.ext he2
 have was_ : ∀ {M : List Asn} {h' : Hp}, Sat ([Hw.was h] ++ M) h' → Ext none' h h' := fun g => g.left.was (L := []) (M := [Hw.was h]) 0 rfl
 simp only [add_bk]
 refine g1.lI 0 (k := 0) rfl rfl ?_
 refine g1.lI 0 rfl rfl ?_
 refine g1.lI 0 rfl rfl ?_
 refine g1.lI 0 rfl rfl ?_
 refine g1.lI 0 rfl rfl ?_
 refine g1.lI 0 rfl rfl ?_
 simp only [Bool.not_true, cond_false]
 refine n_new g1 ?_ ?_
 ·intro hn h3 g2
  simp only [peq_none, Option.isNone_none]
  unfold N5_j0
  simp only [cond_true]
  rcases hn with q | q
  ·rw [show decide (most < 1) = true from decide_eq_true q, cond_true]; exact hK h3 (was_ g2)
  ·rw [show decide (most < 1) = false from decide_eq_false (by omega), cond_false, show decide (most > 64) = true from decide_eq_true q]; exact hK h3 (was_ g2)
 ·intro hmo b h3 g2
  simp only [peq_none, Option.isNone_some]
  unfold N5_j0
  simp only [cond_false]
  unfold N5_j1
  have g3 : Sat ([Hw.was h] ++ [cacheA b ⟨own, most, [], 0⟩]) h3 := g2.sel [1] (by decide) rfl
  refine seen_new g3 fun sb h4 g4 => ?_
  unfold N5_l2
  have hn := H.n
  have ok0 : (⟨own, most, [], 0⟩ : Ca).ok := ⟨hm, hmo, List.Pairwise.nil, (by intro e he; cases he), (by simp only [List.length_nil]; omega), by dsimp only; exact ⟨by decide, by decide⟩⟩
  have inv0 : InvW 0 ([] : List NE) [] := ⟨(by intro e he; cases he), (by intro e he; cases he), (by intro e he; cases he)⟩
  refine loopP_inv (fun (x : Int) hc => ∃ (i : Nat) (c : Ca) (M : List Td), x = i ∧ i ≤ ops.length ∧ c.ok ∧ c.most = most ∧ InvW i c.l M ∧ M.length ≤ i ∧ Sat ([Hw.was h] ++ [cacheA b c, seenA sb (wL c.l) M]) hc) (fun x _ => ops.length - x.toNat) ?_ ⟨0, _, [], rfl, Nat.zero_le _, ok0, rfl, inv0, Nat.le_refl _, g4⟩
  rintro x hc ⟨i, c, M, rfl, hi, hco, hcm, hv, hM, g5⟩
  unfold N5_l2_B N5_l2_b
  dsimp only
  by_cases hlt : i < ops.length
  ·rw [show decide ((i : Int) < ((so.n : Nat) : Int)) = true from decide_eq_true (by omega), cond_true]
   have hx : ops[i]? = some ops[i] := List.getElem?_eq_getElem hlt
   have hoi := hop _ (List.getElem_mem hlt)
   generalize ops[i] = o at hx hoi
   refine (H.ext (was_ g5)).elem opC_w (by decide) hx rfl ?_
   intro a ha rd0 rd
   simp only [Int.toNat_natCast]
   refine xI_of (rd0 rfl) ?_
   refine xI_of (rd rfl) ?_
   refine xI_of (rd rfl) ?_
   refine xI_of (rd rfl) ?_
   refine xL_of (s := o.s) (rd rfl) ?_
   refine xI_of (rd rfl) ?_
   refine xI_of (rd rfl) ?_
   refine xI_of (rd rfl) ?_
   refine xI_of (rd rfl) ?_
   refine xI_of (rd rfl) ?_
   refine xI_of (rd rfl) ?_
   refine xI_of (rd rfl) ?_
   refine xI_of (rd rfl) ?_
   refine xI_of (rd rfl) ?_
   refine xI_of (rd rfl) ?_
   refine xI_of (rd rfl) ?_
   refine xI_of (rd rfl) ?_
   refine xI_of (rd rfl) ?_
   refine xI_of (rd rfl) ?_
   refine xI_of (rd rfl) ?_
   refine xI_of (rd rfl) ?_
   refine g5.nw ?_
   intro z h6 g6 _
   have hs := g6
   simp only [List.cons_append, List.nil_append] at hs
   simp only [add_bk]
   refine Sat.st (L := [Hw.was h]) hs 2 rfl (by simp) rfl fun h7 hs => ?_
   simp only [List.set_cons_zero, List.set_cons_succ] at hs
   refine Sat.st hs 2 rfl (by simp) rfl fun h7 hs => ?_
   simp only [List.set_cons_zero, List.set_cons_succ] at hs
   refine Sat.st hs 2 rfl (by simp) rfl fun h7 hs => ?_
   simp only [List.set_cons_zero, List.set_cons_succ] at hs
   refine Sat.st hs 2 rfl (by simp) rfl fun h7 hs => ?_
   simp only [List.set_cons_zero, List.set_cons_succ] at hs
   refine Sat.st hs 2 rfl (by simp) rfl fun h7 hs => ?_
   simp only [List.set_cons_zero, List.set_cons_succ] at hs
   refine Sat.st hs 2 rfl (by simp) rfl fun h7 hs => ?_
   simp only [List.set_cons_zero, List.set_cons_succ] at hs
   refine Sat.st hs 2 rfl (by simp) rfl fun h7 hs => ?_
   simp only [List.set_cons_zero, List.set_cons_succ] at hs
   refine Sat.st hs 2 rfl (by simp) rfl fun h7 hs => ?_
   simp only [List.set_cons_zero, List.set_cons_succ] at hs
   refine Sat.st hs 2 rfl (by simp) rfl fun h7 hs => ?_
   simp only [List.set_cons_zero, List.set_cons_succ] at hs
   refine Sat.st hs 2 rfl (by simp) rfl fun h7 hs => ?_
   simp only [List.set_cons_zero, List.set_cons_succ] at hs
   refine Sat.st hs 2 rfl (by simp) rfl fun h7 hs => ?_
   simp only [List.set_cons_zero, List.set_cons_succ] at hs
   refine Sat.st hs 2 rfl (by simp) rfl fun h7 hs => ?_
   simp only [List.set_cons_zero, List.set_cons_succ] at hs
   refine Sat.st hs 2 rfl (by simp) rfl fun h7 hs => ?_
   simp only [List.set_cons_zero, List.set_cons_succ] at hs
   refine Sat.st hs 2 rfl (by simp) rfl fun h7 hs => ?_
   simp only [List.set_cons_zero, List.set_cons_succ] at hs
   refine Sat.st hs 2 rfl (by simp) rfl fun h7 hs => ?_
   simp only [List.set_cons_zero, List.set_cons_succ] at hs
   refine Sat.st hs 2 rfl (by simp) rfl fun h7 hs => ?_
   simp only [List.set_cons_zero, List.set_cons_succ] at hs
   refine Sat.st hs 2 rfl (by simp) rfl fun h7 hs => ?_
   simp only [List.set_cons_zero, List.set_cons_succ] at hs
   refine Sat.st hs 2 rfl (by simp) rfl fun h7 hs => ?_
   simp only [List.set_cons_zero, List.set_cons_succ] at hs
   refine Sat.st hs 2 rfl (by simp) rfl fun h7 hs => ?_
   simp only [List.set_cons_zero, List.set_cons_succ] at hs
   refine Sat.st hs 2 rfl (by simp) rfl fun h7 hs => ?_
   simp only [List.set_cons_zero, List.set_cons_succ] at hs
   refine Sat.st hs 2 rfl (by simp) rfl fun h7 hs => ?_
   simp only [List.set_cons_zero, List.set_cons_succ] at hs
   have g7 : Sat ([Hw.was h] ++ [cacheA b c, seenA sb (wL c.l) M, row z 44 (opC o)]) h7 := hs
   clear hs g6
   have nx : IntKind.wrap .i64 ((i : Int) + 1) = ((i + 1 : Nat) : Int) := nat_succ64 (by omega)
   have next : ∀ {c' : Ca} {M' : List Td} {h' : Hp}, c'.ok → c'.most = most → InvW (i + 1) c'.l M' → M'.length ≤ M.length + 1 → Sat ([Hw.was h] ++ [cacheA b c', seenA sb (wL c'.l) M']) h' →
     (∃ (k : Nat) (c : Ca) (M : List Td), IntKind.wrap .i64 ((i : Int) + 1) = k ∧ k ≤ ops.length ∧ c.ok ∧ c.most = most ∧ InvW k c.l M ∧ M.length ≤ k ∧ Sat ([Hw.was h] ++ [cacheA b c, seenA sb (wL c.l) M]) h') ∧ ops.length - (IntKind.wrap .i64 ((i : Int) + 1)).toNat < ops.length - ((i : Nat) : Int).toNat := by
    intro c' M' h' q1 q2 q3 q4 q5
    rw [nx]
    exact ⟨⟨i + 1, c', M', rfl, hlt, q1, q2, q3, by omega, q5⟩, by omega⟩
   have hwl := wL_len c.l
   have hl64 := hco.len
   have hm64 := hco.most
   have ho' : ∀ {h' : Hp} {M : List Asn}, Sat ([Hw.was h] ++ M) h' → o.ok h' 1048576 := fun g => ⟨hoi.src, hoi.ip, hoi.rd.ext (was_ g), hoi.pk, hoi.sm, hoi.si, hoi.di⟩
   refine g7.lI 2 (k := 0) rfl rfl ?_
   by_cases k1 : o.kind = 1
   ·rw [show (o.kind == 1) = true by simp [k1], cond_true]
    refine g7.lI 2 rfl rfl ?_
    refine g7.lI 2 rfl rfl ?_
    refine g7.lI 2 rfl rfl ?_
    rw [show IntKind.wrap .u64 (i : Int) = (i : Int) from wu64i (by omega) (by omega)]
    refine c_Put (by omega) (by omega) fun h8 p hp => ?_
    rw [Int.toNat_natCast, putL8] at hp
    have g8 := g7.addNew hp
    have g8 : Sat ([Hw.was h] ++ [cacheA b c, seenA sb (wL c.l) M, row z 44 (opC o), Hw.own 5 1 p (bc (be i 8))]) h8 := g8
    refine ⟨g8.lI 2 rfl rfl ⟨rfl, rfl⟩, ?_⟩
    refine ⟨g8.lI 2 rfl rfl ⟨rfl, rfl⟩, ?_⟩
    refine ⟨g8.lI 2 rfl rfl ⟨rfl, rfl⟩, ?_⟩
    have g9 : Sat (([Hw.was h] ++ [seenA sb (wL c.l) M, row z 44 (opC o), Hw.own 5 1 p (bc (be i 8))]) ++ [cacheA b c]) h8 := g8.part [1, 2, 3, 0] (by decide) rfl
    refine n_ask g9 hco (fun h' g => (g.own 2 rfl).rdb) (by rw [be_len]; omega) hoi.src hoi.ip fun s2 h9 g10 => ?_
    have g10 : Sat ([Hw.was h] ++ [seenA sb (wL c.l) M, row z 44 (opC o), Hw.own 5 1 p (bc (be i 8)), cacheA b (askC (tellC c o.now) o.src o.ip (be i 8)).2, sndsA s2 (askC (tellC c o.now) o.src o.ip (be i 8)).1]) h9 := Sat.asc g10
    have hc1 := hco.tell o.now
    obtain ⟨q1, q2⟩ := askC_w (c := tellC c o.now) (src := o.src) (ip := o.ip) hc1 hv (by omega) hoi.src hoi.ip
    have e1 : (askC (tellC c o.now) o.src o.ip (be i 8)).2.most = most := by rw [askC_most]; exact hcm
    have hon := askC_ok hc1 (src := o.src) (ip := o.ip) (pk := be i 8) hoi.src hoi.ip (by rw [be_len]; omega)
    generalize askC (tellC c o.now) o.src o.ip (be i 8) = r at q1 q2 e1 hon g10
    refine g10.lI 1 rfl rfl ?_
    exact w_ask (g10.sel [3, 0, 1, 4] (by decide) rfl) hon e1 q1 (by show (wL c.l).length ≤ 64; omega) (by omega) (by omega) fun h' g => next hon e1 q2 (by omega) g
   ·rw [show (o.kind == 1) = false by simp [k1], cond_false]
    by_cases k2 : o.kind = 2
    ·rw [show (o.kind == 2) = true by simp [k2], cond_true]
     refine g7.lI 2 rfl rfl ?_
     refine g7.lI 2 rfl rfl ?_
     refine g7.lI 2 rfl rfl ?_
     refine g7.lI 2 rfl rfl ?_
     refine g7.lI 2 rfl rfl ?_
     refine g7.lI 2 rfl rfl ?_
     refine c_Group hoi.sm.1.1 fun h8 he8 => ?_
     have g8 := g7.ext he8
     have on_ : ∀ {x : Bool}, x = hearsC o.op o.sm o.si o.own → _ := fun {x} hx => w_on (most := most) (so := so) (x := x) (Kn := fun h' => (∃ (k : Nat) (c : Ca) (M : List Td), IntKind.wrap .i64 ((i : Int) + 1) = k ∧ k ≤ ops.length ∧ c.ok ∧ c.most = most ∧ InvW k c.l M ∧ M.length ≤ k ∧ Sat ([Hw.was h] ++ [cacheA b c, seenA sb (wL c.l) M]) h') ∧ ops.length - (IntKind.wrap .i64 ((i : Int) + 1)).toNat < ops.length - ((i : Nat) : Int).toNat) (Kr := K) g8 hco hcm hv (by omega) (by omega) (ho' g8) hx fun c' M' h' q1 q2 q3 q4 q5 => next q1 q2 q3 q4 q5
     refine g8.lI 2 rfl rfl ?_
     by_cases o1 : o.op = 1
     ·rw [show (o.op == 1) = true by simp [o1], cond_true]
      cases hgr : (o.sm.a % 2 == 1) with
      | false =>
       rw [Bool.not_false, cond_true]
       refine g8.lI 2 rfl rfl ?_
       refine g8.lI 2 rfl rfl ?_
       exact on_ (by simp [hearsC, o1, hgr])
      | true =>
       rw [Bool.not_true, cond_false]
       exact on_ (by simp [hearsC, hgr])
     ·rw [show (o.op == 1) = false by simp [o1], cond_false]
      refine g8.lI 2 rfl rfl ?_
      by_cases o2 : o.op = 2
      ·rw [show (o.op == 2) = true by simp [o2], cond_true]
       cases hgr : (o.sm.a % 2 == 1) with
       | false =>
        rw [Bool.not_false, cond_true]
        refine g8.lI 2 rfl rfl ?_
        refine g8.lI 2 rfl rfl ?_
        exact on_ (by simp [hearsC, o2, hgr])
       | true =>
        rw [Bool.not_true, cond_false]
        exact on_ (by simp [hearsC, hgr])
      ·rw [show (o.op == 2) = false by simp [o2], cond_false]
       exact on_ (by simp [hearsC, o1, o2])
    ·rw [show (o.kind == 2) = false by simp [k2], cond_false]
     by_cases k3 : o.kind = 3
     ·rw [show (o.kind == 3) = true by simp [k3], cond_true]
      refine g7.lI 2 rfl rfl ?_
      have g8 : Sat (([Hw.was h] ++ [seenA sb (wL c.l) M]) ++ [cacheA b c]) h7 := g7.part [1, 0] (by decide) rfl
      refine n_tick g8 hco fun s2 h9 g9 => ?_
      have hc1 := hco.tell o.now
      obtain ⟨W2, q1, q2, q3, q4⟩ := tickC_w (c := tellC c o.now) hc1 hv
      have e1 : (tickC (tellC c o.now)).2.most = most := hcm
      have hon := tickC_ok hc1
      have hsh := tickC_short hc1
      have q2 : W2.length = (wL c.l).length := q2
      have q1 : Right M (-1) 0 (tickC (tellC c o.now)).1 (wL c.l) W2 := q1
      generalize tickC (tellC c o.now) = r at q1 q3 q4 e1 hon hsh g9
      have g10 : Sat (([Hw.was h] ++ [cacheA b r.2]) ++ [seenA sb (wL c.l) M, sndsA s2 r.1]) h9 := (Sat.asc g9).part [1, 0, 2] (by decide) rfl
      refine c_right g10 q1 (by omega) (by omega) (by have := hsh.1; omega) fun h10 g11 => ?_
      exact w_look (Sat.asc g11) hon e1 q3 (by omega) fun h11 g12 => next hon e1 q4.up (by omega) g12
     ·rw [show (o.kind == 3) = false by simp [k3], cond_false]
      by_cases k4 : o.kind = 4
      ·rw [show (o.kind == 4) = true by simp [k4], cond_true]
       have g8 : Sat (([Hw.was h] ++ [seenA sb (wL c.l) M]) ++ [cacheA b c]) h7 := g7.part [1, 0] (by decide) rfl
       refine n_clear g8 fun h9 g9 => ?_
       have g10 : Sat (([Hw.was h] ++ [cacheA b { c with l := [] }]) ++ [seenA sb (wL c.l) M]) h9 := (Sat.asc g9).part [1, 0] (by decide) rfl
       obtain ⟨s, m, g11⟩ := seen_open g10
       simp only [nn_some']
       have hok : ({ c with l := [] } : Ca).ok := hco.sub List.Pairwise.nil (by intro e he; cases he) (by simp only [List.length_nil]; omega)
       refine g11.st 0 (k := 0) rfl (by simp) rfl ?_
       intro h10 g12
       have g13 := g12.addNil 57 3
       have g14 : Sat (([Hw.was h] ++ [cacheA b { c with l := [] }]) ++ [row sb 50 [Sl.v ⟨none, 0, 0⟩, Sl.v m], Hw.own 57 3 ⟨none, 0, 0⟩ (([] : List Wt).flatMap wC), Hw.own 97 7 m (M.flatMap tC)]) h10 := g13.sel [0, 3, 2] (by decide) rfl
       have hg0 : GoodW ([] : List NE) [] := ⟨List.Pairwise.nil, (by intro e he; cases he), (by intro e he; cases he)⟩
       exact w_look (c := { c with l := [] }) (Sat.asc (seen_shut g14)) hok hcm hg0 (by simp) fun h11 g15 => next (c' := { c with l := [] }) hok hcm ⟨(by intro e he; cases he), (by intro e he; cases he), (by intro e he; cases he)⟩ (by omega) g15
      ·rw [show (o.kind == 4) = false by simp [k4], cond_false]
       exact w_look (g7.sel [0, 1] (by decide) rfl) hco hcm (good_wL hco.srt) (by omega) fun h11 g15 => next hco hcm hv.up (by omega) g15
  ·rw [show decide ((i : Int) < ((so.n : Nat) : Int)) = false from decide_eq_false (by omega), cond_false]
   exact hK _ (was_ g5)
end Go.Proofs.Ytkfccpabigikkaa
