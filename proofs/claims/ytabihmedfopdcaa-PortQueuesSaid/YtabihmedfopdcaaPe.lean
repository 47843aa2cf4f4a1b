/-
  Ports: the document's calls, and what compares.
-/
import Derived.Test.YtabihmedfopdcaaPd
import Derived.Test.YtabihmedfopdcaaPc
import Derived.HandedShaped
import Derived.JoinedOf
import Derived.LaidSub
set_option linter.unusedSimpArgs false
set_option linter.unusedVariables false
set_option maxRecDepth 20000
namespace Go.Proofs.Ytabihmedfopdcaa
open Go Go.Hw

theorem dec_lt {i n : Nat} (h : i < n) : decide ((i : Int) < (n : Int)) = true := by simpa using h
theorem dec_ge {i n : Nat} (h : ¬ i < n) : decide ((i : Int) < (n : Int)) = false := by simpa using h

theorem c_RNew {L M : List Asn} {most depth : Int} {h : Hp} {K : Option Addr → Hp → Prop} (hs : Sat (L ++ M) h)
    (hno : ¬ ((1 ≤ most ∧ most ≤ 16) ∧ 1 ≤ depth ∧ depth ≤ 32) → K none h)
    (hK : (1 ≤ most ∧ most ≤ 16) ∧ 1 ≤ depth ∧ depth ≤ 32 → ∀ b h', Sat (L ++ (M ++ [refP b ⟨most, depth, []⟩])) h' → K (some (bk b)) h') : C18 most depth h K := by
  apply S18; unfold N18
  by_cases e1 : most < 1
  · simp only [e1, decide_true, cond_true]; exact hno (by omega)
  by_cases e2 : most > 16
  · simp only [e1, e2, decide_true, decide_false, cond_true, cond_false]; exact hno (by omega)
  by_cases e3 : depth < 1
  · simp only [e1, e2, e3, decide_true, decide_false, cond_true, cond_false]; exact hno (by omega)
  by_cases e4 : depth > 32
  · simp only [e1, e2, e3, e4, decide_true, decide_false, cond_true, cond_false]; exact hno (by omega)
  simp only [e1, e2, e3, e4, decide_false, cond_false]
  intro b e5
  have hs2 := Sat.csa (hs.new e5 (.cells ⟨[.slice none 0 0, .int .i64 most, .int .i64 depth]⟩ 96 (0, 0)))
  refine hK ⟨⟨by omega, by omega⟩, by omega, by omega⟩ b _ ?_
  have hs3 := hs2.addNil 110 1
  have g1 : Sat (((L ++ M) ++ [row b 96 [(⟨none, 0, 0⟩ : Sl).v, .int .i64 most, .int .i64 depth], Hw.own 110 1 ⟨none, 0, 0⟩ (ptrL [])]) ++ []) (upd h b (.cells ⟨[.slice none 0 0, .int .i64 most, .int .i64 depth]⟩ 96 (0, 0))) := by rw [List.append_nil]; exact hs3
  exact Sat.asc (refP_shut (t := ⟨most, depth, []⟩) (E := []) (Sat.asc g1.close) rfl)

theorem c_ROpen {L : List Asn} {R : Nat} {t : Tb} {n : Int} {M : Nat} {h : Hp} {K : Int → Hp → Prop} (hs : Sat (L ++ [refP R t]) h) (ho : Ok M t) (hK : ∀ h', Sat (L ++ [refP R (openT t n).2]) h' → K (openT t n).1 h') : C35 (some (bk R)) n h K := by
  apply S35; unfold N35
  by_cases e1 : n < 1
  · have e : openT t n = (1, t) := by unfold openT; rw [if_pos (.inl e1)]
    rw [e] at hK
    simp only [e1, decide_true, cond_true]; exact hK h hs
  by_cases e2 : n > 65535
  · have e : openT t n = (1, t) := by unfold openT; rw [if_pos (.inr e2)]
    rw [e] at hK
    simp only [e1, e2, decide_true, decide_false, cond_true, cond_false]; exact hK h hs
  simp only [e1, e2, decide_false, cond_false]
  have e12 : ¬ (n < 1 ∨ 65535 < n) := by omega
  refine c_at hs ho.len ?_
  rcases idxP_find (n := n) ho.nod with ⟨i1, hf⟩ | ⟨i, p, i1, _, _, hf⟩
  · rw [i1]
    have : decide ((-1 : Int) ≥ 0) = false := rfl
    rw [this, cond_false]
    obtain ⟨s, E, hs1, hE, sn⟩ := refP_open hs
    simp only [nn_some', add_bk]
    refine hs1.lL 0 rfl rfl ?_
    refine hs1.lI 0 rfl rfl ?_
    by_cases e3 : t.most ≤ (t.ps.length : Int)
    · have e : openT t n = (3, t) := by unfold openT; rw [if_neg e12, hf]; simp [e3]
      rw [e] at hK
      have : decide (((((⟨s.p, s.n, s.c⟩ : Sl).n : Nat)) : Int) ≥ t.most) = true := by show decide ((s.n : Int) ≥ t.most) = true; rw [sn]; simpa using e3
      rw [this, cond_true]; exact hK h hs
    · have e : openT t n = (0, { t with ps := addP n t.ps }) := by unfold openT; rw [if_neg e12, hf]; simp [e3]
      rw [e] at hK
      have : decide (((((⟨s.p, s.n, s.c⟩ : Sl).n : Nat)) : Int) ≥ t.most) = false := by show decide ((s.n : Int) ≥ t.most) = false; rw [sn]; simpa using e3
      rw [this, cond_false]
      exact c_add hs ho.len hK
  · rw [i1]
    have e : openT t n = (130, t) := by unfold openT; rw [if_neg e12, hf]; rfl
    rw [e] at hK
    have : decide ((i : Int) ≥ 0) = true := by first | (simp; done) | (simp; omega)
    rw [this, cond_true]; exact hK h hs

theorem c_RPick {L : List Asn} {R k : Nat} {t : Tb} {l : List Int} {M : Nat} {h : Hp} {K : Int → Int → Hp → Prop} (hs : Sat (L ++ [refP R t, diceA 98 k l]) h) (ho : Ok M t) (hu : U32s l)
    (hfull : t.most ≤ (t.ps.length : Int) → K 0 3 h)
    (hK : ¬ t.most ≤ (t.ps.length : Int) → ∃ y, IsPick t.ps (portD l) y ∧ ∀ h', Sat (L ++ [refP R { t with ps := addP y t.ps }, diceA 98 k l.tail]) h' → K y 0 h') : C36 (some (bk R)) (some (bk k)) h K := by
  apply S36; unfold N36
  have hs1 : Sat ((L ++ [diceA 98 k l]) ++ [refP R t]) h := Sat.csa (hs.sel [1, 0] (by decide) rfl)
  obtain ⟨s, E, hs0, hE, sn⟩ := refP_open hs1
  simp only [nn_some', add_bk]
  refine hs0.lL 0 rfl rfl ?_
  refine hs0.lI 0 rfl rfl ?_
  by_cases hd : t.most ≤ (t.ps.length : Int)
  · have : decide (((((⟨s.p, s.n, s.c⟩ : Sl).n : Nat)) : Int) ≥ t.most) = true := by show decide ((s.n : Int) ≥ t.most) = true; rw [sn]; simpa using hd
    rw [this, cond_true]; exact hfull hd
  · have : decide (((((⟨s.p, s.n, s.c⟩ : Sl).n : Nat)) : Int) ≥ t.most) = false := by show decide ((s.n : Int) ≥ t.most) = false; rw [sn]; simpa using hd
    rw [this, cond_false]
    obtain ⟨y, hy, hK⟩ := hK hd
    have hs2 : Sat ((L ++ [refP R t]) ++ [diceA 98 k l]) h := Sat.csa hs
    refine c_Dport hs2 hu ?_
    intro h1 hs3
    have hs4 : Sat ((L ++ [diceA 98 k l.tail]) ++ [refP R t]) h1 := Sat.csa ((Sat.asc hs3).sel [1, 0] (by decide) rfl)
    unfold N36_l0
    refine loopP_inv (fun (x : Int) hc => Sat ((L ++ [diceA 98 k l.tail]) ++ [refP R t]) hc ∧ 49152 ≤ x ∧ x ≤ 65535 ∧ IsPick t.ps x y) (fun x _ => ((y - x) % 16384).toNat) ?_ ⟨hs4, (portD_r l).1, (portD_r l).2, hy⟩
    rintro x hc ⟨hs5, x1, x2, hp⟩
    unfold N36_l0_B N36_l0_b
    refine c_at hs5 ho.len ?_
    rcases idxP_find (n := x) ho.nod with ⟨i1, hf⟩ | ⟨i, p, i1, _, _, hf⟩
    · rw [i1]
      have : decide ((-1 : Int) < 0) = true := rfl
      rw [this, cond_true]
      have := hp.stop x1 x2 hf
      subst this
      refine c_add hs5 ho.len ?_
      intro h6 hs6
      exact hK h6 ((Sat.asc hs6).sel [1, 0] (by decide) rfl)
    · rw [i1]
      have : decide ((i : Int) < 0) = false := by first | (simp; done) | (simp; omega)
      rw [this, cond_false]
      obtain ⟨_, q1, q2⟩ := hp.step x1 x2 (by rw [hf]; rfl)
      rw [wi64i (by omega) (by omega)]
      by_cases e : x + 1 > 65535
      · simp only [e, decide_true, cond_true]
        rw [if_pos e] at q1 q2
        exact ⟨⟨hs5, by omega, by omega, q1⟩, q2⟩
      · simp only [e, decide_false, cond_false]
        rw [if_neg e] at q1 q2
        exact ⟨⟨hs5, by omega, by omega, q1⟩, q2⟩

theorem c_RClose {L : List Asn} {R : Nat} {t : Tb} {n : Int} {M : Nat} {h : Hp} {K : Bool → Hp → Prop} (hs : Sat (L ++ [refP R t]) h) (ho : Ok M t) (hK : ∀ h', Sat (L ++ [refP R (closeT t n).2]) h' → K (closeT t n).1 h') : C39 (some (bk R)) n h K := by
  apply S39; unfold N39
  refine c_at hs ho.len ?_
  rcases idxP_find (n := n) ho.nod with ⟨i1, hf⟩ | ⟨i, p, i1, hip, hpn, hf⟩
  · rw [i1]
    have : decide ((-1 : Int) < 0) = true := rfl
    rw [this, cond_true]
    have e : closeT t n = (false, t) := by unfold closeT; rw [hf, delP_none (findP_none hf)]; rfl
    rw [e] at hK
    exact hK h hs
  · rw [i1]
    have : decide ((i : Int) < 0) = false := by first | (simp; done) | (simp; omega)
    rw [this, cond_false]
    obtain ⟨s, E, hs1, hE, sn⟩ := refP_open hs
    have hEl : E.length = t.ps.length := by rw [← hE, List.length_map]
    have hl16 := ho.len
    have hiE : i < E.length := by rw [hEl]; exact lt_of_get hip
    have hs2 : Sat (L ++ [row R 96 [s.v, .int .i64 t.most, .int .i64 t.depth], Hw.own 110 1 s (ptrL E), star (E.map rpA), Hw.own 110 1 ⟨none, 0, 0⟩ (ptrL [])]) h := hs1.addNil 110 1
    unfold N39_l0
    refine loopP_inv (fun (x : Sl × Int) hc => ∃ k : Nat, x.2 = k ∧ k ≤ E.length ∧ Sat (L ++ [row R 96 [s.v, .int .i64 t.most, .int .i64 t.depth], Hw.own 110 1 s (ptrL E), star (E.map rpA), Hw.own 110 1 x.1 (ptrL ((E.take k).eraseIdx i))]) hc) (fun x _ => E.length - x.2.toNat) ?_ ⟨0, rfl, Nat.zero_le _, by simpa using hs2⟩
    clear hs1 hs2 hs
    rintro ⟨out, x⟩ hc ⟨k, hx, hk, hs⟩
    simp only at hx hs
    subst hx
    unfold N39_l0_B N39_l0_b
    dsimp only
    simp only [nn_some']
    refine hs.lL 0 rfl rfl ?_
    by_cases hlt : k < E.length
    · rw [show (((⟨s.p, s.n, s.c⟩ : Sl).n : Nat) : Int) = ((s.n : Nat) : Int) from rfl, dec_lt (by omega), cond_true]
      have he : E[k]? = some E[k] := List.getElem?_eq_getElem hlt
      have etk := List.take_succ_eq_append_getElem hlt
      generalize E[k] = e at he etk
      by_cases eki : k = i
      · have : ((k : Int) != (i : Int)) = false := by first | (simp; done) | (simp; omega)
        rw [this, cond_false, nat_succ64 (by omega)]
        refine ⟨⟨k + 1, rfl, hlt, ?_⟩, by first | omega | (dsimp only; omega)⟩
        subst eki
        have e1 : (E.take k).eraseIdx k = E.take k := List.eraseIdx_of_length_le (by rw [List.length_take]; omega)
        have e2 : (E.take (k + 1)).eraseIdx k = E.take k := by
          rw [etk, List.eraseIdx_append_of_length_le (by rw [List.length_take]; omega), List.length_take, show k - min k E.length = 0 by omega]; simp
        rw [e1] at hs; rw [e2]; exact hs
      · have : ((k : Int) != (i : Int)) = true := by first | (simp; done) | (simp; omega)
        rw [this, cond_true]
        refine hs.lL 0 rfl rfl ?_
        refine idx_of (by omega) (by show (k : Int) < (s.n : Int); omega) ?_
        simp only [Int.toNat_natCast, Nat.mul_one]
        refine hs.oP 1 rfl (t := some (bk e.1)) (by simp [ptrL, he]) ?_
        have on : out.n ≤ k := by
          have h1 := (hs.own 3 rfl).1
          have h2 := List.length_eraseIdx_le (E.take k) i
          rw [List.length_take] at h2
          simp only [ptrL, List.length_map, Nat.mul_one] at h1
          omega
        refine hs.push (P := Try.prog) 3 rfl (k := 1) (by kernel_rfl) (by kernel_rfl) rfl (by intro v hv; simp at hv; subst hv; rfl) (by rw [show Try.prog.bytesOf 110 = 8 by kernel_rfl]; omega) ?_
        intro o3 h3 hs3 _
        rw [nat_succ64 (by omega)]
        refine ⟨⟨k + 1, rfl, hlt, ?_⟩, by first | omega | (dsimp only; omega)⟩
        have e2 : (E.take (k + 1)).eraseIdx i = (E.take k).eraseIdx i ++ [e] := by
          rw [etk]
          by_cases hki : i < k
          · rw [List.eraseIdx_append_of_lt_length (by rw [List.length_take]; omega)]
          · rw [List.eraseIdx_of_length_le (by simp; omega), List.eraseIdx_of_length_le (by rw [List.length_take]; omega)]
        have eo : ptrL ((E.take (k + 1)).eraseIdx i) = ptrL ((E.take k).eraseIdx i) ++ [.pointer (some (bk e.1))] := by rw [e2]; simp [ptrL]
        rw [eo]; exact hs3
    · rw [show (((⟨s.p, s.n, s.c⟩ : Sl).n : Nat) : Int) = ((s.n : Nat) : Int) from rfl, dec_ge (by omega), cond_false]
      have hke : k = E.length := by omega
      subst hke
      rw [List.take_length] at hs
      refine hs.st 0 rfl (by simp) rfl ?_
      intro h4 hs3
      have hs3 : Sat (L ++ [row R 96 [out.v, .int .i64 t.most, .int .i64 t.depth], Hw.own 110 1 s (ptrL E), star (E.map rpA), Hw.own 110 1 out (ptrL (E.eraseIdx i))]) h4 := hs3
      have g1 : Sat ((L ++ [row R 96 [out.v, .int .i64 t.most, .int .i64 t.depth], Hw.own 110 1 out (ptrL (E.eraseIdx i))]) ++ [star (E.map rpA)]) h4 := Sat.csa (hs3.sel [0, 3, 2] (by decide) rfl)
      have hei : E[i]? = some E[i] := List.getElem?_eq_getElem hiE
      have g2 : Sat (L ++ [row R 96 [out.v, .int .i64 t.most, .int .i64 t.depth], Hw.own 110 1 out (ptrL (E.eraseIdx i)), star ((E.map rpA).eraseIdx i), rpA E[i]]) h4 := Sat.asc (g1.out i (by rw [List.getElem?_map, hei]; rfl))
      have g3 : Sat (L ++ [row R 96 [out.v, .int .i64 t.most, .int .i64 t.depth], Hw.own 110 1 out (ptrL (E.eraseIdx i)), star ((E.map rpA).eraseIdx i)]) h4 := g2.sel [0, 1, 2] (by decide) rfl
      rw [← map_erase] at g3
      have e : closeT t n = (true, { t with ps := delP n t.ps }) := by unfold closeT; rw [hf]; rfl
      rw [e] at hK
      refine hK h4 (refP_shut (t := { t with ps := delP n t.ps }) g3 ?_)
      rw [map_erase, hE, erase_delP ho.nod hip hpn]

/-- one of the document's ports out of its table, and back -/
theorem rp_out {L : List Asn} {R i : Nat} {t : Tb} {s : Sl} {E : List (Nat × PS)} {e : Nat × PS} {h : Hp} (hs : Sat (L ++ [row R 96 [s.v, .int .i64 t.most, .int .i64 t.depth], Hw.own 110 1 s (ptrL E), star (E.map rpA)]) h) (he : E[i]? = some e) :
    Sat ((L ++ [row R 96 [s.v, .int .i64 t.most, .int .i64 t.depth], Hw.own 110 1 s (ptrL E), star ((E.map rpA).eraseIdx i)]) ++ [rportA e.1 e.2]) h := by
  have g1 := (Sat.csa (A := [row R 96 [s.v, .int .i64 t.most, .int .i64 t.depth], Hw.own 110 1 s (ptrL E)]) (B := [star (E.map rpA)]) hs).out i (by rw [List.getElem?_map, he]; rfl)
  exact Sat.mv g1
theorem rp_in {L : List Asn} {R i : Nat} {t : Tb} {s : Sl} {E : List (Nat × PS)} {e : Nat × PS} {n : Int} {f : PS → PS} {h : Hp} (hs : Sat ((L ++ [row R 96 [s.v, .int .i64 t.most, .int .i64 t.depth], Hw.own 110 1 s (ptrL E), star ((E.map rpA).eraseIdx i)]) ++ [rportA e.1 (f e.2)]) h)
    (he : E[i]? = some e) (hen : e.2.n = n) (hE : E.map Prod.snd = t.ps) (hn : NodN t.ps) : Sat (L ++ [refP R { t with ps := updP n f t.ps }]) h := by
  have g1 : Sat ((L ++ [row R 96 [s.v, .int .i64 t.most, .int .i64 t.depth], Hw.own 110 1 s (ptrL E)]) ++ [star ((E.map rpA).eraseIdx i), rportA e.1 (f e.2)]) h := Sat.mv hs
  have g2 := Sat.asc (g1.inn i (by rw [List.length_map]; exact lt_of_get he))
  have e1 : (E.map rpA).set i (rportA e.1 (f e.2)) = (E.set i (e.1, f e.2)).map rpA := by rw [List.map_set]; rfl
  have e2 : ptrL (E.set i (e.1, f e.2)) = ptrL E := by
    unfold ptrL
    rw [List.map_set]
    refine List.ext_getElem? fun k => ?_
    by_cases hk : i = k
    · subst hk
      rw [List.getElem?_set_self (by rw [List.length_map]; exact lt_of_get he), List.getElem?_map, he]
      simp
    · rw [List.getElem?_set_ne hk]
  rw [e1] at g2
  refine refP_shut (t := { t with ps := updP n f t.ps }) (s := s) (E := E.set i (e.1, f e.2)) (by rw [e2]; exact g2) ?_
  rw [List.map_set, hE]
  exact set_updP hn (p := e.2) (by rw [← hE, List.getElem?_map, he]; rfl) hen

theorem c_copied {L M : List Asn} {d : Dg} {s : Sl} {h : Hp} {K : Int → Int → Int → Int → Sl → Hp → Prop} (hs : Sat (L ++ M) h) (hr : RdB h s d.data) (hK : ∀ s' h', Sat (L ++ (M ++ [datB (d, s')])) h' → K d.a d.b d.c d.d s' h') : C56 d.a d.b d.c d.d s h K := by
  apply S56; unfold N56
  intro b0 e0
  have x0 : Ext none' h (upd h b0 (.cells ⟨[.int .u32 d.a, .int .u32 d.b, .int .i64 d.c, .int .i64 d.d, .slice s.p s.n s.c]⟩ 39 (0, 0))) := Ext.new e0
  have hs1 := Sat.csa (hs.new e0 (.cells ⟨[.int .u32 d.a, .int .u32 d.b, .int .i64 d.c, .int .i64 d.d, .slice s.p s.n s.c]⟩ 39 (0, 0)))
  have hr := hr.ext x0
  revert hs1 hr
  generalize upd h b0 _ = h1
  intro hs1 hr b1 e1
  have hs2 := hs1.new e1 (.cells ⟨[.int .u32 0, .int .u32 0, .int .i64 0, .int .i64 0, .slice none 0 0]⟩ 39 (0, 0))
  have hr := hr.ext (Ext.new (o := .cells ⟨[.int .u32 0, .int .u32 0, .int .i64 0, .int .i64 0, .slice none 0 0]⟩ 39 (0, 0)) e1)
  revert hs2 hr
  generalize upd h1 b1 _ = h2
  intro hs2 hr
  have hs2 : Sat ((L ++ M) ++ [row b0 39 [.int .u32 d.a, .int .u32 d.b, .int .i64 d.c, .int .i64 d.d, .slice s.p s.n s.c], row b1 39 [.int .u32 0, .int .u32 0, .int .i64 0, .int .i64 0, .slice none 0 0]]) h2 := hs2
  simp only [add_bk]
  refine hs2.lL 0 rfl rfl ?_
  refine hr.b2s ?_
  refine hs2.s2b ?_
  intro s' h3 hs3
  have hs : Sat ((L ++ M) ++ [row b0 39 [.int .u32 d.a, .int .u32 d.b, .int .i64 d.c, .int .i64 d.d, .slice s.p s.n s.c], row b1 39 [.int .u32 0, .int .u32 0, .int .i64 0, .int .i64 0, .slice none 0 0], datB (d, s')]) h3 := hs3
  have fin : ∀ {r0 r1 : Asn} {hh : Hp}, Sat ((L ++ M) ++ [r0, r1, datB (d, s')]) hh → K d.a d.b d.c d.d s' hh := fun hs => hK s' _ (Sat.asc (hs.sel [2] (by decide) rfl))
  repeat (first | (refine Sat.st hs 0 rfl (by simp) rfl ?_; intro _ hs; simp only [List.set_cons_zero, List.set_cons_succ] at hs) | (refine Sat.st hs 1 rfl (by simp) rfl ?_; intro _ hs; simp only [List.set_cons_zero, List.set_cons_succ] at hs) | (refine Sat.lI hs 0 rfl rfl ?_) | (refine Sat.lI hs 1 rfl rfl ?_) | (refine Sat.lL hs 0 rfl rfl ?_) | (refine Sat.lL hs 1 rfl rfl ?_) | (refine Sat.lP hs 0 rfl rfl ?_) | (refine Sat.lP hs 1 rfl rfl ?_) | (refine Sat.lB hs 0 rfl rfl ?_) | (refine Sat.lB hs 1 rfl rfl ?_) | (refine Sat.lS hs 0 rfl rfl ?_) | (refine Sat.lS hs 1 rfl rfl ?_) | (refine Sat.lM hs 0 rfl rfl ?_) | (refine Sat.lM hs 1 rfl rfl ?_) | (refine Sat.lA hs 0 rfl rfl ?_) | (refine Sat.lA hs 1 rfl rfl ?_) | (simp only [nn_some', add_bk]))
  exact fin hs

theorem c_RPut {L : List Asn} {R : Nat} {t : Tb} {d : Dg} {s : Sl} {M : Nat} {h : Hp} {K : Int → Hp → Prop} (hs : Sat (L ++ [refP R t]) h) (ho : Ok M t) (hM : M ≤ 1000000000000000000) (hr : RdB h s d.data)
    (hK : ∀ h', Sat (L ++ [refP R (putT t d).2]) h' → K (putT t d).1 h') : C41 (some (bk R)) d.a d.b d.c d.d s h K := by
  apply S41; unfold N41
  intro b0 e0
  have hs1 := hs.new e0 (.cells ⟨[.int .u32 d.a, .int .u32 d.b, .int .i64 d.c, .int .i64 d.d, .slice s.p s.n s.c]⟩ 39 (0, 0))
  have hr := hr.ext (Ext.new (o := .cells ⟨[.int .u32 d.a, .int .u32 d.b, .int .i64 d.c, .int .i64 d.d, .slice s.p s.n s.c]⟩ 39 (0, 0)) e0)
  revert hs1 hr
  generalize upd h b0 _ = h1
  intro hs1 hr
  have hs1 : Sat (L ++ [refP R t, row b0 39 [.int .u32 d.a, .int .u32 d.b, .int .i64 d.c, .int .i64 d.d, .slice s.p s.n s.c]]) h1 := hs1
  have hs2 : Sat ((L ++ [row b0 39 [.int .u32 d.a, .int .u32 d.b, .int .i64 d.c, .int .i64 d.d, .slice s.p s.n s.c]]) ++ [refP R t]) h1 := Sat.csa (hs1.sel [1, 0] (by decide) rfl)
  simp only [add_bk]
  refine hs1.lI 1 rfl rfl ?_
  refine c_at hs2 ho.len ?_
  rcases idxP_find (n := d.d) ho.nod with ⟨i1, hf⟩ | ⟨i, p, i1, hip, hpn, hf⟩
  · rw [i1]
    have : decide ((-1 : Int) < 0) = true := rfl
    rw [this, cond_true]
    have e : putT t d = (131, t) := by unfold putT; rw [hf]
    rw [e] at hK
    exact hK _ (hs1.sel [0] (by decide) rfl)
  · rw [i1]
    have : decide ((i : Int) < 0) = false := by first | (simp; done) | (simp; omega)
    rw [this, cond_false]
    obtain ⟨sl, E, hs3, hE, sn⟩ := refP_open hs2
    obtain ⟨q, he⟩ := get_E hE hip
    have hil := lt_of_get hip
    simp only [nn_some', add_bk]
    refine hs3.lL 0 rfl rfl ?_
    refine idx_of (by omega) (by show (i : Int) < (sl.n : Int); omega) ?_
    simp only [Int.toNat_natCast, Nat.mul_one]
    refine hs3.oP 1 rfl (t := some (bk q)) (by simp [ptrL, he]) ?_
    simp only [nn_some', add_bk]
    have g1 := rp_out hs3 he
    obtain ⟨z, Q, g2, hq, zn⟩ := rport_open g1
    have g2' : Sat (L ++ [row b0 39 [.int .u32 d.a, .int .u32 d.b, .int .i64 d.c, .int .i64 d.d, .slice s.p s.n s.c], row R 96 [sl.v, .int .i64 t.most, .int .i64 t.depth], Hw.own 110 1 sl (ptrL E), star ((E.map rpA).eraseIdx i), row q 112 [.int .i64 p.n, .int .i64 p.dr, z.v], tailA 39 5 z (dgs Q), star (Q.map datB)]) h1 := Sat.asc (Sat.asc g2)
    obtain ⟨q1, q2, q3⟩ := ho.q p (List.mem_of_getElem? hip)
    refine g2'.lL 4 rfl rfl ?_
    refine g2'.lI 1 rfl rfl ?_
    have zn : z.n = p.l.length := zn
    by_cases hd : t.depth ≤ (p.l.length : Int)
    · have e : putT t d = (3, { t with ps := updP d.d (fun p => { p with dr := p.dr + 1 }) t.ps }) := by unfold putT; rw [hf]; simp [hd]
      rw [e] at hK
      have : decide (((((⟨z.p, z.n, z.c⟩ : Sl).n : Nat)) : Int) ≥ t.depth) = true := by show decide ((z.n : Int) ≥ t.depth) = true; rw [zn]; simpa using hd
      rw [this, cond_true]
      refine g2'.lI 4 rfl rfl ?_
      rw [wi64i (by omega) (by omega)]
      refine g2'.st 4 rfl (by simp) rfl ?_
      intro h4 hs4
      have hs4 : Sat (L ++ [row b0 39 [.int .u32 d.a, .int .u32 d.b, .int .i64 d.c, .int .i64 d.d, .slice s.p s.n s.c], row R 96 [sl.v, .int .i64 t.most, .int .i64 t.depth], Hw.own 110 1 sl (ptrL E), star ((E.map rpA).eraseIdx i), row q 112 [.int .i64 p.n, .int .i64 (p.dr + 1), z.v], tailA 39 5 z (dgs Q), star (Q.map datB)]) h4 := hs4
      have g3 : Sat (L ++ ([row R 96 [sl.v, .int .i64 t.most, .int .i64 t.depth], Hw.own 110 1 sl (ptrL E), star ((E.map rpA).eraseIdx i)] ++ [row q 112 [.int .i64 p.n, .int .i64 (p.dr + 1), z.v], tailA 39 5 z (dgs Q), star (Q.map datB)])) h4 := hs4.sel [1, 2, 3, 4, 5, 6] (by decide) rfl
      have g4 := rport_shut (p := { p with dr := p.dr + 1 }) (Sat.csa g3) hq
      exact hK h4 (rp_in (f := fun p => { p with dr := p.dr + 1 }) g4 he hpn hE ho.nod)
    · have e : putT t d = (0, { t with ps := updP d.d (fun p => { p with l := p.l ++ [d] }) t.ps }) := by unfold putT; rw [hf]; simp only []; rw [if_neg hd]
      rw [e] at hK
      have : decide (((((⟨z.p, z.n, z.c⟩ : Sl).n : Nat)) : Int) ≥ t.depth) = false := by show decide ((z.n : Int) ≥ t.depth) = false; rw [zn]; simpa using hd
      rw [this, cond_false]
      refine g2'.lI 0 rfl rfl ?_
      refine g2'.lI 0 rfl rfl ?_
      refine g2'.lI 0 rfl rfl ?_
      refine g2'.lI 0 rfl rfl ?_
      refine g2'.lL 0 rfl rfl ?_
      refine c_copied (d := d) (s := ⟨s.p, s.n, s.c⟩) g2' hr ?_
      intro s' h3 hs3
      intro b1 e1
      have hs := (Sat.csa hs3).new e1 (.cells ⟨[.int .u32 0, .int .u32 0, .int .i64 0, .int .i64 0, .slice none 0 0]⟩ 39 (0, 0))
      revert hs
      generalize upd h3 b1 _ = h4
      intro hs
      have hs : Sat (L ++ [row b0 39 [.int .u32 d.a, .int .u32 d.b, .int .i64 d.c, .int .i64 d.d, .slice s.p s.n s.c], row R 96 [sl.v, .int .i64 t.most, .int .i64 t.depth], Hw.own 110 1 sl (ptrL E), star ((E.map rpA).eraseIdx i), row q 112 [.int .i64 p.n, .int .i64 p.dr, z.v], tailA 39 5 z (dgs Q), star (Q.map datB), datB (d, s'), row b1 39 [.int .u32 0, .int .u32 0, .int .i64 0, .int .i64 0, .slice none 0 0]]) h4 := Sat.asc hs
      try simp only [add_bk]
      refine hs.st 8 rfl (by simp) rfl ?_
      intro _ hs
      refine hs.st 8 rfl (by simp) rfl ?_
      intro _ hs
      refine hs.st 8 rfl (by simp) rfl ?_
      intro _ hs
      refine hs.st 8 rfl (by simp) rfl ?_
      intro _ hs
      refine hs.st 8 rfl (by simp) rfl ?_
      intro h9 hs
      have hs : Sat (L ++ [row b0 39 [.int .u32 d.a, .int .u32 d.b, .int .i64 d.c, .int .i64 d.d, .slice s.p s.n s.c], row R 96 [sl.v, .int .i64 t.most, .int .i64 t.depth], Hw.own 110 1 sl (ptrL E), star ((E.map rpA).eraseIdx i), row q 112 [.int .i64 p.n, .int .i64 p.dr, z.v], tailA 39 5 z (dgs Q), star (Q.map datB), datB (d, s'), row b1 39 [.int .u32 d.a, .int .u32 d.b, .int .i64 d.c, .int .i64 d.d, s'.v]]) h9 := hs
      refine hs.lL 4 rfl rfl ?_
      refine hs.lI 8 rfl rfl ?_
      refine hs.lI 8 rfl rfl ?_
      refine hs.lI 8 rfl rfl ?_
      refine hs.lI 8 rfl rfl ?_
      refine hs.lL 8 rfl rfl ?_
      intro b2 e2
      have hs2 := hs.ext (Ext.new (o := .cells ⟨[.int .u32 d.a, .int .u32 d.b, .int .i64 d.c, .int .i64 d.d, .slice s'.p s'.n s'.c]⟩ 39 (0, 0)) e2)
      have hb : Blk (upd h9 b2 (.cells ⟨[.int .u32 d.a, .int .u32 d.b, .int .i64 d.c, .int .i64 d.d, .slice s'.p s'.n s'.c]⟩ 39 (0, 0))) b2 39 (dgs [(d, s')]) := Blk.upd_same
      revert hs2 hb
      generalize upd h9 b2 _ = h10
      intro hs2 hb
      refine ⟨hs2.lL 4 rfl rfl ⟨rfl, rfl⟩, ?_⟩
      have hdp := ho.depth
      refine hs2.apT (P := Try.prog) 5 rfl (n := 1) (ns := dgs [(d, s')]) (by kernel_rfl) (by kernel_rfl) (fun _ => rfl) ?_ rfl dgs_plain (by rw [show Try.prog.bytesOf 39 = 48 by kernel_rfl]; show (z.n + 1) * 2 * 48 ≤ _; omega) ?_
      · intro G hG
        unfold srcK
        simp only []
        rw [rdN_blk hb _ _ (by simp [dgs_len])]
        exact hG
      · intro z' h11 hs3 _
        refine hs3.st 4 rfl (by simp) rfl ?_
        intro h12 hs4
        have g1 : Sat (L ++ [row b0 39 [.int .u32 d.a, .int .u32 d.b, .int .i64 d.c, .int .i64 d.d, .slice s.p s.n s.c], row R 96 [sl.v, .int .i64 t.most, .int .i64 t.depth], Hw.own 110 1 sl (ptrL E), star ((E.map rpA).eraseIdx i), row q 112 [.int .i64 p.n, .int .i64 p.dr, z'.v], tailA 39 5 z' (dgs (Q ++ [(d, s')])), star (Q.map datB), datB (d, s'), row b1 39 [.int .u32 d.a, .int .u32 d.b, .int .i64 d.c, .int .i64 d.d, s'.v]]) h12 := by rw [dgs_app]; exact hs4
        have g2 : Sat (L ++ ([row R 96 [sl.v, .int .i64 t.most, .int .i64 t.depth], Hw.own 110 1 sl (ptrL E), star ((E.map rpA).eraseIdx i), row q 112 [.int .i64 p.n, .int .i64 p.dr, z'.v], tailA 39 5 z' (dgs (Q ++ [(d, s')]))] ++ [star (Q.map datB), datB (d, s')])) h12 := g1.sel [1, 2, 3, 4, 5, 6, 7] (by decide) rfl
        have g3 := Sat.asc (Sat.csa g2).into
        rw [show (Q.map datB ++ [datB (d, s')]) = ((Q ++ [(d, s')]).map datB) by simp] at g3
        have g4 : Sat (L ++ ([row R 96 [sl.v, .int .i64 t.most, .int .i64 t.depth], Hw.own 110 1 sl (ptrL E), star ((E.map rpA).eraseIdx i)] ++ [row q 112 [.int .i64 p.n, .int .i64 p.dr, z'.v], tailA 39 5 z' (dgs (Q ++ [(d, s')])), star ((Q ++ [(d, s')]).map datB)])) h12 := g3
        have g5 := rport_shut (p := { p with l := p.l ++ [d] }) (Sat.csa g4) (by rw [List.map_append, hq]; rfl)
        exact hK h12 (rp_in (f := fun p => { p with l := p.l ++ [d] }) g5 he hpn hE ho.nod)

theorem c_RTake {L : List Asn} {R : Nat} {t : Tb} {n : Int} {M : Nat} {h : Hp} {K : Int → Int → Int → Int → Sl → Bool → Hp → Prop} (hs : Sat (L ++ [refP R t]) h) (ho : Ok M t)
    (hnone : (takeT t n).1 = none → ∀ h', Sat (L ++ [refP R (takeT t n).2]) h' → K 0 0 0 0 ⟨none, 0, 0⟩ false h')
    (hK : ∀ d, (takeT t n).1 = some d → ∀ s h', Sat (L ++ [refP R (takeT t n).2, datB (d, s)]) h' → K d.a d.b d.c d.d s true h') : C43 (some (bk R)) n h K := by
  apply S43; unfold N43
  intro b0 e0
  have hs1 := hs.new e0 (.cells ⟨[.int .u32 0, .int .u32 0, .int .i64 0, .int .i64 0, .slice none 0 0]⟩ 39 (0, 0))
  revert hs1
  generalize upd h b0 _ = h1
  intro hs1
  have hs1 : Sat (L ++ [refP R t, row b0 39 [.int .u32 0, .int .u32 0, .int .i64 0, .int .i64 0, .slice none 0 0]]) h1 := hs1
  have hs2 : Sat ((L ++ [row b0 39 [.int .u32 0, .int .u32 0, .int .i64 0, .int .i64 0, .slice none 0 0]]) ++ [refP R t]) h1 := Sat.csa (hs1.sel [1, 0] (by decide) rfl)
  have fin0 : (takeT t n) = (none, t) → ∀ (r0 : Asn) (hh : Hp), Sat (L ++ [refP R t, r0]) hh → K 0 0 0 0 ⟨none, 0, 0⟩ false hh := by
    intro e r0 hh hs
    rw [e] at hnone
    exact hnone rfl hh (hs.sel [0] (by decide) rfl)
  refine c_at hs2 ho.len ?_
  rcases idxP_find (n := n) ho.nod with ⟨i1, hf⟩ | ⟨i, p, i1, hip, hpn, hf⟩
  · rw [i1]
    have : decide ((-1 : Int) < 0) = true := rfl
    rw [this, cond_true]
    have fin := fin0 (by unfold takeT; rw [hf])
    unfold N43_j0
    rw [cond_true]
    have hs := hs1
    repeat (first | (refine Sat.st hs 0 rfl (by simp) rfl ?_; intro _ hs; simp only [List.set_cons_zero, List.set_cons_succ] at hs) | (refine Sat.st hs 1 rfl (by simp) rfl ?_; intro _ hs; simp only [List.set_cons_zero, List.set_cons_succ] at hs) | (refine Sat.lI hs 0 rfl rfl ?_) | (refine Sat.lI hs 1 rfl rfl ?_) | (refine Sat.lL hs 0 rfl rfl ?_) | (refine Sat.lL hs 1 rfl rfl ?_) | (refine Sat.lP hs 0 rfl rfl ?_) | (refine Sat.lP hs 1 rfl rfl ?_) | (refine Sat.lB hs 0 rfl rfl ?_) | (refine Sat.lB hs 1 rfl rfl ?_) | (refine Sat.lS hs 0 rfl rfl ?_) | (refine Sat.lS hs 1 rfl rfl ?_) | (refine Sat.lM hs 0 rfl rfl ?_) | (refine Sat.lM hs 1 rfl rfl ?_) | (refine Sat.lA hs 0 rfl rfl ?_) | (refine Sat.lA hs 1 rfl rfl ?_) | (simp only [nn_some', add_bk]))
    exact fin _ _ hs
  · rw [i1]
    have : decide ((i : Int) < 0) = false := by first | (simp; done) | (simp; omega)
    rw [this, cond_false]
    obtain ⟨sl, E, hs3, hE, sn⟩ := refP_open hs2
    obtain ⟨q, he⟩ := get_E hE hip
    have hil := lt_of_get hip
    simp only [nn_some', add_bk]
    refine hs3.lL 0 rfl rfl ?_
    refine idx_of (by omega) (by show (i : Int) < (sl.n : Int); omega) ?_
    simp only [Int.toNat_natCast, Nat.mul_one]
    refine hs3.oP 1 rfl (t := some (bk q)) (by simp [ptrL, he]) ?_
    simp only [nn_some', add_bk]
    have g1 := rp_out hs3 he
    obtain ⟨z, Q, g2, hq, zn⟩ := rport_open g1
    have zn : z.n = p.l.length := zn
    have hq : Q.map Prod.fst = p.l := hq
    have g2' : Sat (L ++ [row b0 39 [.int .u32 0, .int .u32 0, .int .i64 0, .int .i64 0, .slice none 0 0], row R 96 [sl.v, .int .i64 t.most, .int .i64 t.depth], Hw.own 110 1 sl (ptrL E), star ((E.map rpA).eraseIdx i), row q 112 [.int .i64 p.n, .int .i64 p.dr, z.v], tailA 39 5 z (dgs Q), star (Q.map datB)]) h1 := Sat.asc (Sat.asc g2)
    refine g2'.lL 4 rfl rfl ?_
    unfold N43_j0
    cases Q with
    | nil =>
      have hl0 : p.l = [] := by rw [← hq]; rfl
      have : ((((⟨z.p, z.n, z.c⟩ : Sl).n : Nat) : Int) == 0) = true := by show (((z.n : Nat) : Int) == 0) = true; rw [zn, hl0]; rfl
      rw [this, cond_true]
      have fin := fin0 (by unfold takeT; rw [hf]; simp only []; rw [hl0])
      have hs := hs1
      repeat (first | (refine Sat.st hs 0 rfl (by simp) rfl ?_; intro _ hs; simp only [List.set_cons_zero, List.set_cons_succ] at hs) | (refine Sat.st hs 1 rfl (by simp) rfl ?_; intro _ hs; simp only [List.set_cons_zero, List.set_cons_succ] at hs) | (refine Sat.lI hs 0 rfl rfl ?_) | (refine Sat.lI hs 1 rfl rfl ?_) | (refine Sat.lL hs 0 rfl rfl ?_) | (refine Sat.lL hs 1 rfl rfl ?_) | (refine Sat.lP hs 0 rfl rfl ?_) | (refine Sat.lP hs 1 rfl rfl ?_) | (refine Sat.lB hs 0 rfl rfl ?_) | (refine Sat.lB hs 1 rfl rfl ?_) | (refine Sat.lS hs 0 rfl rfl ?_) | (refine Sat.lS hs 1 rfl rfl ?_) | (refine Sat.lM hs 0 rfl rfl ?_) | (refine Sat.lM hs 1 rfl rfl ?_) | (refine Sat.lA hs 0 rfl rfl ?_) | (refine Sat.lA hs 1 rfl rfl ?_) | (simp only [nn_some', add_bk]))
      exact fin _ _ hs
    | cons x Q =>
      obtain ⟨d, s⟩ := x
      have hl0 : p.l = d :: Q.map Prod.fst := by rw [← hq]; rfl
      have : ((((⟨z.p, z.n, z.c⟩ : Sl).n : Nat) : Int) == 0) = false := by
        show (((z.n : Nat) : Int) == 0) = false
        rw [zn, hl0]; simp; omega
      rw [this, cond_false]
      have z1 : 1 ≤ z.n := by rw [zn, hl0]; simp
      unfold N43_j1
      simp only [nn_some', add_bk]
      refine g2'.lL 1 rfl rfl ?_
      refine idx_of (by omega) (by show (i : Int) < (sl.n : Int); omega) ?_
      simp only [Int.toNat_natCast, Nat.mul_one]
      refine g2'.oP 2 rfl (t := some (bk q)) (by simp [ptrL, he]) ?_
      simp only [nn_some', add_bk]
      refine g2'.lL 4 rfl rfl ?_
      refine idx_of (by omega) (by show (0 : Int) < (z.n : Int); omega) ?_
      have hr := (g2'.tail 5 rfl).rdc
      obtain ⟨a, ha, k0⟩ := hr 0 (.int .u32 d.a) rfl
      obtain ⟨_, ha1, k1⟩ := hr 1 (.int .u32 d.b) rfl
      rw [ha] at ha1; cases ha1
      obtain ⟨_, ha1, k2⟩ := hr 2 (.int .i64 d.c) rfl
      rw [ha] at ha1; cases ha1
      obtain ⟨_, ha1, k3⟩ := hr 3 (.int .i64 d.d) rfl
      rw [ha] at ha1; cases ha1
      obtain ⟨_, ha1, k4⟩ := hr 4 s.v rfl
      rw [ha] at ha1; cases ha1
      simp only [ha, nn_some', Int.toNat_zero, Nat.zero_mul, addzero] at k0 ⊢
      simp only [k0, k1, k2, k3, k4, xI_some, xL_v]
      intro b1 e1
      have hs := g2'.new e1 (.cells ⟨[.int .u32 0, .int .u32 0, .int .i64 0, .int .i64 0, .slice none 0 0]⟩ 39 (0, 0))
      revert hs
      generalize upd h1 b1 _ = h4
      intro hs
      have hs : Sat (L ++ [row b0 39 [.int .u32 0, .int .u32 0, .int .i64 0, .int .i64 0, .slice none 0 0], row R 96 [sl.v, .int .i64 t.most, .int .i64 t.depth], Hw.own 110 1 sl (ptrL E), star ((E.map rpA).eraseIdx i), row q 112 [.int .i64 p.n, .int .i64 p.dr, z.v], tailA 39 5 z (dgs ((d, s) :: Q)), star (((d, s) :: Q).map datB), row b1 39 [.int .u32 0, .int .u32 0, .int .i64 0, .int .i64 0, .slice none 0 0]]) h4 := hs
      try simp only [add_bk]
      refine hs.st 7 rfl (by simp) rfl ?_
      intro _ hs
      refine hs.st 7 rfl (by simp) rfl ?_
      intro _ hs
      refine hs.st 7 rfl (by simp) rfl ?_
      intro _ hs
      refine hs.st 7 rfl (by simp) rfl ?_
      intro _ hs
      refine hs.st 7 rfl (by simp) rfl ?_
      intro h9 hs
      have hs : Sat (L ++ [row b0 39 [.int .u32 0, .int .u32 0, .int .i64 0, .int .i64 0, .slice none 0 0], row R 96 [sl.v, .int .i64 t.most, .int .i64 t.depth], Hw.own 110 1 sl (ptrL E), star ((E.map rpA).eraseIdx i), row q 112 [.int .i64 p.n, .int .i64 p.dr, z.v], tailA 39 5 z (dgs ((d, s) :: Q)), star (((d, s) :: Q).map datB), row b1 39 [.int .u32 d.a, .int .u32 d.b, .int .i64 d.c, .int .i64 d.d, s.v]]) h9 := hs
      refine hs.lL 1 rfl rfl ?_
      refine idx_of (by omega) (by show (i : Int) < (sl.n : Int); omega) ?_
      refine hs.oP 2 rfl (t := some (bk q)) (by simp [ptrL, he]) ?_
      refine hs.lL 1 rfl rfl ?_
      refine idx_of (by omega) (by show (i : Int) < (sl.n : Int); omega) ?_
      refine hs.oP 2 rfl (t := some (bk q)) (by simp [ptrL, he]) ?_
      simp only [nn_some', add_bk]
      refine hs.lL 4 rfl rfl ?_
      refine bd_nat (i := 1) (show 1 ≤ z.n from z1) ?_
      have hs := hs.cutT 5 rfl (k := 1) z1 (by decide)
      refine hs.st 4 rfl (by simp) rfl ?_
      intro h10 hs
      have hs : Sat (L ++ [row b0 39 [.int .u32 0, .int .u32 0, .int .i64 0, .int .i64 0, .slice none 0 0], row R 96 [sl.v, .int .i64 t.most, .int .i64 t.depth], Hw.own 110 1 sl (ptrL E), star ((E.map rpA).eraseIdx i), row q 112 [.int .i64 p.n, .int .i64 p.dr, (⟨sadr z.p z.c 1 5, z.n - 1, z.c - 1⟩ : Sl).v], tailA 39 5 ⟨sadr z.p z.c 1 5, z.n - 1, z.c - 1⟩ (dgs Q), star (((d, s) :: Q).map datB), row b1 39 [.int .u32 d.a, .int .u32 d.b, .int .i64 d.c, .int .i64 d.d, s.v]]) h10 := hs
      have fin : ∀ {r0 : Asn} {hh : Hp}, Sat (L ++ [r0, row b1 39 [.int .u32 d.a, .int .u32 d.b, .int .i64 d.c, .int .i64 d.d, s.v], row R 96 [sl.v, .int .i64 t.most, .int .i64 t.depth], Hw.own 110 1 sl (ptrL E), star ((E.map rpA).eraseIdx i), row q 112 [.int .i64 p.n, .int .i64 p.dr, (⟨sadr z.p z.c 1 5, z.n - 1, z.c - 1⟩ : Sl).v], tailA 39 5 ⟨sadr z.p z.c 1 5, z.n - 1, z.c - 1⟩ (dgs Q), star (((d, s) :: Q).map datB)]) hh → K d.a d.b d.c d.d s true hh := by
        intro r0 hh hs
        have et : takeT t n = (some d, { t with ps := updP n (fun p => { p with l := p.l.tail }) t.ps }) := by unfold takeT; rw [hf]; simp only []; rw [hl0]
        rw [et] at hK
        have g1 : Sat (L ++ ([row R 96 [sl.v, .int .i64 t.most, .int .i64 t.depth], Hw.own 110 1 sl (ptrL E), star ((E.map rpA).eraseIdx i), row q 112 [.int .i64 p.n, .int .i64 p.dr, (⟨sadr z.p z.c 1 5, z.n - 1, z.c - 1⟩ : Sl).v], tailA 39 5 ⟨sadr z.p z.c 1 5, z.n - 1, z.c - 1⟩ (dgs Q)] ++ [star (((d, s) :: Q).map datB)])) hh := hs.sel [2, 3, 4, 5, 6, 7] (by decide) rfl
        have g2 : Sat (L ++ [row R 96 [sl.v, .int .i64 t.most, .int .i64 t.depth], Hw.own 110 1 sl (ptrL E), star ((E.map rpA).eraseIdx i), row q 112 [.int .i64 p.n, .int .i64 p.dr, (⟨sadr z.p z.c 1 5, z.n - 1, z.c - 1⟩ : Sl).v], tailA 39 5 ⟨sadr z.p z.c 1 5, z.n - 1, z.c - 1⟩ (dgs Q), star (Q.map datB), datB (d, s)]) hh := Sat.asc ((Sat.csa g1).out 0 rfl)
        have g3 : Sat (L ++ ([datB (d, s)] ++ ([row R 96 [sl.v, .int .i64 t.most, .int .i64 t.depth], Hw.own 110 1 sl (ptrL E), star ((E.map rpA).eraseIdx i)] ++ [row q 112 [.int .i64 p.n, .int .i64 p.dr, (⟨sadr z.p z.c 1 5, z.n - 1, z.c - 1⟩ : Sl).v], tailA 39 5 ⟨sadr z.p z.c 1 5, z.n - 1, z.c - 1⟩ (dgs Q), star (Q.map datB)]))) hh := g2.sel [6, 0, 1, 2, 3, 4, 5] (by decide) rfl
        have g4 := rport_shut (p := { p with l := p.l.tail }) (Sat.csa (Sat.csa g3)) (by show _ = p.l.tail; rw [hl0]; rfl)
        have g5 : Sat (L ++ [datB (d, s), refP R { t with ps := updP n (fun p => { p with l := p.l.tail }) t.ps }]) hh := Sat.asc (rp_in (f := fun p => { p with l := p.l.tail }) g4 he hpn hE ho.nod)
        exact hK d rfl s hh (g5.sel [1, 0] (by decide) rfl)
      have hs : Sat (L ++ [row b0 39 [.int .u32 0, .int .u32 0, .int .i64 0, .int .i64 0, .slice none 0 0], row b1 39 [.int .u32 d.a, .int .u32 d.b, .int .i64 d.c, .int .i64 d.d, s.v], row R 96 [sl.v, .int .i64 t.most, .int .i64 t.depth], Hw.own 110 1 sl (ptrL E), star ((E.map rpA).eraseIdx i), row q 112 [.int .i64 p.n, .int .i64 p.dr, (⟨sadr z.p z.c 1 5, z.n - 1, z.c - 1⟩ : Sl).v], tailA 39 5 ⟨sadr z.p z.c 1 5, z.n - 1, z.c - 1⟩ (dgs Q), star (((d, s) :: Q).map datB)]) h10 := hs.sel [0, 7, 1, 2, 3, 4, 5, 6] (by decide) rfl
      repeat (first | (refine Sat.st hs 0 rfl (by simp) rfl ?_; intro _ hs; simp only [List.set_cons_zero, List.set_cons_succ] at hs) | (refine Sat.st hs 1 rfl (by simp) rfl ?_; intro _ hs; simp only [List.set_cons_zero, List.set_cons_succ] at hs) | (refine Sat.lI hs 0 rfl rfl ?_) | (refine Sat.lI hs 1 rfl rfl ?_) | (refine Sat.lL hs 0 rfl rfl ?_) | (refine Sat.lL hs 1 rfl rfl ?_) | (refine Sat.lP hs 0 rfl rfl ?_) | (refine Sat.lP hs 1 rfl rfl ?_) | (refine Sat.lB hs 0 rfl rfl ?_) | (refine Sat.lB hs 1 rfl rfl ?_) | (refine Sat.lS hs 0 rfl rfl ?_) | (refine Sat.lS hs 1 rfl rfl ?_) | (refine Sat.lM hs 0 rfl rfl ?_) | (refine Sat.lM hs 1 rfl rfl ?_) | (refine Sat.lA hs 0 rfl rfl ?_) | (refine Sat.lA hs 1 rfl rfl ?_) | (simp only [nn_some', add_bk]))
      exact fin hs

theorem c_RLook {L : List Asn} {R : Nat} {t : Tb} {M : Nat} {h : Hp} {K : Sl → Hp → Prop} (hs : Sat (L ++ [refP R t]) h) (ho : Ok M t) (hK : ∀ s h', Sat (L ++ [refP R t, Hw.own 72 3 s (sts t.ps)]) h' → K s h') : C46 (some (bk R)) h K := by
  apply S46; unfold N46 N46_l0
  have hs1 := hs.addNil 72 3
  refine loopP_inv (fun (x : Sl × Int) hc => ∃ i : Nat, x.2 = i ∧ i ≤ t.ps.length ∧ Sat (L ++ [refP R t, Hw.own 72 3 x.1 (sts (t.ps.take i))]) hc) (fun x _ => t.ps.length - x.2.toNat) ?_ ⟨0, rfl, Nat.zero_le _, hs1⟩
  rintro ⟨acc, x⟩ hc ⟨i, hx, hi, hs2⟩
  simp only at hx hs2
  subst hx
  unfold N46_l0_B N46_l0_b
  dsimp only
  have hs3 : Sat ((L ++ [Hw.own 72 3 acc (sts (t.ps.take i))]) ++ [refP R t]) hc := Sat.csa (hs2.sel [1, 0] (by decide) rfl)
  obtain ⟨sl, E, hs4, hE, sn⟩ := refP_open hs3
  simp only [nn_some', add_bk]
  refine hs4.lL 0 rfl rfl ?_
  by_cases hlt : i < t.ps.length
  · rw [show (((⟨sl.p, sl.n, sl.c⟩ : Sl).n : Nat) : Int) = ((sl.n : Nat) : Int) from rfl, dec_lt (by omega), cond_true]
    have hpi : t.ps[i]? = some t.ps[i] := List.getElem?_eq_getElem hlt
    have etk := List.take_succ_eq_append_getElem hlt
    generalize t.ps[i] = p at hpi etk
    obtain ⟨q, he⟩ := get_E hE hpi
    obtain ⟨z, hb, zn⟩ := rp_at (Sat.csa (A := [row R 96 [sl.v, .int .i64 t.most, .int .i64 t.depth], Hw.own 110 1 sl (ptrL E)]) hs4) he
    have zn : z.n = p.l.length := zn
    have k0 : cell hc (bk q) = some (.int .i64 p.n) := by rw [hb.cell]; rfl
    have k1 : cell hc ⟨q, 1, none⟩ = some (.int .i64 p.dr) := by rw [hb.cell]; rfl
    have k2 : cell hc ⟨q, 2, none⟩ = some z.v := by rw [hb.cell]; rfl
    refine hs4.lL 0 rfl rfl ?_
    refine idx_of (by omega) (by show (i : Int) < (sl.n : Int); omega) ?_
    simp only [Int.toNat_natCast, Nat.mul_one]
    refine hs4.oP 1 rfl (t := some (bk q)) (by simp [ptrL, he]) ?_
    simp only [nn_some', k0, xI_some]
    refine hs4.lL 0 rfl rfl ?_
    refine idx_of (by omega) (by show (i : Int) < (sl.n : Int); omega) ?_
    refine hs4.oP 1 rfl (t := some (bk q)) (by simp [ptrL, he]) ?_
    simp only [nn_some', add_bk, k2, xL_v]
    refine hs4.lL 0 rfl rfl ?_
    refine idx_of (by omega) (by show (i : Int) < (sl.n : Int); omega) ?_
    refine hs4.oP 1 rfl (t := some (bk q)) (by simp [ptrL, he]) ?_
    simp only [nn_some', add_bk, k1, xI_some]
    rw [zn]
    have hq3 := ho.len
    have an : acc.n = i := by have := (hs2.own 1 rfl).1; rw [sts_len, List.length_take] at this; omega
    refine hs2.push (P := Try.prog) 1 rfl (k := 1) (by kernel_rfl) (by kernel_rfl) rfl (by intro v hv; simp at hv; rcases hv with rfl | rfl | rfl <;> rfl) (by rw [show Try.prog.bytesOf 72 = 24 by kernel_rfl]; omega) ?_
    intro acc' h6 hs6 _
    rw [nat_succ64 (by omega)]
    refine ⟨⟨i + 1, rfl, hlt, ?_⟩, by first | omega | (dsimp only; omega)⟩
    have es : sts (t.ps.take i ++ [p]) = sts (t.ps.take i) ++ [.int .i64 p.n, .int .i64 (p.l.length : Int), .int .i64 p.dr] := by simp [sts, st3]
    rw [etk, es]
    exact hs6
  · rw [show (((⟨sl.p, sl.n, sl.c⟩ : Sl).n : Nat) : Int) = ((sl.n : Nat) : Int) from rfl, dec_ge (by omega), cond_false]
    have : i = t.ps.length := by omega
    subst this
    rw [List.take_length] at hs2
    exact hK _ _ hs2

theorem p_same {d : Dg} {s1 s2 : Sl} {h : Hp} {K : Bool → Hp → Prop} (h1 : RdB h s1 d.data) (h2 : RdB h s2 d.data) (hK : ∀ h', Ext none' h h' → K true h') : C44 d.a d.b d.c d.d s1 d.a d.b d.c d.d s2 h K := by
  apply S44; unfold N44
  intro b0 e0
  have hs0 : Sat ([] ++ [Hw.was h]) h := Sat.start
  have hs1 := hs0.new e0 (.cells ⟨[.int .u32 d.a, .int .u32 d.b, .int .i64 d.c, .int .i64 d.d, .slice s1.p s1.n s1.c]⟩ 39 (0, 0))
  revert hs1
  generalize upd h b0 _ = h3
  intro hs1 b1 e1
  have hs2 := hs1.new e1 (.cells ⟨[.int .u32 d.a, .int .u32 d.b, .int .i64 d.c, .int .i64 d.d, .slice s2.p s2.n s2.c]⟩ 39 (0, 0))
  revert hs2
  generalize upd h3 b1 _ = h4
  intro hs2
  have hs : Sat ([] ++ [Hw.was h, row b0 39 [.int .u32 d.a, .int .u32 d.b, .int .i64 d.c, .int .i64 d.d, .slice s1.p s1.n s1.c], row b1 39 [.int .u32 d.a, .int .u32 d.b, .int .i64 d.c, .int .i64 d.d, .slice s2.p s2.n s2.c]]) h4 := hs2
  have hx : Ext none' h h4 := hs.was 0 rfl
  simp only [add_bk]
  refine hs.lI 1 rfl rfl ?_
  refine hs.lI 2 rfl rfl ?_
  simp only [beq_self_eq_true, cond_true]
  refine hs.lI 1 rfl rfl ?_
  refine hs.lI 2 rfl rfl ?_
  simp only [beq_self_eq_true, cond_true]
  refine hs.lI 1 rfl rfl ?_
  refine hs.lI 2 rfl rfl ?_
  simp only [beq_self_eq_true, cond_true]
  refine hs.lI 1 rfl rfl ?_
  refine hs.lI 2 rfl rfl ?_
  simp only [beq_self_eq_true, cond_true]
  refine hs.lL 1 rfl rfl ?_
  refine (h1.ext hx).b2s ?_
  refine hs.lL 2 rfl rfl ?_
  refine (h2.ext hx).b2s ?_
  simp only [beq_self_eq_true]
  exact hK h4 hx
/-- two lists of ports that read alike -/
theorem c_sames {s1 s2 : Sl} {ps : List PS} {h : Hp} {K : Bool → Hp → Prop} (h1 : Own h 72 3 s1 (sts ps)) (h2 : Own h 72 3 s2 (sts ps)) (hl : ps.length ≤ 1099511627776) (hK : K true h) : C23 s1 s2 h K := by
  apply S23; unfold N23
  have n1 : s1.n = ps.length := by have := h1.1; rw [sts_len] at this; omega
  have n2 : s2.n = ps.length := by have := h2.1; rw [sts_len] at this; omega
  have : (((s1.n : Nat) : Int) != ((s2.n : Nat) : Int)) = false := by rw [n1, n2]; simp
  rw [this, cond_false]
  unfold N23_l0
  refine loopP_inv (fun (x : Int) hc => hc = h ∧ ∃ i : Nat, x = i ∧ i ≤ ps.length) (fun x _ => ps.length - x.toNat) ?_ ⟨rfl, 0, rfl, Nat.zero_le _⟩
  rintro x hc ⟨rfl, i, rfl, hi⟩
  unfold N23_l0_B N23_l0_b
  by_cases hlt : i < ps.length
  · rw [dec_lt (by omega), cond_true]
    have hp : ps[i]? = some ps[i] := List.getElem?_eq_getElem hlt
    generalize ps[i] = p at hp
    have key : ∀ {l : List PS} {i : Nat} {p : PS}, l[i]? = some p → (sts l)[i * 3]? = some (.int .i64 p.n) ∧ (sts l)[i * 3 + 1]? = some (.int .i64 (p.l.length : Int)) ∧ (sts l)[i * 3 + 2]? = some (.int .i64 p.dr) := by
      intro l
      induction l with
      | nil => intro i p h; simp at h
      | cons y l ih =>
        intro i p h
        have e : sts (y :: l) = st3 y ++ sts l := rfl
        rw [e]
        cases i with
        | zero => simp at h; subst h; exact ⟨rfl, rfl, rfl⟩
        | succ i =>
          have := ih (i := i) (p := p) (by simpa using h)
          have hl3 : (st3 y).length = 3 := rfl
          rw [List.getElem?_append_right (by omega), List.getElem?_append_right (by omega), List.getElem?_append_right (by omega), hl3, show (i + 1) * 3 - 3 = i * 3 by omega, show (i + 1) * 3 + 1 - 3 = i * 3 + 1 by omega, show (i + 1) * 3 + 2 - 3 = i * 3 + 2 by omega]
          exact this
    obtain ⟨k0, k1, k2⟩ := key hp
    obtain ⟨b, hb, c0⟩ := h1.get k0
    obtain ⟨_, hb1, c1⟩ := h1.get k1
    rw [hb] at hb1; cases hb1
    obtain ⟨_, hb1, c2⟩ := h1.get k2
    rw [hb] at hb1; cases hb1
    obtain ⟨b', hb', d0⟩ := h2.get k0
    obtain ⟨_, hb1, d1⟩ := h2.get k1
    rw [hb'] at hb1; cases hb1
    obtain ⟨_, hb1, d2⟩ := h2.get k2
    rw [hb'] at hb1; cases hb1
    refine idx_of (by omega) (by omega) ?_
    rw [hb]
    simp only [nn_some', Int.toNat_natCast, add_mk, Nat.zero_add, c0, c1, c2, xI_some]
    refine idx_of (by omega) (by omega) ?_
    rw [hb']
    simp only [nn_some', add_mk, Nat.zero_add, d0, d1, d2, xI_some, beq_self_eq_true, Bool.and_self, Bool.not_true, cond_false]
    rw [nat_succ64 (by omega)]
    exact ⟨⟨trivial, i + 1, rfl, hlt⟩, by omega⟩
  · rw [dec_ge (by omega), cond_false]
    exact hK
end Go.Proofs.Ytabihmedfopdcaa

set_option linter.unusedVariables false
set_option maxRecDepth 100000
namespace Go.Proofs.Ytabihmedfopdcaa
open Go Go.Hw
/-! ### 21 (*slipway/slipwaylaw13.kept).stands -/
noncomputable def B21 : Code := match Try.f21.body with | some c => c | none => .skip
def N21_l0_b (x0_k : Option Addr) (Φ : Int → Hp → Prop) (x3_i : Int) (h : Hp) (K_e0 : Hp → Prop) (K_ret : Bool → Hp → Prop) : Prop :=
  nn x0_k fun a0 =>
  xL (cell h (a0.add 1)) fun s0 =>
  bif (decide (x3_i < ((s0.n : Nat) : Int))) then
    nn x0_k fun a1 =>
    xL (cell h (a1.add 1)) fun s1 =>
    idx x3_i s1.n <|
    nn s1.p fun a2 =>
    xL (cell h (a2.add (x3_i.toNat * 1))) fun s2 =>
    nn x0_k fun a3 =>
    xL (cell h (a3.add 2)) fun s3 =>
    idx x3_i s3.n <|
    nn s3.p fun a4 =>
    xL (cell h (a4.add (x3_i.toNat * 1))) fun s4 =>
    C23 s2 s4 h fun b0 h0 =>
    bif (!b0) then
      K_ret false h0
    else
      Φ (IntKind.wrap .i64 (x3_i + 1)) h0
  else
    K_e0 h
def N21_l0_B (x0_k : Option Addr) (K_e0 : Hp → Prop) (K_ret : Bool → Hp → Prop) (s : Sg.T [(3, .c (.int .i64))]) (h : Hp) (Φ : Sg.T [(3, .c (.int .i64))] → Hp → Prop) : Prop :=
  N21_l0_b x0_k (fun x3_i h => Φ x3_i h) s h K_e0 K_ret
def N21_l0 (x0_k : Option Addr) (x3_i : Int) (h : Hp) (K_e0 : Hp → Prop) (K_ret : Bool → Hp → Prop) : Prop :=
  loopP (N21_l0_B x0_k K_e0 K_ret) x3_i h
noncomputable def N21_l0_t : Xf := loopT [(0, .c (.ptr))] [(3, .c (.int .i64))] (codeAt B21 [1, 0, 1, 0, 0]) fun F Q => N21_l0_B F (fun h' => Q (.exit 0) (Sg.env [] ()) h') (fun o0 h' => Q .ret (Sg.env [(2, .c (.bool))] o0) h')
theorem N21_l0_ok : Sound Try.prog Try.f21.ntmps N21_l0_t (codeAt B21 [1, 0, 1, 0]) := by
  refine loop_sound (fun e => match e with | .exit 0 => [] | .ret => [2] | _ => []) (by kernel_rfl) ?_
  intro F Q s h Φ hb
  refine den_sound hE hm _ (.two .leaf (.two (.one (.two (.ord [0, 1, 2, 3, 4, 5, 6, 7, 8, 9, 10, 11, 12, 13, 14, 15]) .leaf)) .leaf)) _ _ _ (⟨annOk_leaf, ⟨⟨trivial, annOk_leaf⟩, annOk_leaf⟩⟩) ?_
  refine cast ?_ hb
  kernel_rfl
def N21_l2_b (x0_k : Option Addr) (x5_grown : Sl) (x6_i : Int) (x7_g : Sl) (Φ : Int → Hp → Prop) (x8_n : Int) (h : Hp) (K_e4 : Hp → Prop) : Prop :=
  bif (decide (x8_n < ((x7_g.n : Nat) : Int))) then
    idx x8_n x7_g.n <|
    nn x7_g.p fun a0 =>
    st h (a0.add (x8_n.toNat * 3)) (.int .i64 (IntKind.wrap .i64 ((-1000) - x6_i))) fun h0 =>
    st h0 ((a0.add (x8_n.toNat * 3)).add 1) (.int .i64 x8_n) fun h1 =>
    st h1 ((a0.add (x8_n.toNat * 3)).add 2) (.int .i64 0) fun h2 =>
    Φ (IntKind.wrap .i64 (x8_n + 1)) h2
  else
    K_e4 h
def N21_l2_B (x0_k : Option Addr) (x5_grown : Sl) (x6_i : Int) (x7_g : Sl) (K_e4 : Hp → Prop) (s : Sg.T [(8, .c (.int .i64))]) (h : Hp) (Φ : Sg.T [(8, .c (.int .i64))] → Hp → Prop) : Prop :=
  N21_l2_b x0_k x5_grown x6_i x7_g (fun x8_n h => Φ x8_n h) s h K_e4
def N21_l2 (x0_k : Option Addr) (x5_grown : Sl) (x6_i : Int) (x7_g : Sl) (x8_n : Int) (h : Hp) (K_e4 : Hp → Prop) : Prop :=
  loopP (N21_l2_B x0_k x5_grown x6_i x7_g K_e4) x8_n h
noncomputable def N21_l2_t : Xf := loopT [(0, .c (.ptr)), (5, .c (.slice)), (6, .c (.int .i64)), (7, .c (.slice))] [(8, .c (.int .i64))] (codeAt B21 [1, 1, 1, 0, 1, 0, 0, 1, 0, 0, 1, 0, 1, 0, 0]) fun F Q => N21_l2_B F.1 F.2.1 F.2.2.1 F.2.2.2 (fun h' => Q (.exit 4) (Sg.env [] ()) h')
theorem N21_l2_ok : Sound Try.prog Try.f21.ntmps N21_l2_t (codeAt B21 [1, 1, 1, 0, 1, 0, 0, 1, 0, 0, 1, 0, 1, 0]) := by
  refine loop_sound (fun e => match e with | .exit 4 => [] | _ => []) (by kernel_rfl) ?_
  intro F Q s h Φ hb
  refine den_sound hE hm _ .leaf _ _ _ (annOk_leaf) ?_
  refine cast ?_ hb
  kernel_rfl
def N21_l3_b (x0_k : Option Addr) (x5_grown : Sl) (x6_i : Int) (Φ : Sl → Int → Hp → Prop) (x7_g : Sl) (x9_n : Int) (h : Hp) (K_e6 : Sl → Hp → Prop) : Prop :=
  bif (decide (x9_n < 9)) then
    nw h (.cells ⟨[.int .i64 (IntKind.wrap .i64 ((-1000) - x6_i)), .int .i64 ((x7_g.n : Nat) : Int), .int .i64 0]⟩ 72) fun b0 h0 =>
    apK Try.prog 72 x7_g (.slice (some (bk b0)) 1 1) h0 fun s0 h1 =>
    Φ s0 (IntKind.wrap .i64 (x9_n + 1)) h1
  else
    K_e6 x7_g h
def N21_l3_B (x0_k : Option Addr) (x5_grown : Sl) (x6_i : Int) (K_e6 : Sl → Hp → Prop) (s : Sg.T [(7, .c (.slice)), (9, .c (.int .i64))]) (h : Hp) (Φ : Sg.T [(7, .c (.slice)), (9, .c (.int .i64))] → Hp → Prop) : Prop :=
  N21_l3_b x0_k x5_grown x6_i (fun x7_g x9_n h => Φ (x7_g, x9_n) h) s.1 s.2 h K_e6
def N21_l3 (x0_k : Option Addr) (x5_grown : Sl) (x6_i : Int) (x7_g : Sl) (x9_n : Int) (h : Hp) (K_e6 : Sl → Hp → Prop) : Prop :=
  loopP (N21_l3_B x0_k x5_grown x6_i K_e6) (x7_g, x9_n) h
noncomputable def N21_l3_t : Xf := loopT [(0, .c (.ptr)), (5, .c (.slice)), (6, .c (.int .i64))] [(7, .c (.slice)), (9, .c (.int .i64))] (codeAt B21 [1, 1, 1, 0, 1, 0, 0, 1, 0, 0, 1, 1, 0, 1, 0, 0]) fun F Q => N21_l3_B F.1 F.2.1 F.2.2 (fun o0 h' => Q (.exit 6) (Sg.env [(7, .c (.slice))] o0) h')
theorem N21_l3_ok : Sound Try.prog Try.f21.ntmps N21_l3_t (codeAt B21 [1, 1, 1, 0, 1, 0, 0, 1, 0, 0, 1, 1, 0, 1, 0]) := by
  refine loop_sound (fun e => match e with | .exit 6 => [7] | _ => []) (by kernel_rfl) ?_
  intro F Q s h Φ hb
  refine den_sound hE hm _ .leaf _ _ _ (annOk_leaf) ?_
  refine cast ?_ hb
  kernel_rfl
def N21_l1_b (x0_k : Option Addr) (Φ : Sl → Int → Hp → Prop) (x5_grown : Sl) (x6_i : Int) (h : Hp) (K_e2 : Sl → Hp → Prop) : Prop :=
  nn x0_k fun a0 =>
  xL (cell h (a0.add 1)) fun s0 =>
  bif (decide (x6_i < ((s0.n : Nat) : Int))) then
    nn x0_k fun a1 =>
    xL (cell h (a1.add 1)) fun s1 =>
    idx x6_i s1.n <|
    nn s1.p fun a2 =>
    xL (cell h (a2.add (x6_i.toNat * 1))) fun s2 =>
    N21_l2 x0_k x5_grown x6_i s2 0 h
      (fun h0 =>
        N21_l3 x0_k x5_grown x6_i s2 0 h0
          (fun s3 h1 =>
            nw h1 (.cells ⟨[.slice s3.p s3.n s3.c]⟩ 25) fun b0 h2 =>
            apK Try.prog 25 x5_grown (.slice (some (bk b0)) 1 1) h2 fun s4 h3 =>
            Φ s4 (IntKind.wrap .i64 (x6_i + 1)) h3))
  else
    K_e2 x5_grown h
def N21_l1_B (x0_k : Option Addr) (K_e2 : Sl → Hp → Prop) (s : Sg.T [(5, .c (.slice)), (6, .c (.int .i64))]) (h : Hp) (Φ : Sg.T [(5, .c (.slice)), (6, .c (.int .i64))] → Hp → Prop) : Prop :=
  N21_l1_b x0_k (fun x5_grown x6_i h => Φ (x5_grown, x6_i) h) s.1 s.2 h K_e2
def N21_l1 (x0_k : Option Addr) (x5_grown : Sl) (x6_i : Int) (h : Hp) (K_e2 : Sl → Hp → Prop) : Prop :=
  loopP (N21_l1_B x0_k K_e2) (x5_grown, x6_i) h
noncomputable def N21_l1_t : Xf := loopT [(0, .c (.ptr))] [(5, .c (.slice)), (6, .c (.int .i64))] (codeAt B21 [1, 1, 1, 0, 1, 0, 0]) fun F Q => N21_l1_B F (fun o0 h' => Q (.exit 2) (Sg.env [(5, .c (.slice))] o0) h')
theorem N21_l1_ok : Sound Try.prog Try.f21.ntmps N21_l1_t (codeAt B21 [1, 1, 1, 0, 1, 0]) := by
  refine loop_sound (fun e => match e with | .exit 2 => [5] | _ => []) (by kernel_rfl) ?_
  intro F Q s h Φ hb
  refine den_sound hE hm _ (.two .leaf (.two (.one (.two .leaf (.two (.two .leaf (.one (.xf N21_l2_t))) (.two (.two .leaf (.one (.xf N21_l3_t))) .leaf)))) .leaf)) _ _ _ (⟨annOk_leaf, ⟨⟨annOk_leaf, ⟨⟨annOk_leaf, N21_l2_ok⟩, ⟨⟨annOk_leaf, N21_l3_ok⟩, annOk_leaf⟩⟩⟩, annOk_leaf⟩⟩) ?_
  refine cast ?_ hb
  kernel_rfl
def N21_l5_b (x0_k : Option Addr) (x5_grown : Sl) (x10_i : Int) (x11_l : Sl) (Φ : Int → Hp → Prop) (x12_n : Int) (h : Hp) (K_e10 : Hp → Prop) (K_ret : Bool → Hp → Prop) : Prop :=
  idx x10_i x5_grown.n <|
  nn x5_grown.p fun a0 =>
  xL (cell h (a0.add (x10_i.toNat * 1))) fun s0 =>
  bif (decide (x12_n < ((s0.n : Nat) : Int))) then
    nw h (.cells ⟨[.int .i64 0, .int .i64 0, .int .i64 0]⟩ 72) fun b0 h0 =>
    st h0 (bk b0) (.int .i64 (IntKind.wrap .i64 ((-1000) - x10_i))) fun h1 =>
    st h1 ((bk b0).add 1) (.int .i64 x12_n) fun h2 =>
    st h2 ((bk b0).add 2) (.int .i64 0) fun h3 =>
    idx x10_i x5_grown.n <|
    nn x5_grown.p fun a1 =>
    xL (cell h3 (a1.add (x10_i.toNat * 1))) fun s1 =>
    idx x12_n s1.n <|
    nn s1.p fun a2 =>
    xI .i64 (cell h3 (a2.add (x12_n.toNat * 3))) fun n0 =>
    xI .i64 (cell h3 ((a2.add (x12_n.toNat * 3)).add 1)) fun n1 =>
    xI .i64 (cell h3 ((a2.add (x12_n.toNat * 3)).add 2)) fun n2 =>
    xI .i64 (cell h3 (bk b0)) fun n3 =>
    xI .i64 (cell h3 ((bk b0).add 1)) fun n4 =>
    xI .i64 (cell h3 ((bk b0).add 2)) fun n5 =>
    bif (!((n0 == n3) && ((n1 == n4) && ((n2 == n5) && true)))) then
      K_ret false h3
    else
      bif (decide (x12_n < ((x11_l.n : Nat) : Int))) then
        idx x12_n x11_l.n <|
        nn x11_l.p fun a3 =>
        xI .i64 (cell h3 (a3.add (x12_n.toNat * 3))) fun n6 =>
        xI .i64 (cell h3 ((a3.add (x12_n.toNat * 3)).add 1)) fun n7 =>
        xI .i64 (cell h3 ((a3.add (x12_n.toNat * 3)).add 2)) fun n8 =>
        xI .i64 (cell h3 (bk b0)) fun n9 =>
        xI .i64 (cell h3 ((bk b0).add 1)) fun n10 =>
        xI .i64 (cell h3 ((bk b0).add 2)) fun n11 =>
        bif (!((n6 == n9) && ((n7 == n10) && ((n8 == n11) && true)))) then
          K_ret false h3
        else
          Φ (IntKind.wrap .i64 (x12_n + 1)) h3
      else
        Φ (IntKind.wrap .i64 (x12_n + 1)) h3
  else
    K_e10 h
def N21_l5_B (x0_k : Option Addr) (x5_grown : Sl) (x10_i : Int) (x11_l : Sl) (K_e10 : Hp → Prop) (K_ret : Bool → Hp → Prop) (s : Sg.T [(12, .c (.int .i64))]) (h : Hp) (Φ : Sg.T [(12, .c (.int .i64))] → Hp → Prop) : Prop :=
  N21_l5_b x0_k x5_grown x10_i x11_l (fun x12_n h => Φ x12_n h) s h K_e10 K_ret
def N21_l5 (x0_k : Option Addr) (x5_grown : Sl) (x10_i : Int) (x11_l : Sl) (x12_n : Int) (h : Hp) (K_e10 : Hp → Prop) (K_ret : Bool → Hp → Prop) : Prop :=
  loopP (N21_l5_B x0_k x5_grown x10_i x11_l K_e10 K_ret) x12_n h
noncomputable def N21_l5_t : Xf := loopT [(0, .c (.ptr)), (5, .c (.slice)), (10, .c (.int .i64)), (11, .c (.slice))] [(12, .c (.int .i64))] (codeAt B21 [1, 1, 1, 1, 0, 1, 0, 0, 1, 0, 0, 1, 1, 0, 0]) fun F Q => N21_l5_B F.1 F.2.1 F.2.2.1 F.2.2.2 (fun h' => Q (.exit 10) (Sg.env [] ()) h') (fun o0 h' => Q .ret (Sg.env [(2, .c (.bool))] o0) h')
theorem N21_l5_ok : Sound Try.prog Try.f21.ntmps N21_l5_t (codeAt B21 [1, 1, 1, 1, 0, 1, 0, 0, 1, 0, 0, 1, 1, 0]) := by
  refine loop_sound (fun e => match e with | .exit 10 => [] | .ret => [2] | _ => []) (by kernel_rfl) ?_
  intro F Q s h Φ hb
  refine den_sound hE hm _ (.two .leaf (.two (.one (.two .leaf (.two (.ord [0, 1, 2, 3, 4, 5, 6, 7, 8, 9, 10, 11, 12, 13, 14, 15, 16, 17, 18, 19, 20, 21, 22]) .leaf))) .leaf)) _ _ _ (⟨annOk_leaf, ⟨⟨annOk_leaf, ⟨trivial, annOk_leaf⟩⟩, annOk_leaf⟩⟩) ?_
  refine cast ?_ hb
  kernel_rfl
def N21_l4_b (x0_k : Option Addr) (x5_grown : Sl) (Φ : Int → Hp → Prop) (x10_i : Int) (h : Hp) (K_e8 : Hp → Prop) (K_ret : Bool → Hp → Prop) : Prop :=
  bif (decide (x10_i < ((x5_grown.n : Nat) : Int))) then
    nn x0_k fun a0 =>
    xL (cell h (a0.add 1)) fun s0 =>
    idx x10_i s0.n <|
    nn s0.p fun a1 =>
    xL (cell h (a1.add (x10_i.toNat * 1))) fun s1 =>
    N21_l5 x0_k x5_grown x10_i s1 0 h
      (fun h0 =>
        Φ (IntKind.wrap .i64 (x10_i + 1)) h0)
      (fun b0 h1 =>
        K_ret b0 h1)
  else
    K_e8 h
def N21_l4_B (x0_k : Option Addr) (x5_grown : Sl) (K_e8 : Hp → Prop) (K_ret : Bool → Hp → Prop) (s : Sg.T [(10, .c (.int .i64))]) (h : Hp) (Φ : Sg.T [(10, .c (.int .i64))] → Hp → Prop) : Prop :=
  N21_l4_b x0_k x5_grown (fun x10_i h => Φ x10_i h) s h K_e8 K_ret
def N21_l4 (x0_k : Option Addr) (x5_grown : Sl) (x10_i : Int) (h : Hp) (K_e8 : Hp → Prop) (K_ret : Bool → Hp → Prop) : Prop :=
  loopP (N21_l4_B x0_k x5_grown K_e8 K_ret) x10_i h
noncomputable def N21_l4_t : Xf := loopT [(0, .c (.ptr)), (5, .c (.slice))] [(10, .c (.int .i64))] (codeAt B21 [1, 1, 1, 1, 0, 1, 0, 0]) fun F Q => N21_l4_B F.1 F.2 (fun h' => Q (.exit 8) (Sg.env [] ()) h') (fun o0 h' => Q .ret (Sg.env [(2, .c (.bool))] o0) h')
theorem N21_l4_ok : Sound Try.prog Try.f21.ntmps N21_l4_t (codeAt B21 [1, 1, 1, 1, 0, 1, 0]) := by
  refine loop_sound (fun e => match e with | .exit 8 => [] | .ret => [2] | _ => []) (by kernel_rfl) ?_
  intro F Q s h Φ hb
  refine den_sound hE hm _ (.two .leaf (.two (.one (.two .leaf (.two .leaf (.one (.xf N21_l5_t))))) .leaf)) _ _ _ (⟨annOk_leaf, ⟨⟨annOk_leaf, ⟨annOk_leaf, N21_l5_ok⟩⟩, annOk_leaf⟩⟩) ?_
  refine cast ?_ hb
  kernel_rfl
def N21 (x0 : Option Addr) (h : Hp) (K : Bool → Hp → Prop) : Prop :=
  N21_l0 x0 0 h
    (fun h0 =>
      N21_l1 x0 ⟨none, 0, 0⟩ 0 h0
        (fun s0 h1 =>
          N21_l4 x0 s0 0 h1
            (fun h2 =>
              nn x0 fun a0 =>
              xP (cell h2 a0) fun p0 =>
              C47 p0 h2 fun b0 h3 =>
              K b0 h3)
            (fun b1 h4 =>
              K b1 h4)))
    (fun b2 h5 =>
      K b2 h5)
theorem S21 {x0 : Option Addr} {h : Hp} {K : Bool → Hp → Prop} (hn : N21 x0 h K) : C21 x0 h K := by
  refine calls_of_D Try.func21 (c := B21) rfl (by kernel_rfl) ?_
  refine den_sound hE hm _ (.two .leaf (.two (.two .leaf (.one (.xf N21_l0_t))) (.two .leaf (.two (.two .leaf (.one (.xf N21_l1_t))) (.two (.two .leaf (.one (.xf N21_l4_t))) .leaf))))) _ _ _ (⟨annOk_leaf, ⟨⟨annOk_leaf, N21_l0_ok⟩, ⟨annOk_leaf, ⟨⟨annOk_leaf, N21_l1_ok⟩, ⟨⟨annOk_leaf, N21_l4_ok⟩, annOk_leaf⟩⟩⟩⟩⟩) ?_
  refine cast ?_ hn
  kernel_rfl
end Go.Proofs.Ytabihmedfopdcaa

/-
  Lists of elements of three numbers that came out, kept: all of them are their owner's.
-/
set_option linter.unusedSimpArgs false
set_option linter.unusedVariables false
namespace Go.Proofs.Ytabihmedfopdcaa
open Go Go.Hw

theorem e3_a : Try.prog.cellsOf 72 = 3 := by kernel_rfl
theorem e3_z : (zc Try.prog 72).length = 3 := by kernel_rfl
theorem e3_b : Try.prog.bytesOf 72 = 24 := by kernel_rfl
theorem l3_a : Try.prog.cellsOf 25 = 1 := by kernel_rfl
theorem l3_z : (zc Try.prog 25).length = 1 := by kernel_rfl
theorem l3_b : Try.prog.bytesOf 25 = 24 := by kernel_rfl

/-- a list, what it must be, and what it reads as -/
abbrev E3 := Sl × Sl × List Value
def own3 (e : E3) : Asn := Hw.own 72 3 e.1 e.2.2
def wer3 (e : E3) : Asn := Hw.own 72 3 e.2.1 e.2.2
def kept0 (k : Nat) (pre : List Value) (E : List E3) : Asn := exs fun p : Sl × Sl => star [row k 66 (pre ++ [p.1.v, p.2.v]), Hw.own 25 1 p.1 (E.map fun e => e.1.v), Hw.own 25 1 p.2 (E.map fun e => e.2.1.v)]
theorem unex3 {α : Type} {L : List Asn} {A : α → Asn} {h : Hp} (hs : Sat (L ++ [exs A]) h) : ∃ a, Sat (L ++ [A a]) h := by
  obtain ⟨F, h1, h2⟩ := hs
  obtain ⟨a, ha⟩ := h1 L.length (exs A) (by simp)
  refine ⟨a, F, fun i B hi => ?_, by simpa using h2⟩
  by_cases e : i < L.length
  · rw [List.getElem?_append_left e] at hi
    exact h1 i B (by rw [List.getElem?_append_left e]; exact hi)
  · have := lt_of_get hi
    simp at this
    have : i = L.length := by omega
    subst this
    simp at hi; subst hi; exact ha
theorem ex3 {α : Type} {L : List Asn} {A : α → Asn} {h : Hp} (a : α) (hs : Sat (L ++ [A a]) h) : Sat (L ++ [exs A]) h := hs.imp 0 rfl fun F hF => ⟨a, hF⟩
theorem kept0_open {L : List Asn} {k : Nat} {pre : List Value} {E : List E3} {h : Hp} (hs : Sat (L ++ [kept0 k pre E]) h) :
    ∃ p q : Sl, Sat (L ++ [row k 66 (pre ++ [p.v, q.v]), Hw.own 25 1 p (E.map fun e => e.1.v), Hw.own 25 1 q (E.map fun e => e.2.1.v)]) h := by
  obtain ⟨⟨p, q⟩, hs⟩ := unex3 hs
  exact ⟨p, q, hs.open⟩
theorem kept0_shut {L : List Asn} {k : Nat} {pre : List Value} {E : List E3} {h : Hp} {p q : Sl} (hs : Sat (L ++ [row k 66 (pre ++ [p.v, q.v]), Hw.own 25 1 p (E.map fun e => e.1.v), Hw.own 25 1 q (E.map fun e => e.2.1.v)]) h) : Sat (L ++ [kept0 k pre E]) h :=
  ex3 (A := fun p : Sl × Sl => star [row k 66 (pre ++ [p.1.v, p.2.v]), Hw.own 25 1 p.1 (E.map fun e => e.1.v), Hw.own 25 1 p.2 (E.map fun e => e.2.1.v)]) (p, q) hs.close

/-! ### marks -/
def mr3 (i j : Nat) : List Value := [.int .i64 (-1000 - (i : Int)), .int .i64 (j : Int), .int .i64 0]
def mk3 (i n : Nat) : List Value := (List.range n).flatMap (mr3 i)
theorem mk3_succ (i n : Nat) : mk3 i (n + 1) = mk3 i n ++ mr3 i n := by simp [mk3, List.range_succ, List.flatMap_append]
theorem mk3_len (i n : Nat) : (mk3 i n).length = n * 3 := by
  induction n with
  | zero => rfl
  | succ n ih => rw [mk3_succ, List.length_append, ih]; simp [mr3]; omega
theorem mk3_get (i : Nat) {n j : Nat} (hj : j < n) : (mk3 i n)[j * 3]? = some (.int .i64 (-1000 - (i : Int))) ∧ (mk3 i n)[j * 3 + 1]? = some (.int .i64 (j : Int)) ∧ (mk3 i n)[j * 3 + 2]? = some (.int .i64 0) := by
  induction n with
  | zero => omega
  | succ n ih =>
    rw [mk3_succ]
    by_cases e : j < n
    · have := mk3_len i n
      rw [List.getElem?_append_left (by omega), List.getElem?_append_left (by omega), List.getElem?_append_left (by omega)]
      exact ih e
    · have : j = n := by omega
      subst this
      have := mk3_len i j
      rw [List.getElem?_append_right (by omega), List.getElem?_append_right (by omega), List.getElem?_append_right (by omega)]
      rw [show j * 3 - (mk3 i j).length = 0 by omega, show j * 3 + 1 - (mk3 i j).length = 1 by omega, show j * 3 + 2 - (mk3 i j).length = 2 by omega]
      exact ⟨rfl, rfl, rfl⟩
theorem mk3_take (i : Nat) {n m : Nat} (h : m ≤ n) : (mk3 i n).take (m * 3) = mk3 i m := by
  induction n with
  | zero => have : m = 0 := by omega
            subst this; rfl
  | succ n ih =>
    by_cases e : m ≤ n
    · rw [mk3_succ, List.take_append_of_le_length (by rw [mk3_len]; omega)]; exact ih e
    · have : m = n + 1 := by omega
      subst this
      rw [List.take_of_length_le (by rw [mk3_len]; omega)]
theorem mk3_set {i n : Nat} {vs : List Value} (h : (n + 1) * 3 ≤ vs.length) :
    (((mk3 i n ++ vs.drop (n * 3)).set (n * 3) (.int .i64 (-1000 - (i : Int)))).set (n * 3 + 1) (.int .i64 (n : Int))).set (n * 3 + 2) (.int .i64 0) = mk3 i (n + 1) ++ vs.drop ((n + 1) * 3) := by
  have hl := mk3_len i n
  rw [List.drop_eq_getElem_cons (show n * 3 < vs.length by omega), List.drop_eq_getElem_cons (show n * 3 + 1 < vs.length by omega), List.drop_eq_getElem_cons (show n * 3 + 1 + 1 < vs.length by omega)]
  rw [List.set_append_right _ _ (by omega), List.set_append_right _ _ (by omega), List.set_append_right _ _ (by omega)]
  rw [show n * 3 - (mk3 i n).length = 0 by omega, show n * 3 + 1 - (mk3 i n).length = 1 by omega, show n * 3 + 2 - (mk3 i n).length = 2 by omega]
  simp only [List.set_cons_zero, List.set_cons_succ]
  rw [mk3_succ, show (n + 1) * 3 = n * 3 + 1 + 1 + 1 by omega]
  simp [mr3]
theorem wmark {i : Nat} (hi : i ≤ 1099511627776) : IntKind.wrap .i64 ((-1000) - (i : Int)) = -1000 - (i : Int) := wi64i (by omega) (by omega)

/-- one list is written over with marks -/
theorem stands2 {L : List Asn} {kk : Option Addr} {gr s : Sl} {i : Nat} {vs : List Value} {h : Hp} {Ke : Hp → Prop} (hs : Sat (L ++ [Hw.own 72 3 s vs]) h) (hi : i ≤ 1099511627776) (hl : s.n ≤ 1099511627776)
    (hK : ∀ h', Sat (L ++ [Hw.own 72 3 s (mk3 i s.n)]) h' → Ke h') : N21_l2 kk gr i s 0 h Ke := by
  unfold N21_l2
  have sn := (hs.own 0 rfl).1
  refine loopP_inv (fun (x : Int) hc => ∃ n : Nat, x = n ∧ n ≤ s.n ∧ Sat (L ++ [Hw.own 72 3 s (mk3 i n ++ vs.drop (n * 3))]) hc) (fun x _ => s.n - x.toNat) ?_ ⟨0, rfl, Nat.zero_le _, by simpa [mk3] using hs⟩
  rintro x hc ⟨n, rfl, hn, hs⟩
  unfold N21_l2_B N21_l2_b
  by_cases hlt : n < s.n
  · have : decide ((n : Int) < ((s.n : Nat) : Int)) = true := by simp; omega
    rw [this, cond_true]
    refine idx_of (by omega) (by omega) ?_
    have hle : (n + 1) * 3 ≤ vs.length := by omega
    obtain ⟨b, hb, _⟩ := hs.cel 0 (k := n * 3) (v := (mk3 i n ++ vs.drop (n * 3))[n * 3]'(by rw [List.length_append, mk3_len, List.length_drop]; omega)) rfl (List.getElem?_eq_getElem _)
    simp only [hb, nn_some', Int.toNat_natCast]
    rw [wmark hi]
    refine hs.stO 0 rfl (by rw [List.length_append, mk3_len, List.length_drop]; omega) rfl hb ?_
    intro h1 hs1
    simp only [List.set_cons_zero, addadd] at hs1 ⊢
    refine hs1.stO 0 rfl (by rw [List.length_set, List.length_append, mk3_len, List.length_drop]; omega) rfl hb ?_
    intro h2 hs2
    simp only [List.set_cons_zero] at hs2
    refine hs2.stO 0 rfl (by rw [List.length_set, List.length_set, List.length_append, mk3_len, List.length_drop]; omega) rfl hb ?_
    intro h3 hs3
    simp only [List.set_cons_zero] at hs3
    rw [mk3_set hle] at hs3
    rw [nat_succ64 (by omega)]
    exact ⟨⟨n + 1, rfl, hlt, hs3⟩, by omega⟩
  · have : decide ((n : Int) < ((s.n : Nat) : Int)) = false := by simp; omega
    rw [this, cond_false]
    have : n = s.n := by omega
    subst this
    refine hK _ ?_
    rw [← sn, List.drop_length, List.append_nil] at hs; exact hs

/-- a list that is marked and grown: in its place, or beside it -/
def dn3 (i : Nat) (e : E3) (g : Sl) : Asn :=
  orA (star [pur (g.p = e.1.p ∧ g.c = e.1.c ∧ e.1.n ≤ e.1.c), Hw.own 72 3 g (mk3 i (e.1.n + 9))]) (star [Hw.own 72 3 e.1 (mk3 i e.1.n), Hw.own 72 3 g (mk3 i (e.1.n + 9))])
theorem star3_two {A B : Asn} {F : Nat → Prop} {h : Hp} (hh : (star [A, B]).on F h) : (∃ G, A.on G h) ∧ ∃ G, B.on G h := by
  obtain ⟨G, h1, _, _⟩ := hh
  exact ⟨⟨_, h1 0 A rfl⟩, ⟨_, h1 1 B rfl⟩⟩
/-- what it reads as -/
theorem dn3_reads {i : Nat} {e : E3} {g : Sl} {F : Nat → Prop} {h : Hp} (hd : (dn3 i e g).on F h) : g.n = e.1.n + 9 ∧ Rdc h e.1.p (mk3 i e.1.n) ∧ Rdc h g.p (mk3 i (e.1.n + 9)) := by
  rcases hd with hd | hd
  · obtain ⟨⟨_, hp⟩, ⟨_, hg⟩⟩ := star3_two hd
    have hl := hg.2.1
    rw [mk3_len] at hl
    refine ⟨by omega, ?_, hg.2.rdc⟩
    have := hg.2.rdc.take (e.1.n * 3)
    rw [mk3_take i (by omega), hp.2.1] at this; exact this
  · obtain ⟨⟨_, hp⟩, ⟨_, hg⟩⟩ := star3_two hd
    have hl := hg.2.1
    rw [mk3_len] at hl
    exact ⟨by omega, hp.2.rdc, hg.2.rdc⟩

theorem stands3 {L : List Asn} {kk : Option Addr} {gr s : Sl} {i : Nat} {vs : List Value} {h : Hp} {Ke : Sl → Hp → Prop} (hs : Sat (L ++ [Hw.own 72 3 s (mk3 i s.n)]) h) (hi : i ≤ 1099511627776) (hl : s.n ≤ 1099511627776) (w : Sl)
    (hK : ∀ g h', Sat (L ++ [dn3 i (s, w, vs) g]) h' → Ke g h') : N21_l3 kk gr i s 0 h Ke := by
  unfold N21_l3
  have so := hs.own 0 rfl
  have sc := so.2.1
  refine loopP_inv (fun (x : Sl × Int) hc => ∃ n : Nat, x.2 = n ∧ n ≤ 9 ∧ x.1.n = s.n + n ∧
      ((x.1.p = s.p ∧ x.1.c = s.c ∧ Sat (L ++ [Hw.own 72 3 x.1 (mk3 i (s.n + n))]) hc) ∨ Sat (L ++ [Hw.own 72 3 s (mk3 i s.n), Hw.own 72 3 x.1 (mk3 i (s.n + n))]) hc)) (fun x _ => 9 - x.2.toNat) ?_
    ⟨0, rfl, by omega, by first | omega | (dsimp only; omega), .inl ⟨rfl, rfl, hs⟩⟩
  rintro ⟨g, x⟩ hc ⟨n, hx, hn, hgn, hs⟩
  simp only at hx hgn hs
  subst hx
  unfold N21_l3_B N21_l3_b
  dsimp only
  by_cases hlt : n < 9
  · have : decide ((n : Int) < 9) = true := by simp; omega
    rw [this, cond_true]
    rw [wmark hi, nat_succ64 (by omega)]
    have eb : mk3 i (s.n + n) ++ [Value.int .i64 (-1000 - (i : Int)), .int .i64 ((g.n : Nat) : Int), .int .i64 0] = mk3 i (s.n + (n + 1)) := by
      rw [← Nat.add_assoc, mk3_succ, hgn]; rfl
    rcases hs with ⟨hp, hc2, hs⟩ | hs
    · refine hs.push2 0 rfl (k := 1) e3_a e3_z rfl (by intro v hv; simp at hv; rcases hv with rfl | rfl | rfl <;> rfl) (by rw [e3_b]; omega) ?_ ?_
      · intro hle h' hs'
        rw [eb] at hs'
        exact ⟨⟨n + 1, rfl, hlt, by first | omega | (dsimp only; omega), .inl ⟨hp, hc2, hs'⟩⟩, by first | omega | (dsimp only; omega)⟩
      · intro s' h' hn' hs'
        rw [eb] at hs'
        refine ⟨⟨n + 1, rfl, hlt, by first | omega | (dsimp only; omega), .inr ?_⟩, by first | omega | (dsimp only; omega)⟩
        refine hs'.imp 0 rfl ?_
        rintro F ⟨f1, f2⟩
        have fcut := f2.cut (k := s.n) (by omega)
        rw [hp, hc2] at fcut
        refine ⟨fun x => by rw [← hp]; exact f1 x, ?_⟩
        have es : (⟨s.p, s.n, s.c⟩ : Sl) = s := by cases s; rfl
        rw [es, mk3_take i (by omega)] at fcut
        exact fcut
    · refine hs.push 1 rfl (k := 1) e3_a e3_z rfl (by intro v hv; simp at hv; rcases hv with rfl | rfl | rfl <;> rfl) (by rw [e3_b]; omega) ?_
      intro s' h' hs' hn'
      rw [eb] at hs'
      exact ⟨⟨n + 1, rfl, hlt, by first | omega | (dsimp only; omega), .inr hs'⟩, by first | omega | (dsimp only; omega)⟩
  · have : decide ((n : Int) < 9) = false := by simp; omega
    rw [this, cond_false]
    have : n = 9 := by omega
    subst this
    refine hK g hc ?_
    rcases hs with ⟨hp, hc2, hs⟩ | hs
    · have h1 : Sat (L ++ [star [pur (g.p = s.p ∧ g.c = s.c ∧ s.n ≤ s.c), Hw.own 72 3 g (mk3 i (s.n + 9))]]) hc := by
        refine hs.imp 0 rfl fun F hF => ?_
        refine ⟨fun j x => if j = 1 then F x else False, ?_, ?_, ?_⟩
        · intro j A hj
          match j, hj with
          | 0, hj => simp at hj; subst hj; exact ⟨fun x hx => by simp at hx, hp, hc2, sc⟩
          | 1, hj => simp at hj; subst hj; simpa using hF
          | j + 2, hj => simp at hj
        · intro j k x hj hk h1 h2
          simp at h1 h2; omega
        · intro x; constructor
          · intro hx; exact ⟨1, by simp, by simpa using hx⟩
          · rintro ⟨j, _, hx⟩; simp at hx; exact hx.2
      exact h1.imp 0 rfl fun F hF => .inl hF
    · exact hs.close.imp 0 rfl fun F hF => .inr hF

/-- the lists, of which some are done -/
def its3 (E : List E3) (G : List Sl) : List Asn := E.mapIdx fun j e => match G[j]? with
  | some g => dn3 j e g
  | none => own3 e
theorem its3_get {E : List E3} {G : List Sl} {j : Nat} {e : E3} (hj : E[j]? = some e) : (its3 E G)[j]? = some (match G[j]? with | some g => dn3 j e g | none => own3 e) := by
  simp [its3, List.getElem?_mapIdx, hj]
theorem its3_len (E : List E3) (G : List Sl) : (its3 E G).length = E.length := by simp [its3]
theorem its3_nil (E : List E3) : its3 E [] = E.map own3 := by
  apply List.ext_getElem?
  intro j
  simp [its3, List.getElem?_mapIdx]
theorem its3_set {E : List E3} {G : List Sl} {e : E3} {g : Sl} (he : E[G.length]? = some e) : (its3 E G).set G.length (dn3 G.length e g) = its3 E (G ++ [g]) := by
  apply List.ext_getElem?
  intro j
  have hl := lt_of_get he
  by_cases hj : j = G.length
  · subst hj
    rw [List.getElem?_set_self (by rw [its3_len]; exact hl), its3_get he]
    simp
  · rw [List.getElem?_set_ne (fun e => hj e.symm)]
    cases hE : E[j]? with
    | none => simp [its3, List.getElem?_mapIdx, hE]
    | some e' =>
      rw [its3_get hE, its3_get hE]
      congr 1
      by_cases h2 : j < G.length
      · rw [List.getElem?_append_left h2]
      · rw [List.getElem?_eq_none (by omega), List.getElem?_eq_none (by simp; omega)]

theorem stands_walk {L : List Asn} {k kb : Nat} {E : List E3} {h : Hp} {Ke : Hp → Prop} {Kr : Bool → Hp → Prop} (hs : Sat (L ++ [kept0 k [.pointer (some (bk kb))] E, star (E.map own3), star (E.map wer3)]) h) (hE : E.length ≤ 1099511627776) (hl : ∀ e ∈ E, e.1.n ≤ 1099511627776)
    (hsame : ∀ e ∈ E, ∀ h (K : Bool → Hp → Prop), Own h 72 3 e.1 e.2.2 → Own h 72 3 e.2.1 e.2.2 → (∀ h', Ext none' h h' → K true h') → C23 e.1 e.2.1 h K)
    (hK : ∀ h', Sat (L ++ [kept0 k [.pointer (some (bk kb))] E]) h' → Ke h') :
    N21_l0 (some (bk k)) 0 h (fun h0 => N21_l1 (some (bk k)) ⟨none, 0, 0⟩ 0 h0 (fun s0 h1 => N21_l4 (some (bk k)) s0 0 h1 (fun h2 => Ke h2) Kr)) Kr := by
  have hs0 : Sat ((L ++ [star (E.map own3), star (E.map wer3)]) ++ [kept0 k [.pointer (some (bk kb))] E]) h := by
    have := hs.sel [1, 2, 0] (M' := [star (E.map own3), star (E.map wer3), kept0 k [.pointer (some (bk kb))] E]) (by decide) rfl
    simpa using this
  obtain ⟨p, q, hs0⟩ := kept0_open hs0
  have hs1 : Sat (L ++ [row k 66 ([.pointer (some (bk kb))] ++ [p.v, q.v]), Hw.own 25 1 p (E.map fun e => e.1.v), Hw.own 25 1 q (E.map fun e => e.2.1.v), star (E.map own3), star (E.map wer3)]) h := by
    rw [List.append_assoc] at hs0
    exact hs0.sel [2, 3, 4, 0, 1] (by decide) rfl
  clear hs hs0
  have pn : p.n = E.length := by have := (hs1.own 1 rfl).1; simpa using this.symm
  have qn : q.n = E.length := by have := (hs1.own 2 rfl).1; simpa using this.symm
  -- the first loop: they read as they did
  unfold N21_l0
  refine loopP_inv (fun (x : Int) hc => Sat (L ++ [row k 66 ([.pointer (some (bk kb))] ++ [p.v, q.v]), Hw.own 25 1 p (E.map fun e => e.1.v), Hw.own 25 1 q (E.map fun e => e.2.1.v), star (E.map own3), star (E.map wer3)]) hc ∧ ∃ i : Nat, x = i ∧ i ≤ E.length) (fun x _ => E.length - x.toNat) ?_ ⟨hs1, 0, rfl, Nat.zero_le _⟩
  clear hs1
  rintro x hc ⟨hs1, i, rfl, hi⟩
  unfold N21_l0_B N21_l0_b
  have hk := hs1.blk 0 rfl
  have c0 : cell hc ⟨k, 1, none⟩ = some p.v := by rw [hk.cell]; rfl
  have c1 : cell hc ⟨k, 2, none⟩ = some q.v := by rw [hk.cell]; rfl
  simp only [nn_some', add_bk, c0, xL_v]
  by_cases hlt : i < E.length
  · have : decide ((i : Int) < ((p.n : Nat) : Int)) = true := by simp; omega
    rw [this, cond_true]
    have he : E[i]? = some E[i] := List.getElem?_eq_getElem hlt
    obtain ⟨b, hb, hcell⟩ := hs1.cel 1 (k := i) (v := E[i].1.v) rfl (by rw [List.getElem?_map, he]; rfl)
    obtain ⟨b2, hb2, hcell2⟩ := hs1.cel 2 (k := i) (v := E[i].2.1.v) rfl (by rw [List.getElem?_map, he]; rfl)
    refine idx_of (by omega) (by omega) ?_
    rw [hb]
    simp only [nn_some', add_bk, Int.toNat_natCast, Nat.mul_one, hcell, xL_v, c1]
    refine idx_of (by omega) (by omega) ?_
    rw [hb2]
    simp only [nn_some', add_bk, Int.toNat_natCast, Nat.mul_one, hcell2, xL_v]
    have o1 : Own hc 72 3 E[i].1 E[i].2.2 := by
      have h1 : Sat ((L ++ [row k 66 ([.pointer (some (bk kb))] ++ [p.v, q.v]), Hw.own 25 1 p (E.map fun e => e.1.v), Hw.own 25 1 q (E.map fun e => e.2.1.v), star (E.map wer3)]) ++ [star (E.map own3)]) hc := by
        have := hs1.sel [0, 1, 2, 4, 3] (M' := [_, _, _, _, _]) (by decide) rfl
        simpa using this
      exact h1.open.own i (by rw [List.getElem?_map, he]; rfl)
    have o2 : Own hc 72 3 E[i].2.1 E[i].2.2 := by
      have h1 : Sat ((L ++ [row k 66 ([.pointer (some (bk kb))] ++ [p.v, q.v]), Hw.own 25 1 p (E.map fun e => e.1.v), Hw.own 25 1 q (E.map fun e => e.2.1.v), star (E.map own3)]) ++ [star (E.map wer3)]) hc := by simpa using hs1
      exact h1.open.own i (by rw [List.getElem?_map, he]; rfl)
    refine hsame _ (List.getElem_mem hlt) _ _ o1 o2 ?_
    intro h' he'
    simp only [Bool.not_true, cond_false]
    rw [nat_succ64 (by omega)]
    exact ⟨⟨hs1.ext he', i + 1, rfl, hlt⟩, by omega⟩
  · have : decide ((i : Int) < ((p.n : Nat) : Int)) = false := by simp; omega
    rw [this, cond_false]
    clear this hlt hi
    -- the second loop: marked and grown
    have hs5 : Sat (L ++ [row k 66 ([.pointer (some (bk kb))] ++ [p.v, q.v]), Hw.own 25 1 p (E.map fun e => e.1.v), Hw.own 25 1 q (E.map fun e => e.2.1.v), Hw.own 25 1 ⟨none, 0, 0⟩ [], star (its3 E [])]) hc := by
      rw [its3_nil]
      exact (Sat.addNil 25 1 hs1).sel [0, 1, 2, 5, 3] (by decide) rfl
    unfold N21_l1
    refine loopP_inv (fun (x : Sl × Int) hd => ∃ G : List Sl, x.2 = (G.length : Int) ∧ G.length ≤ E.length ∧ Sat (L ++ [row k 66 ([.pointer (some (bk kb))] ++ [p.v, q.v]), Hw.own 25 1 p (E.map fun e => e.1.v), Hw.own 25 1 q (E.map fun e => e.2.1.v), Hw.own 25 1 x.1 (G.map Sl.v), star (its3 E G)]) hd) (fun x _ => E.length - x.2.toNat) ?_
      ⟨[], rfl, Nat.zero_le _, hs5⟩
    clear hs1 hs5 c0 c1 hk
    rintro ⟨gr, x⟩ hd ⟨G, hx, hG, hs⟩
    simp only at hx hs
    subst hx
    have hk := hs.blk 0 rfl
    have c0 : cell hd ⟨k, 1, none⟩ = some p.v := by rw [hk.cell]; rfl
    unfold N21_l1_B N21_l1_b
    simp only [nn_some', add_bk, c0, xL_v]
    have grn : gr.n = G.length := by have := (hs.own 3 rfl).1; simpa using this.symm
    by_cases hlt : G.length < E.length
    · have : decide ((G.length : Int) < ((p.n : Nat) : Int)) = true := by simp; omega
      rw [this, cond_true]
      have he : E[G.length]? = some E[G.length] := List.getElem?_eq_getElem hlt
      generalize hee : E[G.length] = e at he
      obtain ⟨b, hb, hcell⟩ := hs.cel 1 (k := G.length) (v := e.1.v) rfl (by rw [List.getElem?_map, he]; rfl)
      refine idx_of (by omega) (by omega) ?_
      rw [hb]
      simp only [nn_some', add_bk, Int.toNat_natCast, Nat.mul_one, hcell, xL_v]
      have hel := hl e (List.mem_of_getElem? he)
      have hit : (its3 E G)[G.length]? = some (own3 e) := by rw [its3_get he]; simp
      have h0 : Sat ((L ++ [row k 66 ([.pointer (some (bk kb))] ++ [p.v, q.v]), Hw.own 25 1 p (E.map fun e => e.1.v), Hw.own 25 1 q (E.map fun e => e.2.1.v), Hw.own 25 1 gr (G.map Sl.v)]) ++ [star (its3 E G)]) hd := by simpa using hs
      have h1 : Sat ((L ++ [row k 66 ([.pointer (some (bk kb))] ++ [p.v, q.v]), Hw.own 25 1 p (E.map fun e => e.1.v), Hw.own 25 1 q (E.map fun e => e.2.1.v), Hw.own 25 1 gr (G.map Sl.v)] ++ [star ((its3 E G).eraseIdx G.length)]) ++ [Hw.own 72 3 e.1 e.2.2]) hd := by
        have := h0.out G.length hit
        simpa [own3] using this
      refine stands2 h1 (by omega) hel ?_
      intro h2 hs2
      refine stands3 (vs := e.2.2) hs2 (by omega) hel e.2.1 ?_
      intro g h3 hs3
      have h4 : Sat ((L ++ [row k 66 ([.pointer (some (bk kb))] ++ [p.v, q.v]), Hw.own 25 1 p (E.map fun e => e.1.v), Hw.own 25 1 q (E.map fun e => e.2.1.v), Hw.own 25 1 gr (G.map Sl.v)]) ++ [star ((its3 E G).set G.length (dn3 G.length (e.1, e.2.1, e.2.2) g))]) h3 := by
        refine Sat.inn G.length ?_ (lt_of_get hit)
        simpa using hs3
      have eit : (its3 E G).set G.length (dn3 G.length (e.1, e.2.1, e.2.2) g) = its3 E (G ++ [g]) := its3_set he
      rw [eit] at h4
      have h5 : Sat (L ++ [row k 66 ([.pointer (some (bk kb))] ++ [p.v, q.v]), Hw.own 25 1 p (E.map fun e => e.1.v), Hw.own 25 1 q (E.map fun e => e.2.1.v), Hw.own 25 1 gr (G.map Sl.v), star (its3 E (G ++ [g]))]) h3 := by simpa using h4
      refine h5.push 3 rfl (k := 1) l3_a l3_z rfl (by intro v hv; simp at hv; subst hv; rfl) (by rw [l3_b]; omega) ?_
      intro gr' h6 hs6 hn6
      rw [nat_succ64 (by omega)]
      refine ⟨⟨G ++ [g], by simp, by simp; omega, ?_⟩, by first | omega | (dsimp only; omega)⟩
      have eg : (Value.slice g.p g.n g.c) = g.v := rfl
      rw [eg] at hs6
      simpa using hs6
    · have : decide ((G.length : Int) < ((p.n : Nat) : Int)) = false := by simp; omega
      rw [this, cond_false]
      have hGE : G.length = E.length := by omega
      clear this hlt
      -- the last loops: they read so
      unfold N21_l4
      refine loopP_inv (fun (x : Int) hf => Sat (L ++ [row k 66 ([.pointer (some (bk kb))] ++ [p.v, q.v]), Hw.own 25 1 p (E.map fun e => e.1.v), Hw.own 25 1 q (E.map fun e => e.2.1.v), Hw.own 25 1 gr (G.map Sl.v), star (its3 E G)]) hf ∧ ∃ i : Nat, x = i ∧ i ≤ E.length) (fun x _ => E.length - x.toNat) ?_ ⟨hs, 0, rfl, Nat.zero_le _⟩
      clear hk c0 hs
      rintro x hf ⟨hs, i, rfl, hi⟩
      have hk := hs.blk 0 rfl
      have c0 : cell hf ⟨k, 1, none⟩ = some p.v := by rw [hk.cell]; rfl
      unfold N21_l4_B N21_l4_b
      by_cases hlt : i < E.length
      · have : decide ((i : Int) < ((gr.n : Nat) : Int)) = true := by simp; omega
        rw [this, cond_true]
        simp only [nn_some', add_bk, c0, xL_v]
        have he : E[i]? = some E[i] := List.getElem?_eq_getElem hlt
        have hg : G[i]? = some (G[i]'(by omega)) := List.getElem?_eq_getElem (by omega)
        generalize E[i] = e at he
        generalize (G[i]'(by omega)) = g at hg
        have hel := hl e (List.mem_of_getElem? he)
        obtain ⟨b, hb, hcell⟩ := hs.cel 1 (k := i) (v := e.1.v) rfl (by rw [List.getElem?_map, he]; rfl)
        refine idx_of (by omega) (by omega) ?_
        rw [hb]
        simp only [nn_some', add_bk, Int.toNat_natCast, Nat.mul_one, hcell, xL_v]
        clear hcell
        unfold N21_l5
        refine loopP_inv (fun (y : Int) hg => Sat (L ++ [row k 66 ([.pointer (some (bk kb))] ++ [p.v, q.v]), Hw.own 25 1 p (E.map fun e => e.1.v), Hw.own 25 1 q (E.map fun e => e.2.1.v), Hw.own 25 1 gr (G.map Sl.v), star (its3 E G)]) hg ∧ ∃ n : Nat, y = n ∧ n ≤ e.1.n + 9) (fun y _ => e.1.n + 9 - y.toNat) ?_ ⟨hs, 0, rfl, Nat.zero_le _⟩
        clear hs hk c0
        rintro y hf2 ⟨hs, n, rfl, hn⟩
        have reads : ∀ hh, Sat (L ++ [row k 66 ([.pointer (some (bk kb))] ++ [p.v, q.v]), Hw.own 25 1 p (E.map fun e => e.1.v), Hw.own 25 1 q (E.map fun e => e.2.1.v), Hw.own 25 1 gr (G.map Sl.v), star (its3 E G)]) hh → g.n = e.1.n + 9 ∧ Rdc hh e.1.p (mk3 i e.1.n) ∧ Rdc hh g.p (mk3 i (e.1.n + 9)) := by
          intro hh hs
          have h0 : Sat ((L ++ [row k 66 ([.pointer (some (bk kb))] ++ [p.v, q.v]), Hw.own 25 1 p (E.map fun e => e.1.v), Hw.own 25 1 q (E.map fun e => e.2.1.v), Hw.own 25 1 gr (G.map Sl.v)]) ++ [star (its3 E G)]) hh := by simpa using hs
          obtain ⟨F, hF⟩ := h0.open.get' i (A := dn3 i e g) (by rw [its3_get he, hg])
          exact dn3_reads hF
        obtain ⟨gn, r1, r2⟩ := reads _ hs
        obtain ⟨b2, hb2, hcell2⟩ := hs.cel 3 (k := i) (v := g.v) rfl (by rw [List.getElem?_map, hg]; rfl)
        unfold N21_l5_B N21_l5_b
        refine idx_of (by omega) (by omega) ?_
        rw [hb2]
        simp only [nn_some', add_bk, Int.toNat_natCast, Nat.mul_one, hcell2, xL_v]
        by_cases hnl : n < e.1.n + 9
        · have : decide ((n : Int) < ((g.n : Nat) : Int)) = true := by simp; omega
          rw [this, cond_true]
          rw [wmark (by omega)]
          intro b0 e0
          have hs1 := hs.new e0 (.cells ⟨[.int .i64 0, .int .i64 0, .int .i64 0]⟩ 72 (0, 0))
          revert hs1
          change Sat (L ++ [_, _, _, _, _, row b0 72 [.int .i64 0, .int .i64 0, .int .i64 0]]) (upd hf2 b0 (.cells ⟨[.int .i64 0, .int .i64 0, .int .i64 0]⟩ 72 (0, 0))) → _
          generalize upd hf2 b0 _ = h1
          intro hs1
          refine hs1.st 5 rfl (by simp) rfl ?_
          intro h2 hs2
          refine hs2.st 5 rfl (by simp) rfl ?_
          intro h3 hs3
          refine hs3.st 5 rfl (by simp) rfl ?_
          intro h4 hs4
          have hs5 : Sat (L ++ [row k 66 ([.pointer (some (bk kb))] ++ [p.v, q.v]), Hw.own 25 1 p (E.map fun e => e.1.v), Hw.own 25 1 q (E.map fun e => e.2.1.v), Hw.own 25 1 gr (G.map Sl.v), star (its3 E G)]) h4 := hs4.sel [0, 1, 2, 3, 4] (by decide) rfl
          obtain ⟨_, r1, r2⟩ := reads _ hs5
          obtain ⟨b3, hb3, hcell3⟩ := hs5.cel 3 (k := i) (v := g.v) rfl (by rw [List.getElem?_map, hg]; rfl)
          rw [hb2] at hb3; cases hb3
          have hbb := hs4.blk 5 rfl
          have q0 : cell h4 (bk b0) = some (.int .i64 (-1000 - (i : Int))) := by rw [hbb.cell]; rfl
          have q1 : cell h4 ⟨b0, 1, none⟩ = some (.int .i64 (n : Int)) := by rw [hbb.cell]; rfl
          have q2 : cell h4 ⟨b0, 2, none⟩ = some (.int .i64 0) := by rw [hbb.cell]; rfl
          refine idx_of (by omega) (by omega) ?_
          simp only [hcell3, xL_v]
          refine idx_of (by omega) (by omega) ?_
          obtain ⟨ge0, ge1, ge2⟩ := mk3_get i hnl
          obtain ⟨ga, hga, gc0⟩ := r2 _ _ ge0
          obtain ⟨_, hga1, gc1⟩ := r2 _ _ ge1
          rw [hga] at hga1; cases hga1
          obtain ⟨_, hga2, gc2⟩ := r2 _ _ ge2
          rw [hga] at hga2; cases hga2
          rw [hga]
          simp only [nn_some', addadd, gc0, gc1, gc2, xI_some, q0, q1, q2, beq_self_eq_true, Bool.and_self, Bool.not_true, cond_false]
          have nx : ((Sat (L ++ [row k 66 ([.pointer (some (bk kb))] ++ [p.v, q.v]), Hw.own 25 1 p (E.map fun e => e.1.v), Hw.own 25 1 q (E.map fun e => e.2.1.v), Hw.own 25 1 gr (G.map Sl.v), star (its3 E G)]) h4 ∧ ∃ m : Nat, IntKind.wrap .i64 ((n : Int) + 1) = (m : Int) ∧ m ≤ e.1.n + 9) ∧ e.1.n + 9 - (IntKind.wrap .i64 ((n : Int) + 1)).toNat < e.1.n + 9 - n) := by
            rw [nat_succ64 (by omega)]
            exact ⟨⟨hs5, n + 1, rfl, hnl⟩, by omega⟩
          by_cases hn2 : n < e.1.n
          · have : decide ((n : Int) < ((e.1.n : Nat) : Int)) = true := by simp; omega
            rw [this, cond_true]
            obtain ⟨ee0, ee1, ee2⟩ := mk3_get i hn2
            obtain ⟨ea, hea, ec0⟩ := r1 _ _ ee0
            obtain ⟨_, hea1, ec1⟩ := r1 _ _ ee1
            rw [hea] at hea1; cases hea1
            obtain ⟨_, hea2, ec2⟩ := r1 _ _ ee2
            rw [hea] at hea2; cases hea2
            refine idx_of (by omega) (by omega) ?_
            have hbe : some (bk b) = e.1.p ∨ True := .inr trivial
            rw [hea]
            simp only [nn_some', addadd, ec0, ec1, ec2, xI_some, q0, q1, q2, beq_self_eq_true, Bool.and_self, Bool.not_true, cond_false]
            exact nx
          · have : decide ((n : Int) < ((e.1.n : Nat) : Int)) = false := by simp; omega
            rw [this, cond_false]
            exact nx
        · have : decide ((n : Int) < ((g.n : Nat) : Int)) = false := by simp; omega
          rw [this, cond_false]
          rw [nat_succ64 (by omega)]
          exact ⟨⟨hs, i + 1, rfl, hlt⟩, by omega⟩
      · have : decide ((i : Int) < ((gr.n : Nat) : Int)) = false := by simp; omega
        rw [this, cond_false]
        refine hK _ (kept0_shut (p := p) (q := q) ?_)
        exact hs.sel [0, 1, 2] (by decide) rfl

/-- a list that came out, and what it must be, are taken -/
theorem take3 {L : List Asn} {k kb : Nat} {E0 E : List E3} {e : E3} {h : Hp} {Ke : Hp → Prop} (hs : Sat (L ++ [kept0 k [.pointer (some (bk kb))] (E0 ++ E), star (E.map own3), star (E.map wer3), own3 e, wer3 e]) h) (hE : (E0 ++ E).length ≤ 1099511627776) 
    (hK : ∀ h', Sat (L ++ [kept0 k [.pointer (some (bk kb))] (E0 ++ (E ++ [e])), star ((E ++ [e]).map own3), star ((E ++ [e]).map wer3)]) h' → Ke h') :
    nn (some (bk k)) fun a0 =>
  xL (cell h (a0.add 1)) fun s0 =>
  nw h (.cells ⟨[.slice e.1.p e.1.n e.1.c]⟩ 25) fun b0 h0 =>
  apK Try.prog 25 s0 (.slice (some (bk b0)) 1 1) h0 fun s1 h1 =>
  nn (some (bk k)) fun a1 =>
  st h1 (a1.add 1) (.slice s1.p s1.n s1.c) fun h2 =>
  nn (some (bk k)) fun a2 =>
  xL (cell h2 (a2.add 2)) fun s2 =>
  nw h2 (.cells ⟨[.slice e.2.1.p e.2.1.n e.2.1.c]⟩ 25) fun b1 h3 =>
  apK Try.prog 25 s2 (.slice (some (bk b1)) 1 1) h3 fun s3 h4 =>
  nn (some (bk k)) fun a3 =>
  st h4 (a3.add 2) (.slice s3.p s3.n s3.c) fun h5 =>
  Ke h5 := by
  have hs0 : Sat ((L ++ [star (E.map own3), own3 e, star (E.map wer3), wer3 e]) ++ [kept0 k [.pointer (some (bk kb))] (E0 ++ E)]) h := by
    have := hs.sel [1, 3, 2, 4, 0] (M' := [star (E.map own3), own3 e, star (E.map wer3), wer3 e, kept0 k [.pointer (some (bk kb))] (E0 ++ E)]) (by decide) rfl
    simpa using this
  obtain ⟨p, q, hs0⟩ := kept0_open hs0
  have hs1 : Sat (L ++ [row k 66 ([.pointer (some (bk kb))] ++ [p.v, q.v]), Hw.own 25 1 p ((E0 ++ E).map fun e => e.1.v), Hw.own 25 1 q ((E0 ++ E).map fun e => e.2.1.v), star (E.map own3), own3 e, star (E.map wer3), wer3 e]) h := by
    rw [List.append_assoc] at hs0
    exact hs0.sel [4, 5, 6, 0, 1, 2, 3] (by decide) rfl
  have pn : p.n = (E0 ++ E).length := by have := (hs1.own 1 rfl).1; rw [List.length_map] at this; omega
  have qn : q.n = (E0 ++ E).length := by have := (hs1.own 2 rfl).1; rw [List.length_map] at this; omega
  simp only [nn_some', add_bk]
  refine hs1.lL 0 rfl rfl ?_
  refine hs1.push 1 rfl (k := 1) l3_a l3_z rfl (by intro v hv; simp at hv; subst hv; rfl) (by rw [l3_b]; show (p.n + 1) * 2 * 24 ≤ _; omega) ?_
  intro p' h1 hs2 pn'
  refine hs2.st 0 rfl (by simp) rfl ?_
  intro h2 hs3
  refine hs3.lL 0 rfl rfl ?_
  refine hs3.push 2 rfl (k := 1) l3_a l3_z rfl (by intro v hv; simp at hv; subst hv; rfl) (by rw [l3_b]; show (q.n + 1) * 2 * 24 ≤ _; omega) ?_
  intro q' h3 hs4 qn'
  refine hs4.st 0 rfl (by simp) rfl ?_
  intro h4 hs5
  refine hK _ ?_
  have g1 : Sat (L ++ [row k 66 ([.pointer (some (bk kb))] ++ [p'.v, q'.v]), Hw.own 25 1 p' ((E0 ++ (E ++ [e])).map fun e => e.1.v), Hw.own 25 1 q' ((E0 ++ (E ++ [e])).map fun e => e.2.1.v), star (E.map own3), own3 e, star (E.map wer3), wer3 e]) h4 := by
    rw [← List.append_assoc E0 E [e], List.map_append (l₁ := E0 ++ E), List.map_append (l₁ := E0 ++ E)]; exact hs5
  have g2 : Sat ((L ++ [row k 66 ([.pointer (some (bk kb))] ++ [p'.v, q'.v]), Hw.own 25 1 p' ((E0 ++ (E ++ [e])).map fun e => e.1.v), Hw.own 25 1 q' ((E0 ++ (E ++ [e])).map fun e => e.2.1.v), star (E.map own3), own3 e]) ++ [star (E.map wer3), wer3 e]) h4 := by simpa using g1
  have g3 := g2.into
  have g4 : Sat ((L ++ [row k 66 ([.pointer (some (bk kb))] ++ [p'.v, q'.v]), Hw.own 25 1 p' ((E0 ++ (E ++ [e])).map fun e => e.1.v), Hw.own 25 1 q' ((E0 ++ (E ++ [e])).map fun e => e.2.1.v), star ((E ++ [e]).map wer3)]) ++ [star (E.map own3), own3 e]) h4 := by
    have g4 : Sat (L ++ [row k 66 ([.pointer (some (bk kb))] ++ [p'.v, q'.v]), Hw.own 25 1 p' ((E0 ++ (E ++ [e])).map fun e => e.1.v), Hw.own 25 1 q' ((E0 ++ (E ++ [e])).map fun e => e.2.1.v), star (E.map own3), own3 e, star ((E ++ [e]).map wer3)]) h4 := by simpa using g3
    have := g4.sel [0, 1, 2, 5, 3, 4] (M' := [_, _, _, _, _, _]) (by decide) rfl
    simpa using this
  have g5 := g4.into
  have g6 : Sat ((L ++ [star ((E ++ [e]).map own3), star ((E ++ [e]).map wer3)]) ++ [row k 66 ([.pointer (some (bk kb))] ++ [p'.v, q'.v]), Hw.own 25 1 p' ((E0 ++ (E ++ [e])).map fun e => e.1.v), Hw.own 25 1 q' ((E0 ++ (E ++ [e])).map fun e => e.2.1.v)]) h4 := by
    have g6 : Sat (L ++ [row k 66 ([.pointer (some (bk kb))] ++ [p'.v, q'.v]), Hw.own 25 1 p' ((E0 ++ (E ++ [e])).map fun e => e.1.v), Hw.own 25 1 q' ((E0 ++ (E ++ [e])).map fun e => e.2.1.v), star ((E ++ [e]).map wer3), star ((E ++ [e]).map own3)]) h4 := by simpa using g5
    have := g6.sel [4, 3, 0, 1, 2] (M' := [_, _, _, _, _]) (by decide) rfl
    simpa using this
  have g7 := kept0_shut g6
  have g8 : Sat (L ++ [star ((E ++ [e]).map own3), star ((E ++ [e]).map wer3), kept0 k [.pointer (some (bk kb))] (E0 ++ (E ++ [e]))]) h4 := by simpa using g7
  exact g8.sel [2, 0, 1] (by decide) rfl

end Go.Proofs.Ytabihmedfopdcaa

set_option linter.unusedVariables false
set_option maxRecDepth 100000
namespace Go.Proofs.Ytabihmedfopdcaa
open Go Go.Hw
/-! ### 57 slipway/slipwayref01.mark -/
noncomputable def B57 : Code := match Try.f57.body with | some c => c | none => .skip
def N57 (x0 : Int) (x1 : Int) (h : Hp) (K : Int → Hp → Prop) : Prop :=
  K (IntKind.wrap .u8 (IntKind.wrap .i64 ((IntKind.wrap .i64 ((IntKind.wrap .i64 ((IntKind.wrap .i64 (x0 * 7)) + (IntKind.wrap .i64 (x1 * 13)))) + (IntKind.wrap .i64 (Int.tdiv x0 256)))) + 1))) h
theorem S57 {x0 : Int} {x1 : Int} {h : Hp} {K : Int → Hp → Prop} (hn : N57 x0 x1 h K) : C57 x0 x1 h K := by
  refine calls_of_D Try.func57 (c := B57) rfl (by kernel_rfl) ?_
  refine den_sound hE hm _ .leaf _ _ _ (annOk_leaf) ?_
  refine cast ?_ hn
  kernel_rfl
end Go.Proofs.Ytabihmedfopdcaa

/-
  The small functions of layer 1 over numbers: folded words, changed words, hosts, groups.
-/
-- (no octet.folded)
-- (no ref01.Folded)
-- (no octet.Turn)
-- (no ref01.Turn)
-- (no octet.IsHost)
-- (no ref01.IsHost)
-- (no octet.Group)
-- (no ref01.Group)
-- (no octet.Everyone)
set_option linter.unusedSimpArgs false
set_option linter.unusedVariables false
namespace Go.Proofs.Ytabihmedfopdcaa
open Go Go.Hw

/-- a number whose higher words were added to the lowest one -/
def fold16 (u : Nat) : Nat := if u = 0 then 0 else (u - 1) % 65535 + 1
theorem fold16_step {u : Nat} (h : 65535 < u) : fold16 (u % 65536 + u / 65536) = fold16 u := by unfold fold16; rw [if_neg (by omega), if_neg (by omega)]; omega
theorem fold16_low {u : Nat} (h : u ≤ 65535) : fold16 u = u := by unfold fold16; split <;> omega
theorem fold16_le (u : Nat) : fold16 u ≤ 65535 := by unfold fold16; split <;> omega
theorem fold16_add (a b : Nat) : fold16 (fold16 a + b) = fold16 (a + b) := by unfold fold16; split <;> split <;> (try split) <;> (try split) <;> omega
theorem fold16_zero (u : Nat) : fold16 u = 0 ↔ u = 0 := by unfold fold16; split <;> omega

/-- Turn: what the sum becomes when two bytes change -/
def turn (s o n : Nat) : Nat := 65535 - fold16 (65535 - s + (65535 - o) + n)
def isHost (ip : Int) : Bool := decide (1 ≤ ip / 16777216) && decide (ip / 16777216 ≤ 223) && decide (ip / 16777216 ≠ 127)
/-- a book's mark -/
def markN (list place : Nat) : Nat := (list * 7 + place * 13 + list / 256 + 1) % 256
theorem c_mark {x y : Nat} {h : Hp} {K : Int → Hp → Prop} (hx : x ≤ 140737488355328) (hy : y ≤ 140737488355328) (hK : K ((markN x y : Nat) : Int) h) : C57 x y h K := by
  apply S57; unfold N57
  rw [Int.tdiv_eq_ediv_of_nonneg (by omega), wi64i (x := (x : Int) * 7) (by omega) (by omega), wi64i (x := (y : Int) * 13) (by omega) (by omega), wi64i (x := (x : Int) / 256) (by omega) (by omega), wi64i (x := (x : Int) * 7 + (y : Int) * 13) (by omega) (by omega), wi64i (x := (x : Int) * 7 + (y : Int) * 13 + (x : Int) / 256) (by omega) (by omega), wi64i (by omega) (by omega), wu8]
  have : ((x : Int) * 7 + (y : Int) * 13 + (x : Int) / 256 + 1) % 256 = ((markN x y : Nat) : Int) := by unfold markN; omega
  rw [this]; exact hK

end Go.Proofs.Ytabihmedfopdcaa

/-
  Numbers as bytes: Put and Get, the program's and the document's.
-/
-- (no octet.Put)
-- (no ref01.Put)
-- (no octet.Get)
-- (no ref01.Get)
set_option linter.unusedSimpArgs false
set_option linter.unusedVariables false
namespace Go.Proofs.Ytabihmedfopdcaa
open Go Go.Hw

theorem y_a : Try.prog.cellsOf 5 = 1 := by kernel_rfl
theorem y_z : zc Try.prog 5 = [.int .u8 0] := by kernel_rfl
theorem y_zl : (zc Try.prog 5).length = 1 := by rw [y_z]; rfl
theorem y_b : Try.prog.bytesOf 5 = 1 := by kernel_rfl
theorem y_zeros (n : Nat) : (zeros Try.prog 5 n).toList = bc (List.replicate n 0) := by
  unfold zeros Builtin.zeroCells
  rw [y_z]
  simp only [bc, List.map_replicate]
  apply List.ext_getElem
  · simp
  · intro i h1 h2
    simp only [List.getElem_replicate]
    have : i % 1 = 0 := Nat.mod_one i
    simp [this]

/-- the lowest w bytes of a number, the highest first -/
def be (n : Nat) : Nat → List UInt8
  | 0 => []
  | w + 1 => UInt8.ofNat (n / 256 ^ w % 256) :: be n w
theorem be_len (n w : Nat) : (be n w).length = w := by induction w with | zero => rfl | succ w ih => simp [be, ih]
def putL (n : Nat) (w : Int) : List UInt8 := if w < 1 ∨ w > 8 then [] else be n w.toNat
theorem byte_of (n : Nat) : (((UInt8.ofNat (n % 256)).toNat : Nat) : Int) = ((n % 256 : Nat) : Int) := by rw [UInt8.toNat_ofNat']; omega

theorem put_step (q : Nat) : IntKind.wrap .u8 (Int.tmod (q : Int) 256) = (((UInt8.ofNat (q % 256)).toNat : Nat) : Int) := by
  rw [byte_of, Int.tmod_eq_emod_of_nonneg (by omega), wu8]; omega
theorem put_next {q : Nat} (h : q < 18446744073709551616) : IntKind.wrap .u64 (Int.tdiv (q : Int) 256) = ((q / 256 : Nat) : Int) := by
  rw [Int.tdiv_eq_ediv_of_nonneg (by omega), wu64i (by omega) (by omega)]; omega
def nat256 (l : List UInt8) : Nat := l.foldl (fun a b => a * 256 + b.toNat) 0
theorem nat256_snoc (l : List UInt8) (b : UInt8) : nat256 (l ++ [b]) = nat256 l * 256 + b.toNat := by simp [nat256]
theorem nat256_lt (l : List UInt8) : nat256 l < 256 ^ l.length := by
  have key : ∀ (l : List UInt8) (a : Nat), l.foldl (fun a b => a * 256 + b.toNat) a < (a + 1) * 256 ^ l.length := by
    intro l
    induction l with
    | nil => intro a; simp
    | cons b l ih =>
      intro a
      have hb := b.toNat_lt
      have h1 := ih (a * 256 + b.toNat)
      have h2 : (a * 256 + b.toNat + 1) * 256 ^ l.length ≤ ((a + 1) * 256) * 256 ^ l.length := Nat.mul_le_mul_right _ (by omega)
      simp only [List.foldl_cons, List.length_cons]
      rw [Nat.pow_succ, Nat.mul_comm (256 ^ l.length) 256, ← Nat.mul_assoc]
      omega
  have := key l 0
  unfold nat256; omega
def getV (l : List UInt8) (at_ w : Int) : Nat := if w < 1 ∨ w > 8 ∨ at_ < 0 then 0 else if at_ > l.length ∨ l.length - at_ < w then 0 else nat256 ((l.drop at_.toNat).take w.toNat)
def getE (l : List UInt8) (at_ w : Int) : Int := if w < 1 ∨ w > 8 ∨ at_ < 0 then 1 else if at_ > l.length ∨ l.length - at_ < w then 5 else 0

theorem pow256_le {k : Nat} (hk : k ≤ 7) : 256 ^ k ≤ 72057594037927936 := by
  have : 256 ^ k ≤ 256 ^ 7 := Nat.pow_le_pow_right (by omega) hk
  exact this
/-- one round of reading -/
theorem get_step {m : Nat} {b : UInt8} (hm : m < 72057594037927936) : IntKind.wrap .u64 (BitVec.ofInt 64 (IntKind.wrap .u64 ((m : Int) * 2 ^ 8)) ||| BitVec.ofInt 64 (IntKind.wrap .u64 (b.toNat : Int))).toNat = ((m * 256 + b.toNat : Nat) : Int) := by
  have hb := b.toNat_lt
  rw [wu64i (x := (m : Int) * 2 ^ 8) (by omega) (by omega), wu64i (x := (b.toNat : Int)) (by omega) (by omega)]
  have := bor_low (w := 64) (x := (m : Int)) (y := (b.toNat : Int)) 8 (by omega) (by omega) (by omega) (by omega) (by omega)
  rw [this, wu64i (by omega) (by omega)]; omega

end Go.Proofs.Ytabihmedfopdcaa

set_option linter.unusedVariables false
set_option maxRecDepth 100000
namespace Go.Proofs.Ytabihmedfopdcaa
open Go Go.Hw
/-! ### 40 slipway/slipwayref01.Lent -/
noncomputable def B40 : Code := match Try.f40.body with | some c => c | none => .skip
def N40 (x0 : Sl) (h : Hp) (K : Sl → Hp → Prop) : Prop :=
  mkK Try.prog 5 (IntKind.wrap .i64 (((x0.n : Nat) : Int) + 2)) (IntKind.wrap .i64 (((x0.n : Nat) : Int) + 2)) h fun s0 h0 =>
  cpK Try.prog 5 s0 (.slice x0.p x0.n x0.c) h0 fun n0 h1 =>
  idx ((x0.n : Nat) : Int) s0.n <|
  nn s0.p fun a0 =>
  st h1 (a0.add (((x0.n : Nat) : Int).toNat * 1)) (.int .u8 71) fun h2 =>
  idx (IntKind.wrap .i64 (((x0.n : Nat) : Int) + 1)) s0.n <|
  nn s0.p fun a1 =>
  st h2 (a1.add ((IntKind.wrap .i64 (((x0.n : Nat) : Int) + 1)).toNat * 1)) (.int .u8 72) fun h3 =>
  bd ((x0.n : Nat) : Int) s0.c fun k0 =>
  K ⟨sadr s0.p s0.c 0 1, k0, s0.c⟩ h3
theorem S40 {x0 : Sl} {h : Hp} {K : Sl → Hp → Prop} (hn : N40 x0 h K) : C40 x0 h K := by
  refine calls_of_D Try.func40 (c := B40) rfl (by kernel_rfl) ?_
  refine den_sound hE hm _ .leaf _ _ _ (annOk_leaf) ?_
  refine cast ?_ hn
  kernel_rfl
end Go.Proofs.Ytabihmedfopdcaa

set_option linter.unusedVariables false
set_option maxRecDepth 100000
namespace Go.Proofs.Ytabihmedfopdcaa
open Go Go.Hw
/-! ### 42 slipway/slipwayref01.AsLent -/
noncomputable def B42 : Code := match Try.f42.body with | some c => c | none => .skip
def N42_l1_b (x6_all : Sl) (x7_good : Bool) (Φ : Int → Hp → Prop) (x8_i : Int) (h : Hp) (K_e0 : Hp → Prop) : Prop :=
  bif (decide (x8_i < ((x6_all.n : Nat) : Int))) then
    idx x8_i x6_all.n <|
    nn x6_all.p fun a0 =>
    st h (a0.add (x8_i.toNat * 1)) (.int .u8 83) fun h0 =>
    Φ (IntKind.wrap .i64 (x8_i + 1)) h0
  else
    K_e0 h
def N42_l1_B (x6_all : Sl) (x7_good : Bool) (K_e0 : Hp → Prop) (s : Sg.T [(8, .c (.int .i64))]) (h : Hp) (Φ : Sg.T [(8, .c (.int .i64))] → Hp → Prop) : Prop :=
  N42_l1_b x6_all x7_good (fun x8_i h => Φ x8_i h) s h K_e0
def N42_l1 (x6_all : Sl) (x7_good : Bool) (x8_i : Int) (h : Hp) (K_e0 : Hp → Prop) : Prop :=
  loopP (N42_l1_B x6_all x7_good K_e0) x8_i h
noncomputable def N42_l1_t : Xf := loopT [(6, .c (.slice)), (7, .c (.bool))] [(8, .c (.int .i64))] (codeAt B42 [1, 1, 1, 1, 1, 0, 1, 0, 0]) fun F Q => N42_l1_B F.1 F.2 (fun h' => Q (.exit 0) (Sg.env [] ()) h')
theorem N42_l1_ok : Sound Try.prog Try.f42.ntmps N42_l1_t (codeAt B42 [1, 1, 1, 1, 1, 0, 1, 0]) := by
  refine loop_sound (fun e => match e with | .exit 0 => [] | _ => []) (by kernel_rfl) ?_
  intro F Q s h Φ hb
  refine den_sound hE hm _ .leaf _ _ _ (annOk_leaf) ?_
  refine cast ?_ hb
  kernel_rfl
def N42_j0 (x6_all : Sl) (x7_good : Bool) (h : Hp) (K_ret : Bool → Hp → Prop) : Prop :=
  N42_l1 x6_all x7_good 0 h
    (fun h0 =>
      K_ret x7_good h0)
noncomputable def N42_j0_t : Xf := pieceT [(6, .c (.slice)), (7, .c (.bool))] (codeAt B42 [1, 1, 1, 1, 1]) fun x h Q => N42_j0 x.1 x.2 h (fun o0 h' => Q .ret (Sg.env [(4, .c (.bool))] o0) h')
theorem N42_j0_ok : Sound Try.prog Try.f42.ntmps N42_j0_t (codeAt B42 [1, 1, 1, 1, 1]) := by
  refine piece_sound (fun e => match e with | .ret => [4] | _ => []) ?_
  intro x h Q hb
  refine den_sound hE hm _ (.two (.two .leaf (.one (.xf N42_l1_t))) .leaf) _ _ _ (⟨⟨annOk_leaf, N42_l1_ok⟩, annOk_leaf⟩) ?_
  refine cast ?_ hb
  kernel_rfl
def N42 (x0 : Sl) (x1 : Sl) (h : Hp) (K : Bool → Hp → Prop) : Prop :=
  bif (((x0.n : Nat) : Int) != ((x1.n : Nat) : Int)) then
    K false h
  else
    bd (IntKind.wrap .i64 (((x1.n : Nat) : Int) + 2)) x0.c fun k0 =>
    bd ((x1.n : Nat) : Int) x0.c fun k1 =>
    b2s h (sadr (sadr x0.p x0.c 0 1) x0.c 0 1) k1 fun s0 =>
    b2s h x1.p x1.n fun s1 =>
    bif (s0.toList == s1.toList) then
      idx ((x1.n : Nat) : Int) k0 <|
      nn (sadr x0.p x0.c 0 1) fun a0 =>
      xI .u8 (cell h (a0.add (((x1.n : Nat) : Int).toNat * 1))) fun n0 =>
      bif (n0 == 71) then
        idx (IntKind.wrap .i64 (((x1.n : Nat) : Int) + 1)) k0 <|
        nn (sadr x0.p x0.c 0 1) fun a1 =>
        xI .u8 (cell h (a1.add ((IntKind.wrap .i64 (((x1.n : Nat) : Int) + 1)).toNat * 1))) fun n1 =>
        N42_j0 ⟨sadr x0.p x0.c 0 1, k0, x0.c⟩ (n1 == 72) h
          (fun b0 h0 =>
            K b0 h0)
      else
        N42_j0 ⟨sadr x0.p x0.c 0 1, k0, x0.c⟩ false h
          (fun b1 h1 =>
            K b1 h1)
    else
      N42_j0 ⟨sadr x0.p x0.c 0 1, k0, x0.c⟩ false h
        (fun b2 h2 =>
          K b2 h2)
theorem S42 {x0 : Sl} {x1 : Sl} {h : Hp} {K : Bool → Hp → Prop} (hn : N42 x0 x1 h K) : C42 x0 x1 h K := by
  refine calls_of_D Try.func42 (c := B42) rfl (by kernel_rfl) ?_
  refine den_sound hE hm _ (.two .leaf (.two .leaf (.two .leaf (.two .leaf (.two (.ord [0, 1, 2, 3, 4, 5, 6, 7, 8, 9, 10, 11, 12, 13, 14, 15, 16, 17, 18, 19, 20, 21, 22]) (.xf N42_j0_t)))))) _ _ _ (⟨annOk_leaf, ⟨annOk_leaf, ⟨annOk_leaf, ⟨annOk_leaf, ⟨trivial, N42_j0_ok⟩⟩⟩⟩⟩) ?_
  refine cast ?_ hn
  kernel_rfl
end Go.Proofs.Ytabihmedfopdcaa

/-
  The internet's sum: the program's and the document's; bytes lent; the bound.
-/
-- (no octet.Sum)
-- (no ref01.Sum)
-- (no ref01.Beyond)
set_option linter.unusedSimpArgs false
set_option linter.unusedVariables false
namespace Go.Proofs.Ytabihmedfopdcaa
open Go Go.Hw

/-- what a byte counts at its place -/
def wat (i : Nat) (b : UInt8) : Nat := if i % 2 = 0 then 256 * b.toNat else b.toNat
def ws : Nat → List UInt8 → Nat
  | _, [] => 0
  | i, b :: l => wat i b + ws (i + 1) l
theorem ws_app (l m : List UInt8) : ∀ i, ws i (l ++ m) = ws i l + ws (i + l.length) m := by
  induction l with
  | nil => intro i; simp [ws]
  | cons b l ih => intro i; simp only [List.cons_append, ws, ih, List.length_cons]; rw [show i + 1 + l.length = i + (l.length + 1) by omega]; omega
theorem ws_snoc (l : List UInt8) (b : UInt8) : ws 0 (l ++ [b]) = ws 0 l + wat l.length b := by rw [ws_app]; simp [ws]
theorem wat_le (i : Nat) (b : UInt8) : wat i b ≤ 65280 := by have := b.toNat_lt; unfold wat; split <;> omega
def sum16 (l : List UInt8) : Nat := 65535 - fold16 (ws 0 l)

/-- a slice of slices that reads so -/
structure RdP (h : Hp) (s : Sl) (ts : List Sl) (ps : List (List UInt8)) : Prop where
  n : s.n = ts.length
  len : ts.length = ps.length
  r : Rdc h s.p (ts.map Sl.v)
  each : ∀ (i : Nat) t l, ts[i]? = some t → ps[i]? = some l → RdB h t l
theorem RdP.ext {h h' : Hp} {s : Sl} {ts : List Sl} {ps : List (List UInt8)} (H : RdP h s ts ps) (he : Ext none' h h') : RdP h' s ts ps := ⟨H.n, H.len, H.r.ext he, fun i t l h1 h2 => (H.each i t l h1 h2).ext he⟩
theorem RdP.at {h : Hp} {s : Sl} {ts : List Sl} {ps : List (List UInt8)} (H : RdP h s ts ps) {x : Int} {i : Nat} (hx : x = i) (hi : i < ps.length) {F : Sl → Prop} (hF : ∀ t, ts[i]? = some t → RdB h t (ps[i]'hi) → F t) : idx x s.n (nn s.p fun a => xL (cell h (a.add (x.toNat * 1))) F) := by
  have hi2 : i < ts.length := by rw [H.len]; exact hi
  obtain ⟨a, hp, hc⟩ := H.r i (ts[i]).v (by rw [List.getElem?_map, List.getElem?_eq_getElem hi2]; rfl)
  refine idx_of (by omega) (by rw [H.n]; omega) ?_
  rw [hp]
  subst hx
  simp only [nn_some', Nat.mul_one, Int.toNat_natCast, hc, xL_v]
  exact hF _ (List.getElem?_eq_getElem hi2) (H.each i _ _ (List.getElem?_eq_getElem hi2) (List.getElem?_eq_getElem hi))
theorem flat_take {α : Type} (ps : List (List α)) {i : Nat} (hi : i < ps.length) : (ps.take (i + 1)).flatten = (ps.take i).flatten ++ ps[i] := by
  rw [← List.take_append_getElem hi, List.flatten_append]; simp
theorem flat_le {α : Type} (ps : List (List α)) (i : Nat) : (ps.take i).flatten.length ≤ ps.flatten.length := by
  have : ps.flatten = (ps.take i).flatten ++ (ps.drop i).flatten := by rw [← List.flatten_append, List.take_append_drop]
  rw [this]; simp

/-- bytes lent: in memory of their own, with two marked places behind them -/
theorem c_lent {s : Sl} {l : List UInt8} {h : Hp} {K : Sl → Hp → Prop} (H : RdB h s l) (hl : l.length ≤ 140737488355328)
    (hK : ∀ h' p, NewO h h' 5 1 ⟨p, l.length + 2, l.length + 2⟩ (bc (l ++ [71, 72])) → K ⟨p, l.length, l.length + 2⟩ h') : C40 s h K := by
  apply S40; unfold N40
  have hn := H.n
  rw [hn, wi64i (x := (l.length : Int) + 2) (by omega) (by omega), wi64i (x := (l.length : Int) + 1) (by omega) (by omega)]
  refine (Sat.start (h := h)).mk (sz := 1) y_zl (by omega) (by omega) (by rw [y_b]; omega) (by omega) ?_
  intro t hb tn tc hs
  rw [y_zeros] at hs
  have e2 : ((l.length : Int) + 2).toNat = l.length + 2 := by omega
  rw [e2] at tn tc hs
  have hr := H.ext (hs.was 0 rfl)
  have emin : Nat.min l.length t.n = l.length := by rw [tn]; exact Nat.min_eq_left (by omega)
  refine hs.cp 1 rfl (n := l.length) (ns := bc l) y_a (fun _ => rfl) ?_ (by rw [emin]; simp) bc_plain ?_
  · intro G hG
    rw [emin, ← hn]
    exact hr.srcK (s := s) (n := s.n) (by omega) (by rw [hn, List.take_length]; exact hG)
  · intro h2 hs2
    have e9 : bc l ++ (bc (List.replicate (l.length + 2) 0)).drop (bc l).length = bc (l ++ [0, 0]) := by
      rw [bc_app, ← bc_drop, bc_len, List.drop_replicate, show l.length + 2 - l.length = 2 by omega]; rfl
    rw [e9] at hs2
    rw [tc]
    refine hs2.stAt (k := l.length) 1 rfl rfl (by simp) rfl ?_
    intro h3 hs3
    refine hs3.stAt (k := l.length + 1) 1 rfl (by omega) (by simp) rfl ?_
    intro h4 hs4
    have e4 : ((bc (l ++ [0, 0])).set l.length (.int .u8 71)).set (l.length + 1) (.int .u8 72) = bc (l ++ [71, 72]) := by
      have q1 : (Value.int .u8 71) = .int .u8 ((71 : UInt8).toNat : Int) := rfl
      have q2 : (Value.int .u8 72) = .int .u8 ((72 : UInt8).toNat : Int) := rfl
      rw [q1, q2, ← bc_set, ← bc_set]
      congr 1
      rw [List.set_append_right _ _ (by omega), List.set_append_right _ _ (by omega)]
      simp
    have hs5 : Sat ([] ++ [Hw.was h, Hw.own 5 1 t (bc (l ++ [71, 72]))]) h4 := by rw [← e4]; exact hs4
    refine bd_nat (by omega) ?_
    have hno := hs5.newO 0 1 rfl rfl (by omega)
    have et : t = ⟨t.p, l.length + 2, l.length + 2⟩ := by cases t; simp only at tn tc; rw [tn, tc]
    rw [et] at hno
    rw [sadr_zero]
    exact hK h4 t.p hno

/-- they still read so, the places behind them too; all of it is written over -/
theorem c_asLent {p : Option Addr} {s : Sl} {l : List UInt8} {h : Hp} {K : Bool → Hp → Prop} {L M : List Asn} (hs : Sat (L ++ M) h) (j : Nat) (hj : M[j]? = some (Hw.own 5 1 ⟨p, l.length + 2, l.length + 2⟩ (bc (l ++ [71, 72])))) (H : RdB h s l) (hl : l.length ≤ 140737488355328)
    (hK : ∀ h' vs, Sat (L ++ M.set j (Hw.own 5 1 ⟨p, l.length + 2, l.length + 2⟩ vs)) h' → K true h') : C42 ⟨p, l.length, l.length + 2⟩ s h K := by
  apply S42; unfold N42
  have hn := H.n
  have ho := hs.own j hj
  have hr := ho.rdb
  dsimp only
  rw [hn, wi64i (x := (l.length : Int) + 2) (by omega) (by omega), wi64i (x := (l.length : Int) + 1) (by omega) (by omega)]
  simp only [bne_self_eq_false, cond_false, sadr_zero]
  refine bd_of (by omega) (by omega) ?_
  refine bd_nat (by omega) ?_
  have e2 : ((l.length : Int) + 2).toNat = l.length + 2 := by omega
  rw [e2]
  have hr1 : RdB h ⟨p, l.length, l.length + 2⟩ l := ⟨rfl, by simp, by
    have := hr.r.take l.length
    rw [← bc_take] at this
    simpa using this⟩
  refine hr1.b2s ?_
  rw [← hn]
  refine H.b2s ?_
  simp only [beq_self_eq_true, cond_true]
  rw [hn]
  have g1 : (l ++ [71, 72])[l.length]'(by simp) = 71 := by simp
  have g2 : (l ++ [71, 72])[l.length + 1]'(by simp) = 72 := by simp
  refine hr.at (x := (l.length : Int)) (i := l.length) rfl (by simp) ?_
  rw [g1]
  simp only [show ((((71 : UInt8).toNat : Nat) : Int) == 71) = true from rfl, cond_true]
  refine hr.at (x := (l.length : Int) + 1) (i := l.length + 1) (by omega) (by simp) ?_
  rw [g2]
  simp only [show ((((72 : UInt8).toNat : Nat) : Int) == 72) = true from rfl]
  unfold N42_j0 N42_l1
  refine loopP_inv (fun (x : Int) hc => ∃ (i : Nat) (vs : List Value), x = i ∧ i ≤ l.length + 2 ∧ vs.length = l.length + 2 ∧ Sat (L ++ M.set j (Hw.own 5 1 ⟨p, l.length + 2, l.length + 2⟩ vs)) hc) (fun x _ => l.length + 2 - x.toNat) ?_
    ⟨0, bc (l ++ [71, 72]), rfl, Nat.zero_le _, by simp, by
      have := hs.imp j hj (A' := Hw.own 5 1 ⟨p, l.length + 2, l.length + 2⟩ (bc (l ++ [71, 72]))) (fun F h => h)
      exact this⟩
  rintro x hc ⟨i, vs, rfl, hi, hvl, hs⟩
  unfold N42_l1_B N42_l1_b
  dsimp only
  have hjl := lt_of_get hj
  by_cases hlt : i < l.length + 2
  · have : decide ((i : Int) < ((l.length + 2 : Nat) : Int)) = true := by simp; omega
    rw [this, cond_true]
    refine hs.stAt (s := ⟨p, l.length + 2, l.length + 2⟩) (k := i) j (by rw [List.getElem?_set_self hjl]) rfl (by omega) rfl ?_
    intro h' hs'
    rw [List.set_set] at hs'
    rw [nat_succ64 (by omega)]
    exact ⟨⟨i + 1, _, rfl, hlt, by simpa using hvl, hs'⟩, by omega⟩
  · have : decide ((i : Int) < ((l.length + 2 : Nat) : Int)) = false := by simp; omega
    rw [this, cond_false]
    exact hK hc vs hs

end Go.Proofs.Ytabihmedfopdcaa

set_option linter.unusedVariables false
set_option maxRecDepth 100000
namespace Go.Proofs.Ytabihmedfopdcaa
open Go Go.Hw
/-! ### 45 (*slipway/slipwayref01.Book).Take -/
noncomputable def B45 : Code := match Try.f45.body with | some c => c | none => .skip
def N45 (x0 : Option Addr) (x1 : Sl) (h : Hp) (K : Hp → Prop) : Prop :=
  nn x0 fun a0 =>
  xL (cell h a0) fun s0 =>
  nw h (.cells ⟨[.slice x1.p x1.n x1.c]⟩ 37) fun b0 h0 =>
  apK Try.prog 37 s0 (.slice (some (bk b0)) 1 1) h0 fun s1 h1 =>
  nn x0 fun a1 =>
  st h1 a1 (.slice s1.p s1.n s1.c) fun h2 =>
  nn x0 fun a2 =>
  xL (cell h2 (a2.add 1)) fun s2 =>
  b2s h2 x1.p x1.n fun s3 =>
  nw h2 (.cells ⟨[.string s3]⟩ 9) fun b1 h3 =>
  both (xL (cell h3 (a2.add 1)) fun s4 => Only (.slice s2.p s2.n s2.c) h3 (.slice s4.p s4.n s4.c) h3) <|
  apK Try.prog 9 s2 (.slice (some (bk b1)) 1 1) h3 fun s5 h4 =>
  nn x0 fun a3 =>
  st h4 (a3.add 1) (.slice s5.p s5.n s5.c) fun h5 =>
  K h5
theorem S45 {x0 : Option Addr} {x1 : Sl} {h : Hp} {K : Hp → Prop} (hn : N45 x0 x1 h K) : C45 x0 x1 h K := by
  refine calls_of_D Try.func45 (c := B45) rfl (by kernel_rfl) ?_
  refine den_sound hE hm _ (.two .leaf (.ord [0, 1, 2, 3, 4, 5, 6, 7, 8, 9, 10, 11])) _ _ _ (⟨annOk_leaf, trivial⟩) ?_
  refine cast ?_ hn
  kernel_rfl
end Go.Proofs.Ytabihmedfopdcaa

set_option linter.unusedVariables false
set_option maxRecDepth 100000
namespace Go.Proofs.Ytabihmedfopdcaa
open Go Go.Hw
/-! ### 47 (*slipway/slipwayref01.Book).Owned -/
noncomputable def B47 : Code := match Try.f47.body with | some c => c | none => .skip
def N47_l0_b (x0_k : Option Addr) (Φ : Int → Hp → Prop) (x3_i : Int) (h : Hp) (K_e0 : Hp → Prop) (K_ret : Bool → Hp → Prop) : Prop :=
  nn x0_k fun a0 =>
  xL (cell h a0) fun s0 =>
  bif (decide (x3_i < ((s0.n : Nat) : Int))) then
    nn x0_k fun a1 =>
    xL (cell h a1) fun s1 =>
    idx x3_i s1.n <|
    nn s1.p fun a2 =>
    xL (cell h (a2.add (x3_i.toNat * 1))) fun s2 =>
    b2s h s2.p s2.n fun s3 =>
    nn x0_k fun a3 =>
    xL (cell h (a3.add 1)) fun s4 =>
    idx x3_i s4.n <|
    nn s4.p fun a4 =>
    xS (cell h (a4.add (x3_i.toNat * 1))) fun s5 =>
    bif (!(s3.toList == s5.toList)) then
      K_ret false h
    else
      Φ (IntKind.wrap .i64 (x3_i + 1)) h
  else
    K_e0 h
def N47_l0_B (x0_k : Option Addr) (K_e0 : Hp → Prop) (K_ret : Bool → Hp → Prop) (s : Sg.T [(3, .c (.int .i64))]) (h : Hp) (Φ : Sg.T [(3, .c (.int .i64))] → Hp → Prop) : Prop :=
  N47_l0_b x0_k (fun x3_i h => Φ x3_i h) s h K_e0 K_ret
def N47_l0 (x0_k : Option Addr) (x3_i : Int) (h : Hp) (K_e0 : Hp → Prop) (K_ret : Bool → Hp → Prop) : Prop :=
  loopP (N47_l0_B x0_k K_e0 K_ret) x3_i h
noncomputable def N47_l0_t : Xf := loopT [(0, .c (.ptr))] [(3, .c (.int .i64))] (codeAt B47 [1, 0, 1, 0, 0]) fun F Q => N47_l0_B F (fun h' => Q (.exit 0) (Sg.env [] ()) h') (fun o0 h' => Q .ret (Sg.env [(2, .c (.bool))] o0) h')
theorem N47_l0_ok : Sound Try.prog Try.f47.ntmps N47_l0_t (codeAt B47 [1, 0, 1, 0]) := by
  refine loop_sound (fun e => match e with | .exit 0 => [] | .ret => [2] | _ => []) (by kernel_rfl) ?_
  intro F Q s h Φ hb
  refine den_sound hE hm _ (.two .leaf (.two (.one (.two (.ord [0, 1, 2, 3, 4, 5, 6, 7, 8, 9, 10, 11, 12, 13, 14, 15]) .leaf)) .leaf)) _ _ _ (⟨annOk_leaf, ⟨⟨trivial, annOk_leaf⟩, annOk_leaf⟩⟩) ?_
  refine cast ?_ hb
  kernel_rfl
def N47_l2_b (x0_k : Option Addr) (x4_grown : Sl) (x5_i : Int) (x6_l : Sl) (Φ : Int → Hp → Prop) (x7_n : Int) (h : Hp) (K_e4 : Hp → Prop) : Prop :=
  bif (decide (x7_n < ((x6_l.n : Nat) : Int))) then
    C57 x5_i x7_n h fun n0 h0 =>
    idx x7_n x6_l.n <|
    nn x6_l.p fun a0 =>
    st h0 (a0.add (x7_n.toNat * 1)) (.int .u8 n0) fun h1 =>
    Φ (IntKind.wrap .i64 (x7_n + 1)) h1
  else
    K_e4 h
def N47_l2_B (x0_k : Option Addr) (x4_grown : Sl) (x5_i : Int) (x6_l : Sl) (K_e4 : Hp → Prop) (s : Sg.T [(7, .c (.int .i64))]) (h : Hp) (Φ : Sg.T [(7, .c (.int .i64))] → Hp → Prop) : Prop :=
  N47_l2_b x0_k x4_grown x5_i x6_l (fun x7_n h => Φ x7_n h) s h K_e4
def N47_l2 (x0_k : Option Addr) (x4_grown : Sl) (x5_i : Int) (x6_l : Sl) (x7_n : Int) (h : Hp) (K_e4 : Hp → Prop) : Prop :=
  loopP (N47_l2_B x0_k x4_grown x5_i x6_l K_e4) x7_n h
noncomputable def N47_l2_t : Xf := loopT [(0, .c (.ptr)), (4, .c (.slice)), (5, .c (.int .i64)), (6, .c (.slice))] [(7, .c (.int .i64))] (codeAt B47 [1, 1, 1, 0, 1, 0, 0, 1, 0, 0, 1, 0, 1, 0, 0]) fun F Q => N47_l2_B F.1 F.2.1 F.2.2.1 F.2.2.2 (fun h' => Q (.exit 4) (Sg.env [] ()) h')
theorem N47_l2_ok : Sound Try.prog Try.f47.ntmps N47_l2_t (codeAt B47 [1, 1, 1, 0, 1, 0, 0, 1, 0, 0, 1, 0, 1, 0]) := by
  refine loop_sound (fun e => match e with | .exit 4 => [] | _ => []) (by kernel_rfl) ?_
  intro F Q s h Φ hb
  refine den_sound hE hm _ .leaf _ _ _ (annOk_leaf) ?_
  refine cast ?_ hb
  kernel_rfl
def N47_l3_b (x0_k : Option Addr) (x4_grown : Sl) (x5_i : Int) (x6_l : Sl) (Φ : Sl → Int → Hp → Prop) (x8_g : Sl) (x9_n : Int) (h : Hp) (K_e6 : Sl → Hp → Prop) : Prop :=
  bif (decide (x9_n < 9)) then
    C57 x5_i (IntKind.wrap .i64 (((x6_l.n : Nat) : Int) + x9_n)) h fun n0 h0 =>
    nw h0 (.cells ⟨[.int .u8 n0]⟩ 5) fun b0 h1 =>
    apK Try.prog 5 x8_g (.slice (some (bk b0)) 1 1) h1 fun s0 h2 =>
    Φ s0 (IntKind.wrap .i64 (x9_n + 1)) h2
  else
    K_e6 x8_g h
def N47_l3_B (x0_k : Option Addr) (x4_grown : Sl) (x5_i : Int) (x6_l : Sl) (K_e6 : Sl → Hp → Prop) (s : Sg.T [(8, .c (.slice)), (9, .c (.int .i64))]) (h : Hp) (Φ : Sg.T [(8, .c (.slice)), (9, .c (.int .i64))] → Hp → Prop) : Prop :=
  N47_l3_b x0_k x4_grown x5_i x6_l (fun x8_g x9_n h => Φ (x8_g, x9_n) h) s.1 s.2 h K_e6
def N47_l3 (x0_k : Option Addr) (x4_grown : Sl) (x5_i : Int) (x6_l : Sl) (x8_g : Sl) (x9_n : Int) (h : Hp) (K_e6 : Sl → Hp → Prop) : Prop :=
  loopP (N47_l3_B x0_k x4_grown x5_i x6_l K_e6) (x8_g, x9_n) h
noncomputable def N47_l3_t : Xf := loopT [(0, .c (.ptr)), (4, .c (.slice)), (5, .c (.int .i64)), (6, .c (.slice))] [(8, .c (.slice)), (9, .c (.int .i64))] (codeAt B47 [1, 1, 1, 0, 1, 0, 0, 1, 0, 0, 1, 1, 1, 0, 1, 0, 0]) fun F Q => N47_l3_B F.1 F.2.1 F.2.2.1 F.2.2.2 (fun o0 h' => Q (.exit 6) (Sg.env [(8, .c (.slice))] o0) h')
theorem N47_l3_ok : Sound Try.prog Try.f47.ntmps N47_l3_t (codeAt B47 [1, 1, 1, 0, 1, 0, 0, 1, 0, 0, 1, 1, 1, 0, 1, 0]) := by
  refine loop_sound (fun e => match e with | .exit 6 => [8] | _ => []) (by kernel_rfl) ?_
  intro F Q s h Φ hb
  refine den_sound hE hm _ .leaf _ _ _ (annOk_leaf) ?_
  refine cast ?_ hb
  kernel_rfl
def N47_l1_b (x0_k : Option Addr) (Φ : Sl → Int → Hp → Prop) (x4_grown : Sl) (x5_i : Int) (h : Hp) (K_e2 : Sl → Hp → Prop) : Prop :=
  nn x0_k fun a0 =>
  xL (cell h a0) fun s0 =>
  bif (decide (x5_i < ((s0.n : Nat) : Int))) then
    nn x0_k fun a1 =>
    xL (cell h a1) fun s1 =>
    idx x5_i s1.n <|
    nn s1.p fun a2 =>
    xL (cell h (a2.add (x5_i.toNat * 1))) fun s2 =>
    N47_l2 x0_k x4_grown x5_i s2 0 h
      (fun h0 =>
        N47_l3 x0_k x4_grown x5_i s2 s2 0 h0
          (fun s3 h1 =>
            nw h1 (.cells ⟨[.slice s3.p s3.n s3.c]⟩ 37) fun b0 h2 =>
            apK Try.prog 37 x4_grown (.slice (some (bk b0)) 1 1) h2 fun s4 h3 =>
            Φ s4 (IntKind.wrap .i64 (x5_i + 1)) h3))
  else
    K_e2 x4_grown h
def N47_l1_B (x0_k : Option Addr) (K_e2 : Sl → Hp → Prop) (s : Sg.T [(4, .c (.slice)), (5, .c (.int .i64))]) (h : Hp) (Φ : Sg.T [(4, .c (.slice)), (5, .c (.int .i64))] → Hp → Prop) : Prop :=
  N47_l1_b x0_k (fun x4_grown x5_i h => Φ (x4_grown, x5_i) h) s.1 s.2 h K_e2
def N47_l1 (x0_k : Option Addr) (x4_grown : Sl) (x5_i : Int) (h : Hp) (K_e2 : Sl → Hp → Prop) : Prop :=
  loopP (N47_l1_B x0_k K_e2) (x4_grown, x5_i) h
noncomputable def N47_l1_t : Xf := loopT [(0, .c (.ptr))] [(4, .c (.slice)), (5, .c (.int .i64))] (codeAt B47 [1, 1, 1, 0, 1, 0, 0]) fun F Q => N47_l1_B F (fun o0 h' => Q (.exit 2) (Sg.env [(4, .c (.slice))] o0) h')
theorem N47_l1_ok : Sound Try.prog Try.f47.ntmps N47_l1_t (codeAt B47 [1, 1, 1, 0, 1, 0]) := by
  refine loop_sound (fun e => match e with | .exit 2 => [4] | _ => []) (by kernel_rfl) ?_
  intro F Q s h Φ hb
  refine den_sound hE hm _ (.two .leaf (.two (.one (.two .leaf (.two (.two .leaf (.one (.xf N47_l2_t))) (.two .leaf (.two (.two .leaf (.one (.xf N47_l3_t))) .leaf))))) .leaf)) _ _ _ (⟨annOk_leaf, ⟨⟨annOk_leaf, ⟨⟨annOk_leaf, N47_l2_ok⟩, ⟨annOk_leaf, ⟨⟨annOk_leaf, N47_l3_ok⟩, annOk_leaf⟩⟩⟩⟩, annOk_leaf⟩⟩) ?_
  refine cast ?_ hb
  kernel_rfl
def N47_l5_b (x0_k : Option Addr) (x4_grown : Sl) (x11_i : Int) (x12_l : Sl) (Φ : Int → Hp → Prop) (x13_n : Int) (h : Hp) (K_e10 : Hp → Prop) (K_ret : Bool → Hp → Prop) : Prop :=
  idx x11_i x4_grown.n <|
  nn x4_grown.p fun a0 =>
  xL (cell h (a0.add (x11_i.toNat * 1))) fun s0 =>
  bif (decide (x13_n < ((s0.n : Nat) : Int))) then
    C57 x11_i x13_n h fun n0 h0 =>
    idx x11_i x4_grown.n <|
    nn x4_grown.p fun a1 =>
    xL (cell h0 (a1.add (x11_i.toNat * 1))) fun s1 =>
    idx x13_n s1.n <|
    nn s1.p fun a2 =>
    xI .u8 (cell h0 (a2.add (x13_n.toNat * 1))) fun n1 =>
    bif (n1 != n0) then
      K_ret false h0
    else
      bif (decide (x13_n < ((x12_l.n : Nat) : Int))) then
        idx x13_n x12_l.n <|
        nn x12_l.p fun a3 =>
        xI .u8 (cell h0 (a3.add (x13_n.toNat * 1))) fun n2 =>
        bif (n2 != n0) then
          K_ret false h0
        else
          Φ (IntKind.wrap .i64 (x13_n + 1)) h0
      else
        Φ (IntKind.wrap .i64 (x13_n + 1)) h0
  else
    K_e10 h
def N47_l5_B (x0_k : Option Addr) (x4_grown : Sl) (x11_i : Int) (x12_l : Sl) (K_e10 : Hp → Prop) (K_ret : Bool → Hp → Prop) (s : Sg.T [(13, .c (.int .i64))]) (h : Hp) (Φ : Sg.T [(13, .c (.int .i64))] → Hp → Prop) : Prop :=
  N47_l5_b x0_k x4_grown x11_i x12_l (fun x13_n h => Φ x13_n h) s h K_e10 K_ret
def N47_l5 (x0_k : Option Addr) (x4_grown : Sl) (x11_i : Int) (x12_l : Sl) (x13_n : Int) (h : Hp) (K_e10 : Hp → Prop) (K_ret : Bool → Hp → Prop) : Prop :=
  loopP (N47_l5_B x0_k x4_grown x11_i x12_l K_e10 K_ret) x13_n h
noncomputable def N47_l5_t : Xf := loopT [(0, .c (.ptr)), (4, .c (.slice)), (11, .c (.int .i64)), (12, .c (.slice))] [(13, .c (.int .i64))] (codeAt B47 [1, 1, 1, 1, 0, 1, 0, 0, 1, 0, 0, 1, 1, 0, 0]) fun F Q => N47_l5_B F.1 F.2.1 F.2.2.1 F.2.2.2 (fun h' => Q (.exit 10) (Sg.env [] ()) h') (fun o0 h' => Q .ret (Sg.env [(2, .c (.bool))] o0) h')
theorem N47_l5_ok : Sound Try.prog Try.f47.ntmps N47_l5_t (codeAt B47 [1, 1, 1, 1, 0, 1, 0, 0, 1, 0, 0, 1, 1, 0]) := by
  refine loop_sound (fun e => match e with | .exit 10 => [] | .ret => [2] | _ => []) (by kernel_rfl) ?_
  intro F Q s h Φ hb
  refine den_sound hE hm _ .leaf _ _ _ (annOk_leaf) ?_
  refine cast ?_ hb
  kernel_rfl
def N47_l4_b (x0_k : Option Addr) (x4_grown : Sl) (Φ : Int → Hp → Prop) (x11_i : Int) (h : Hp) (K_e8 : Hp → Prop) (K_ret : Bool → Hp → Prop) : Prop :=
  bif (decide (x11_i < ((x4_grown.n : Nat) : Int))) then
    nn x0_k fun a0 =>
    xL (cell h a0) fun s0 =>
    idx x11_i s0.n <|
    nn s0.p fun a1 =>
    xL (cell h (a1.add (x11_i.toNat * 1))) fun s1 =>
    N47_l5 x0_k x4_grown x11_i s1 0 h
      (fun h0 =>
        Φ (IntKind.wrap .i64 (x11_i + 1)) h0)
      (fun b0 h1 =>
        K_ret b0 h1)
  else
    K_e8 h
def N47_l4_B (x0_k : Option Addr) (x4_grown : Sl) (K_e8 : Hp → Prop) (K_ret : Bool → Hp → Prop) (s : Sg.T [(11, .c (.int .i64))]) (h : Hp) (Φ : Sg.T [(11, .c (.int .i64))] → Hp → Prop) : Prop :=
  N47_l4_b x0_k x4_grown (fun x11_i h => Φ x11_i h) s h K_e8 K_ret
def N47_l4 (x0_k : Option Addr) (x4_grown : Sl) (x11_i : Int) (h : Hp) (K_e8 : Hp → Prop) (K_ret : Bool → Hp → Prop) : Prop :=
  loopP (N47_l4_B x0_k x4_grown K_e8 K_ret) x11_i h
noncomputable def N47_l4_t : Xf := loopT [(0, .c (.ptr)), (4, .c (.slice))] [(11, .c (.int .i64))] (codeAt B47 [1, 1, 1, 1, 0, 1, 0, 0]) fun F Q => N47_l4_B F.1 F.2 (fun h' => Q (.exit 8) (Sg.env [] ()) h') (fun o0 h' => Q .ret (Sg.env [(2, .c (.bool))] o0) h')
theorem N47_l4_ok : Sound Try.prog Try.f47.ntmps N47_l4_t (codeAt B47 [1, 1, 1, 1, 0, 1, 0]) := by
  refine loop_sound (fun e => match e with | .exit 8 => [] | .ret => [2] | _ => []) (by kernel_rfl) ?_
  intro F Q s h Φ hb
  refine den_sound hE hm _ (.two .leaf (.two (.one (.two .leaf (.two .leaf (.one (.xf N47_l5_t))))) .leaf)) _ _ _ (⟨annOk_leaf, ⟨⟨annOk_leaf, ⟨annOk_leaf, N47_l5_ok⟩⟩, annOk_leaf⟩⟩) ?_
  refine cast ?_ hb
  kernel_rfl
def N47 (x0 : Option Addr) (h : Hp) (K : Bool → Hp → Prop) : Prop :=
  N47_l0 x0 0 h
    (fun h0 =>
      N47_l1 x0 ⟨none, 0, 0⟩ 0 h0
        (fun s0 h1 =>
          N47_l4 x0 s0 0 h1
            (fun h2 =>
              K true h2)
            (fun b0 h3 =>
              K b0 h3)))
    (fun b1 h4 =>
      K b1 h4)
theorem S47 {x0 : Option Addr} {h : Hp} {K : Bool → Hp → Prop} (hn : N47 x0 h K) : C47 x0 h K := by
  refine calls_of_D Try.func47 (c := B47) rfl (by kernel_rfl) ?_
  refine den_sound hE hm _ (.two .leaf (.two (.two .leaf (.one (.xf N47_l0_t))) (.two .leaf (.two (.two .leaf (.one (.xf N47_l1_t))) (.two (.two .leaf (.one (.xf N47_l4_t))) .leaf))))) _ _ _ (⟨annOk_leaf, ⟨⟨annOk_leaf, N47_l0_ok⟩, ⟨annOk_leaf, ⟨⟨annOk_leaf, N47_l1_ok⟩, ⟨⟨annOk_leaf, N47_l4_ok⟩, annOk_leaf⟩⟩⟩⟩⟩) ?_
  refine cast ?_ hn
  kernel_rfl
end Go.Proofs.Ytabihmedfopdcaa

/-
  A book of lists of bytes that came out: one more is taken; all of them are their owner's.
-/
set_option linter.unusedSimpArgs false
set_option linter.unusedVariables false
namespace Go.Proofs.Ytabihmedfopdcaa
open Go Go.Hw

theorem yl_a : Try.prog.cellsOf 37 = 1 := by kernel_rfl
theorem yl_z : (zc Try.prog 37).length = 1 := by kernel_rfl
theorem yl_b : Try.prog.bytesOf 37 = 24 := by kernel_rfl
theorem st_a : Try.prog.cellsOf 9 = 1 := by kernel_rfl
theorem st_z : (zc Try.prog 9).length = 1 := by kernel_rfl
theorem st_b : Try.prog.bytesOf 9 = 16 := by kernel_rfl

abbrev Ent := Sl × List UInt8
def ownB (e : Ent) : Asn := Hw.own 5 1 e.1 (bc e.2)
/-- a book -/
def bookA (k : Nat) (E : List Ent) : Asn := exs fun p : Sl × Sl => star [row k 63 [p.1.v, p.2.v], Hw.own 37 1 p.1 (E.map fun e => e.1.v), Hw.own 9 1 p.2 (E.map fun e => .string ⟨⟨e.2⟩⟩), star (E.map ownB)]

theorem Sat.unex {α : Type} {L : List Asn} {A : α → Asn} {h : Hp} (hs : Sat (L ++ [exs A]) h) : ∃ a, Sat (L ++ [A a]) h := by
  obtain ⟨F, h1, h2⟩ := hs
  obtain ⟨a, ha⟩ := h1 L.length (exs A) (by simp)
  refine ⟨a, F, fun i B hi => ?_, by simpa using h2⟩
  by_cases e : i < L.length
  · rw [List.getElem?_append_left e] at hi
    exact h1 i B (by rw [List.getElem?_append_left e]; exact hi)
  · have := lt_of_get hi
    simp at this
    have : i = L.length := by omega
    subst this
    simp at hi; subst hi; exact ha
theorem Sat.ex {α : Type} {L : List Asn} {A : α → Asn} {h : Hp} (a : α) (hs : Sat (L ++ [A a]) h) : Sat (L ++ [exs A]) h := hs.imp 0 rfl fun F hF => ⟨a, hF⟩

/-- one more is taken -/
theorem c_take {L : List Asn} {k : Nat} {E : List Ent} {s : Sl} {l : List UInt8} {h : Hp} {K : Hp → Prop} (hs : Sat (L ++ [bookA k E, Hw.own 5 1 s (bc l)]) h) (hE : E.length ≤ 1099511627776)
    (hK : ∀ h', Sat (L ++ [bookA k (E ++ [(s, l)])]) h' → K h') : C45 (some (bk k)) s h K := by
  apply S45; unfold N45
  obtain ⟨⟨p, q⟩, hs⟩ := Sat.unex (hs.rot 0 rfl)
  replace hs := hs.open
  rw [show (L ++ [bookA k E, Hw.own 5 1 s (bc l)].eraseIdx 0) = L ++ [Hw.own 5 1 s (bc l)] from rfl, List.append_assoc] at hs
  simp only [List.cons_append, List.nil_append] at hs
  have hk := hs.blk 1 rfl
  have c0 : cell h (bk k) = some p.v := by rw [hk.cell]; rfl
  have pn : p.n = E.length := by have := (hs.own 2 rfl).1; simpa using this.symm
  have qn : q.n = E.length := by have := (hs.own 3 rfl).1; simpa using this.symm
  simp only [nn_some', c0, xL_v]
  refine hs.push 2 rfl (k := 1) yl_a yl_z rfl (by intro v hv; simp at hv; subst hv; rfl) (by rw [yl_b]; omega) ?_
  intro p' h1 hs pn'
  simp only [List.set_cons_succ, List.set_cons_zero] at hs
  refine hs.st (b := k) (k := 0) (v := p'.v) 1 rfl (by simp) rfl ?_
  intro h2 hs
  simp only [List.set_cons_succ, List.set_cons_zero] at hs
  have hk2 := hs.blk 1 rfl
  have c1 : cell h2 ((bk k).add 1) = some q.v := by rw [add_bk, hk2.cell]; rfl
  simp only [c1, xL_v]
  have hr := (hs.own 0 rfl).rdb
  refine hr.b2s ?_
  intro b1 e1
  have hs3 := hs.ext (Ext.new (o := .cells ⟨[.string ⟨⟨l⟩⟩]⟩ 9 (0, 0)) e1)
  have c2 : cell (upd h2 b1 (.cells ⟨[.string ⟨⟨l⟩⟩]⟩ 9 (0, 0))) ((bk k).add 1) = some q.v := by rw [add_bk, (hs3.blk 1 rfl).cell]; rfl
  refine ⟨by rw [c2]; exact ⟨rfl, rfl⟩, ?_⟩
  refine hs3.ap 3 rfl (n := 1) (ns := [.string ⟨⟨l⟩⟩]) st_a st_z (fun _ => rfl) ?_ rfl (by intro v hv; simp at hv; subst hv; rfl) (by rw [st_b]; omega) ?_
  · intro G hG
    unfold srcK
    simp only []
    rw [rdN_blk (T := 9) (cs := [.string ⟨⟨l⟩⟩]) Blk.upd_same _ _ (by simp)]
    exact hG
  · intro q' h4 hs qn'
    simp only [List.set_cons_succ, List.set_cons_zero] at hs
    simp only [nn_some', add_bk]
    refine hs.st (b := k) (k := 1) (v := q'.v) 1 rfl (by simp) rfl ?_
    intro h5 hs
    simp only [List.set_cons_succ, List.set_cons_zero] at hs
    refine hK _ ?_
    -- put together
    have g1 : Sat ((L ++ [Hw.own 5 1 s (bc l), row k 63 [p'.v, q'.v], Hw.own 37 1 p' (E.map (fun e => e.1.v) ++ [s.v]), Hw.own 9 1 q' (E.map (fun e => .string ⟨⟨e.2⟩⟩) ++ [.string ⟨⟨l⟩⟩]), star (E.map ownB)].eraseIdx 0) ++ [Hw.own 5 1 s (bc l)]) h5 := hs.rot 0 rfl
    have g2 : Sat ((L ++ [row k 63 [p'.v, q'.v], Hw.own 37 1 p' (E.map (fun e => e.1.v) ++ [s.v]), Hw.own 9 1 q' (E.map (fun e => .string ⟨⟨e.2⟩⟩) ++ [.string ⟨⟨l⟩⟩])]) ++ [star (E.map ownB), Hw.own 5 1 s (bc l)]) h5 := by simpa using g1
    have g3 := g2.into
    have g4 : Sat (L ++ [row k 63 [p'.v, q'.v], Hw.own 37 1 p' ((E ++ [(s, l)]).map fun e => e.1.v), Hw.own 9 1 q' ((E ++ [(s, l)]).map fun e => .string ⟨⟨e.2⟩⟩), star ((E ++ [(s, l)]).map ownB)]) h5 := by simpa [ownB] using g3
    exact Sat.ex (A := fun p : Sl × Sl => star [row k 63 [p.1.v, p.2.v], Hw.own 37 1 p.1 ((E ++ [(s, l)]).map fun e => e.1.v), Hw.own 9 1 p.2 ((E ++ [(s, l)]).map fun e => .string ⟨⟨e.2⟩⟩), star ((E ++ [(s, l)]).map ownB)]) (p', q') g4.close

/-! ### all of them are their owner's -/
def mk (i n : Nat) : List UInt8 := (List.range n).map fun j => UInt8.ofNat (markN i j)
theorem mk_len (i n : Nat) : (mk i n).length = n := by simp [mk]
theorem mk_succ (i n : Nat) : mk i (n + 1) = mk i n ++ [UInt8.ofNat (markN i n)] := by simp [mk, List.range_succ]
theorem mk_get (i n j : Nat) (hj : j < n) : (mk i n)[j]'(by rw [mk_len]; exact hj) = UInt8.ofNat (markN i j) := by simp [mk]
theorem mark_u8 (i j : Nat) : ((UInt8.ofNat (markN i j)).toNat : Int) = ((markN i j : Nat) : Int) := by
  rw [UInt8.toNat_ofNat']
  have : markN i j < 256 := by unfold markN; omega
  omega

/-- one list is written over with marks -/
theorem owned2 {L : List Asn} {kk : Option Addr} {gr s : Sl} {i : Nat} {l : List UInt8} {h : Hp} {Ke : Hp → Prop} (hs : Sat (L ++ [Hw.own 5 1 s (bc l)]) h) (hi : i ≤ 1099511627776) (hl : l.length ≤ 140737488355000)
    (hK : ∀ h', Sat (L ++ [Hw.own 5 1 s (bc (mk i l.length))]) h' → Ke h') : N47_l2 kk gr i s 0 h Ke := by
  unfold N47_l2
  have sn := (hs.own 0 rfl).1
  simp at sn
  refine loopP_inv (fun (x : Int) hc => ∃ n : Nat, x = n ∧ n ≤ l.length ∧ Sat (L ++ [Hw.own 5 1 s (bc (mk i n ++ l.drop n))]) hc) (fun x _ => l.length - x.toNat) ?_ ⟨0, rfl, Nat.zero_le _, by simpa [mk] using hs⟩
  rintro x hc ⟨n, rfl, hn, hs⟩
  unfold N47_l2_B N47_l2_b
  by_cases hlt : n < l.length
  · have : decide ((n : Int) < ((s.n : Nat) : Int)) = true := by simp; omega
    rw [this, cond_true]
    refine c_mark (by omega) (by omega) ?_
    refine hs.stAt (k := n) 0 rfl rfl (by simp [mk_len]; omega) rfl ?_
    intro h' hs'
    rw [nat_succ64 (by omega)]
    refine ⟨⟨n + 1, rfl, hlt, ?_⟩, by omega⟩
    simp only [List.set_cons_zero] at hs'
    rw [← mark_u8, ← bc_set] at hs'
    have : (mk i n ++ l.drop n).set n (UInt8.ofNat (markN i n)) = mk i (n + 1) ++ l.drop (n + 1) := by
      rw [List.set_append_right _ _ (by rw [mk_len]; exact Nat.le_refl _), mk_len, Nat.sub_self, List.drop_eq_getElem_cons hlt, List.set_cons_zero, mk_succ]
      simp
    rw [this] at hs'; exact hs'
  · have : decide ((n : Int) < ((s.n : Nat) : Int)) = false := by simp; omega
    rw [this, cond_false]
    have : n = l.length := by omega
    subst this
    refine hK _ ?_
    simpa using hs

/-- a list that is marked and grown: in its place, or beside it -/
def dn (i : Nat) (e : Ent) (g : Sl) : Asn :=
  orA (star [pur (g.p = e.1.p ∧ g.c = e.1.c ∧ e.1.n = e.2.length ∧ e.1.n ≤ e.1.c), Hw.own 5 1 g (bc (mk i (e.2.length + 9)))]) (star [Hw.own 5 1 e.1 (bc (mk i e.2.length)), Hw.own 5 1 g (bc (mk i (e.2.length + 9)))])
theorem star_two {A B : Asn} {F : Nat → Prop} {h : Hp} (hh : (star [A, B]).on F h) : (∃ G, A.on G h) ∧ ∃ G, B.on G h := by
  obtain ⟨G, h1, _, _⟩ := hh
  exact ⟨⟨_, h1 0 A rfl⟩, ⟨_, h1 1 B rfl⟩⟩
theorem dn_reads {i : Nat} {e : Ent} {g : Sl} {F : Nat → Prop} {h : Hp} (hd : (dn i e g).on F h) : RdB h e.1 (mk i e.2.length) ∧ RdB h g (mk i (e.2.length + 9)) := by
  rcases hd with hd | hd
  · obtain ⟨⟨_, hp⟩, ⟨_, hg⟩⟩ := star_two hd
    have hr := hg.2.rdb
    refine ⟨⟨by rw [mk_len]; exact hp.2.2.2.1, hp.2.2.2.2, ?_⟩, hr⟩
    have := hr.r.take e.2.length
    rw [← bc_take] at this
    have ht : (mk i (e.2.length + 9)).take e.2.length = mk i e.2.length := by simp [mk, ← List.map_take, List.take_range]
    rw [ht, hp.2.1] at this; exact this
  · obtain ⟨⟨_, hp⟩, ⟨_, hg⟩⟩ := star_two hd
    exact ⟨hp.2.rdb, hg.2.rdb⟩

theorem owned3 {L : List Asn} {kk : Option Addr} {gr s : Sl} {i : Nat} {l : List UInt8} {h : Hp} {Ke : Sl → Hp → Prop} (hs : Sat (L ++ [Hw.own 5 1 s (bc (mk i l.length))]) h) (hi : i ≤ 1099511627776) (hl : l.length ≤ 17592186044416)
    (hK : ∀ g h', Sat (L ++ [dn i (s, l) g]) h' → Ke g h') : N47_l3 kk gr i s s 0 h Ke := by
  unfold N47_l3
  have so := hs.own 0 rfl
  have sn := so.1
  simp [mk_len] at sn
  have sc := so.2.1
  refine loopP_inv (fun (x : Sl × Int) hc => ∃ n : Nat, x.2 = n ∧ n ≤ 9 ∧ x.1.n = l.length + n ∧
      ((x.1.p = s.p ∧ x.1.c = s.c ∧ Sat (L ++ [Hw.own 5 1 x.1 (bc (mk i (l.length + n)))]) hc) ∨ Sat (L ++ [Hw.own 5 1 s (bc (mk i l.length)), Hw.own 5 1 x.1 (bc (mk i (l.length + n)))]) hc)) (fun x _ => 9 - x.2.toNat) ?_
    ⟨0, rfl, by omega, by first | omega | (dsimp only; omega), .inl ⟨rfl, rfl, hs⟩⟩
  rintro ⟨g, x⟩ hc ⟨n, hx, hn, hgn, hs⟩
  simp only at hx hgn hs
  subst hx
  unfold N47_l3_B N47_l3_b
  dsimp only
  by_cases hlt : n < 9
  · have : decide ((n : Int) < 9) = true := by simp; omega
    rw [this, cond_true]
    have ea : IntKind.wrap .i64 (((s.n : Nat) : Int) + (n : Int)) = ((l.length + n : Nat) : Int) := by rw [wi64i (by omega) (by omega)]; omega
    rw [ea]
    refine c_mark (by omega) (by omega) ?_
    rw [nat_succ64 (by omega)]
    have eb : bc (mk i (l.length + n)) ++ [Value.int .u8 ((markN i (l.length + n) : Nat) : Int)] = bc (mk i (l.length + (n + 1))) := by
      rw [← Nat.add_assoc, mk_succ, bc_app, ← mark_u8]; rfl
    rcases hs with ⟨hp, hc2, hs⟩ | hs
    · refine hs.push2 0 rfl (k := 1) y_a y_zl rfl (by intro v hv; simp at hv; subst hv; rfl) (by rw [y_b]; omega) ?_ ?_
      · intro hle h' hs'
        rw [eb] at hs'
        exact ⟨⟨n + 1, rfl, hlt, by first | omega | (dsimp only; omega), .inl ⟨hp, hc2, hs'⟩⟩, by first | omega | (dsimp only; omega)⟩
      · intro s' h' hn' hs'
        rw [eb] at hs'
        refine ⟨⟨n + 1, rfl, hlt, by first | omega | (dsimp only; omega), .inr ?_⟩, by first | omega | (dsimp only; omega)⟩
        refine hs'.imp 0 rfl ?_
        rintro F ⟨f1, f2⟩
        have fcut := f2.cut (k := l.length) (by omega)
        rw [hp, hc2] at fcut
        refine ⟨fun x => by rw [← hp]; exact f1 x, ?_⟩
        have es : (⟨s.p, l.length, s.c⟩ : Sl) = s := by cases s; simp only at sn; rw [← sn]
        rw [es, Nat.mul_one, ← bc_take] at fcut
        have ht : (mk i (l.length + n)).take l.length = mk i l.length := by simp [mk, ← List.map_take, List.take_range]
        rw [ht] at fcut; exact fcut
    · refine hs.push 1 rfl (k := 1) y_a y_zl rfl (by intro v hv; simp at hv; subst hv; rfl) (by rw [y_b]; omega) ?_
      intro s' h' hs' hn'
      rw [eb] at hs'
      exact ⟨⟨n + 1, rfl, hlt, by first | omega | (dsimp only; omega), .inr hs'⟩, by first | omega | (dsimp only; omega)⟩
  · have : decide ((n : Int) < 9) = false := by simp; omega
    rw [this, cond_false]
    have : n = 9 := by omega
    subst this
    refine hK g hc ?_
    rcases hs with ⟨hp, hc2, hs⟩ | hs
    · have h1 : Sat (L ++ [star [pur (g.p = s.p ∧ g.c = s.c ∧ s.n = l.length ∧ s.n ≤ s.c), Hw.own 5 1 g (bc (mk i (l.length + 9)))]]) hc := by
        refine hs.imp 0 rfl fun F hF => ?_
        refine ⟨fun j x => if j = 1 then F x else False, ?_, ?_, ?_⟩
        · intro j A hj
          match j, hj with
          | 0, hj => simp at hj; subst hj; exact ⟨fun x hx => by simp at hx, hp, hc2, by omega, sc⟩
          | 1, hj => simp at hj; subst hj; simpa using hF
          | j + 2, hj => simp at hj
        · intro j k x hj hk h1 h2
          simp at h1 h2; omega
        · intro x; constructor
          · intro hx; exact ⟨1, by simp, by simpa using hx⟩
          · rintro ⟨j, _, hx⟩; simp at hx; exact hx.2
      exact h1.imp 0 rfl fun F hF => .inl hF
    · exact hs.close.imp 0 rfl fun F hF => .inr hF

/-- the lists, of which some are done -/
def its (E : List Ent) (G : List Sl) : List Asn := E.mapIdx fun j e => match G[j]? with
  | some g => dn j e g
  | none => ownB e
theorem its_get {E : List Ent} {G : List Sl} {j : Nat} {e : Ent} (hj : E[j]? = some e) : (its E G)[j]? = some (match G[j]? with | some g => dn j e g | none => ownB e) := by
  simp [its, List.getElem?_mapIdx, hj]
theorem its_len (E : List Ent) (G : List Sl) : (its E G).length = E.length := by simp [its]
theorem its_nil (E : List Ent) : its E [] = E.map ownB := by
  apply List.ext_getElem?
  intro j
  simp [its, List.getElem?_mapIdx]
theorem its_set {E : List Ent} {G : List Sl} {e : Ent} {g : Sl} (he : E[G.length]? = some e) : (its E G).set G.length (dn G.length e g) = its E (G ++ [g]) := by
  apply List.ext_getElem?
  intro j
  have hl := lt_of_get he
  by_cases hj : j = G.length
  · subst hj
    rw [List.getElem?_set_self (by rw [its_len]; exact hl), its_get he]
    simp
  · rw [List.getElem?_set_ne (fun e => hj e.symm)]
    cases hE : E[j]? with
    | none => simp [its, List.getElem?_mapIdx, hE]
    | some e' =>
      rw [its_get hE, its_get hE]
      congr 1
      by_cases h2 : j < G.length
      · rw [List.getElem?_append_left h2]
      · rw [List.getElem?_eq_none (by omega), List.getElem?_eq_none (by simp; omega)]

theorem c_owned {L : List Asn} {k : Nat} {E : List Ent} {h : Hp} {K : Bool → Hp → Prop} (hs : Sat (L ++ [bookA k E]) h) (hE : E.length ≤ 1099511627776) (hl : ∀ e ∈ E, e.2.length ≤ 17592186044416)
    (hK : ∀ h', Sat L h' → K true h') : C47 (some (bk k)) h K := by
  apply S47; unfold N47
  obtain ⟨⟨p, q⟩, hs⟩ := Sat.unex hs
  replace hs := hs.open
  have h3 : Sat ((L ++ [row k 63 [p.v, q.v], Hw.own 37 1 p (E.map fun e => e.1.v), Hw.own 9 1 q (E.map fun e => .string ⟨⟨e.2⟩⟩)]) ++ [star (E.map ownB)]) h := by simpa using hs
  replace hs := h3.open
  rw [List.append_assoc] at hs
  have hk := hs.blk 0 rfl
  have pn : p.n = E.length := by have := (hs.own 1 rfl).1; simpa using this.symm
  have qn : q.n = E.length := by have := (hs.own 2 rfl).1; simpa using this.symm
  have c0 : cell h (bk k) = some p.v := by rw [hk.cell]; rfl
  have c1 : cell h ((bk k).add 1) = some q.v := by rw [add_bk, hk.cell]; rfl
  -- the first loop: they read as they did
  unfold N47_l0
  refine loopP_inv (fun (x : Int) hc => hc = h ∧ ∃ i : Nat, x = i ∧ i ≤ E.length) (fun x _ => E.length - x.toNat) ?_ ⟨rfl, 0, rfl, Nat.zero_le _⟩
  rintro x hc ⟨rfl, i, rfl, hi⟩
  unfold N47_l0_B N47_l0_b
  simp only [nn_some', c0, xL_v]
  by_cases hlt : i < E.length
  · have : decide ((i : Int) < ((p.n : Nat) : Int)) = true := by simp; omega
    rw [this, cond_true]
    have he : E[i]? = some E[i] := List.getElem?_eq_getElem hlt
    obtain ⟨b, hb, hcell⟩ := (hs.own 1 rfl).get (k := i) (v := E[i].1.v) (by rw [List.getElem?_map, he]; rfl)
    obtain ⟨b2, hb2, hcell2⟩ := (hs.own 2 rfl).get (k := i) (v := .string ⟨⟨E[i].2⟩⟩) (by rw [List.getElem?_map, he]; rfl)
    refine idx_of (by omega) (by omega) ?_
    rw [hb]
    simp only [nn_some', add_bk, Int.toNat_natCast, Nat.mul_one, hcell, xL_v]
    have hr := (hs.own (3 + i) (T := 5) (sz := 1) (s := E[i].1) (vs := bc E[i].2) (by
      rw [List.getElem?_append_right (by simp)]
      simp [ownB, he])).rdb
    refine hr.b2s ?_
    have c1' : cell hc ⟨k, 1, none⟩ = some q.v := by rw [hk.cell]; rfl
    simp only [c1', xL_v]
    refine idx_of (by omega) (by omega) ?_
    rw [hb2]
    simp only [nn_some', add_bk, Int.toNat_natCast, Nat.mul_one, hcell2, xS_some, beq_self_eq_true, Bool.not_true, cond_false]
    rw [nat_succ64 (by omega)]
    exact ⟨⟨trivial, i + 1, rfl, hlt⟩, by omega⟩
  · have : decide ((i : Int) < ((p.n : Nat) : Int)) = false := by simp; omega
    rw [this, cond_false]
    clear this hlt hi
    -- the second loop: marked and grown
    have hs5 : Sat (L ++ ([row k 63 [p.v, q.v], Hw.own 37 1 p (E.map fun e => e.1.v), Hw.own 37 1 ⟨none, 0, 0⟩ []] ++ its E [])) hc := by
      refine (Sat.addNil 37 1 hs).pick (fun n => if n < L.length + 2 then n else if n = L.length + 2 then L.length + (3 + E.length) else n) ?_ ?_
      · intro n A hn
        rw [its_nil] at hn
        have hnl := lt_of_get hn
        simp at hnl
        by_cases e1 : n < L.length
        · rw [if_pos (by omega)]
          rw [List.getElem?_append_left e1] at hn ⊢; exact hn
        · rw [List.getElem?_append_right (by omega)] at hn
          by_cases e2 : n < L.length + 2
          · rw [if_pos e2, List.getElem?_append_right (by omega)]
            rcases (show n - L.length = 0 ∨ n - L.length = 1 by omega) with q | q <;> rw [q] at hn ⊢ <;> simpa using hn
          · rw [if_neg e2]
            by_cases e3 : n = L.length + 2
            · rw [if_pos e3, List.getElem?_append_right (by omega), List.getElem?_append_right (by simp; omega)]
              have e0 : L.length + (3 + E.length) - L.length - ([row k 63 [p.v, q.v], Hw.own 37 1 p (E.map fun e => e.1.v), Hw.own 9 1 q (E.map fun e => .string ⟨⟨e.2⟩⟩)] ++ E.map ownB).length = 0 := by
                simp only [List.length_append, List.length_cons, List.length_nil, List.length_map]; omega
              rw [e0]
              rw [e3, show L.length + 2 - L.length = 2 by omega] at hn
              exact hn
            · rw [if_neg e3, List.getElem?_append_right (by omega), List.getElem?_append_left (by simp; omega)]
              obtain ⟨d, hd⟩ : ∃ d, n - L.length = d + 3 := ⟨n - L.length - 3, by omega⟩
              rw [hd] at hn ⊢
              simpa using hn
      · intro n m hn hm e
        simp [its_nil] at hn hm
        split at e <;> split at e <;> (try split at e) <;> (try split at e) <;> omega
    unfold N47_l1
    refine loopP_inv (fun (x : Sl × Int) hd => ∃ G : List Sl, x.2 = (G.length : Int) ∧ G.length ≤ E.length ∧ Sat (L ++ ([row k 63 [p.v, q.v], Hw.own 37 1 p (E.map fun e => e.1.v), Hw.own 37 1 x.1 (G.map Sl.v)] ++ its E G)) hd) (fun x _ => E.length - x.2.toNat) ?_
      ⟨[], rfl, Nat.zero_le _, hs5⟩
    clear hs hs5 h3 c0 c1 hk
    rintro ⟨gr, x⟩ hd ⟨G, hx, hG, hs⟩
    simp only at hx hs
    subst hx
    have hk := hs.blk 0 rfl
    have c0 : cell hd (bk k) = some p.v := by rw [hk.cell]; rfl
    unfold N47_l1_B N47_l1_b
    simp only [nn_some', c0, xL_v]
    have grn : gr.n = G.length := by have := (hs.own 2 rfl).1; simpa using this.symm
    by_cases hlt : G.length < E.length
    · have : decide ((G.length : Int) < ((p.n : Nat) : Int)) = true := by simp; omega
      rw [this, cond_true]
      have he : E[G.length]? = some E[G.length] := List.getElem?_eq_getElem hlt
      generalize hee : E[G.length] = e at he
      obtain ⟨b, hb, hcell⟩ := (hs.own 1 rfl).get (k := G.length) (v := e.1.v) (by rw [List.getElem?_map, he]; rfl)
      refine idx_of (by omega) (by omega) ?_
      rw [hb]
      simp only [nn_some', add_bk, Int.toNat_natCast, Nat.mul_one, hcell, xL_v]
      have hel := hl e (List.mem_of_getElem? he)
      have hit : ([row k 63 [p.v, q.v], Hw.own 37 1 p (E.map fun e => e.1.v), Hw.own 37 1 gr (G.map Sl.v)] ++ its E G)[3 + G.length]? = some (ownB e) := by
        rw [List.getElem?_append_right (by simp), show 3 + G.length - [row k 63 [p.v, q.v], Hw.own 37 1 p (E.map fun e => e.1.v), Hw.own 37 1 gr (G.map Sl.v)].length = G.length by simp, its_get he]
        simp
      refine owned2 (hs.rot (3 + G.length) hit) (by omega) (by omega) ?_
      intro h1 hs1
      refine owned3 hs1 (by omega) hel ?_
      intro g h2 hs2
      have hs3 := Sat.back hs2 (by have := lt_of_get hit; exact this)
      rw [List.set_append_right _ _ (by simp), show 3 + G.length - [row k 63 [p.v, q.v], Hw.own 37 1 p (E.map fun e => e.1.v), Hw.own 37 1 gr (G.map Sl.v)].length = G.length by simp] at hs3
      have eit : (its E G).set G.length (dn G.length (e.1, e.2) g) = its E (G ++ [g]) := its_set he
      rw [eit] at hs3
      refine hs3.push 2 rfl (k := 1) yl_a yl_z rfl (by intro v hv; simp at hv; subst hv; rfl) (by rw [yl_b]; omega) ?_
      intro gr' h4 hs4 hn4
      rw [nat_succ64 (by omega)]
      refine ⟨⟨G ++ [g], by simp, by simp; omega, ?_⟩, by first | omega | (dsimp only; omega)⟩
      have eg : (Value.slice g.p g.n g.c) = g.v := rfl
      rw [eg] at hs4
      simpa using hs4
    · have : decide ((G.length : Int) < ((p.n : Nat) : Int)) = false := by simp; omega
      rw [this, cond_false]
      have hGE : G.length = E.length := by omega
      clear this hlt
      -- the last loops: they read so
      have hL : Sat L hd := hs.left
      have reads : ∀ (i : Nat) (e : Ent) (g : Sl), E[i]? = some e → G[i]? = some g → RdB hd e.1 (mk i e.2.length) ∧ RdB hd g (mk i (e.2.length + 9)) := by
        intro i e g he hg
        obtain ⟨F, hF⟩ := hs.get' (3 + i) (A := dn i e g) (by
          rw [List.getElem?_append_right (by simp), show 3 + i - [row k 63 [p.v, q.v], Hw.own 37 1 p (E.map fun e => e.1.v), Hw.own 37 1 gr (G.map Sl.v)].length = i by simp, its_get he, hg])
        exact dn_reads hF
      have go := hs.own 2 rfl
      have po := hs.own 1 rfl
      unfold N47_l4
      refine loopP_inv (fun (x : Int) hf => hf = hd ∧ ∃ i : Nat, x = i ∧ i ≤ E.length) (fun x _ => E.length - x.toNat) ?_ ⟨rfl, 0, rfl, Nat.zero_le _⟩
      rintro x hf ⟨rfl, i, rfl, hi⟩
      unfold N47_l4_B N47_l4_b
      by_cases hlt : i < E.length
      · have : decide ((i : Int) < ((gr.n : Nat) : Int)) = true := by simp; omega
        rw [this, cond_true]
        simp only [nn_some', c0, xL_v]
        have he : E[i]? = some E[i] := List.getElem?_eq_getElem hlt
        have hg : G[i]? = some (G[i]'(by omega)) := List.getElem?_eq_getElem (by omega)
        generalize E[i] = e at he
        generalize (G[i]'(by omega)) = g at hg
        obtain ⟨r1, r2⟩ := reads i e g he hg
        have hel := hl e (List.mem_of_getElem? he)
        obtain ⟨b, hb, hcell⟩ := po.get (k := i) (v := e.1.v) (by rw [List.getElem?_map, he]; rfl)
        obtain ⟨b2, hb2, hcell2⟩ := go.get (k := i) (v := g.v) (by rw [List.getElem?_map, hg]; rfl)
        refine idx_of (by omega) (by omega) ?_
        rw [hb]
        simp only [nn_some', add_bk, Int.toNat_natCast, Nat.mul_one, hcell, xL_v]
        unfold N47_l5
        refine loopP_inv (fun (y : Int) hg => hg = hf ∧ ∃ n : Nat, y = n ∧ n ≤ e.2.length + 9) (fun y _ => e.2.length + 9 - y.toNat) ?_ ⟨rfl, 0, rfl, Nat.zero_le _⟩
        rintro y hf2 ⟨rfl, n, rfl, hn⟩
        unfold N47_l5_B N47_l5_b
        have gn := r2.n
        rw [mk_len] at gn
        have en := r1.n
        rw [mk_len] at en
        refine idx_of (by omega) (by omega) ?_
        rw [hb2]
        simp only [nn_some', add_bk, Int.toNat_natCast, Nat.mul_one, hcell2, xL_v]
        by_cases hnl : n < e.2.length + 9
        · have : decide ((n : Int) < ((g.n : Nat) : Int)) = true := by simp; omega
          rw [this, cond_true]
          refine c_mark (by omega) (by omega) ?_
          refine idx_of (by omega) (by omega) ?_
          simp only [hcell2, xL_v]
          refine r2.at' (i := n) (by rw [mk_len]; exact hnl) ?_
          rw [mk_get _ _ _ hnl, mark_u8]
          simp only [bne_self_eq_false, cond_false]
          have nx : ((True ∧ ∃ m : Nat, IntKind.wrap .i64 ((n : Int) + 1) = (m : Int) ∧ m ≤ e.2.length + 9) ∧ e.2.length + 9 - (IntKind.wrap .i64 ((n : Int) + 1)).toNat < e.2.length + 9 - n) := by
            rw [nat_succ64 (by omega)]
            exact ⟨⟨trivial, n + 1, rfl, hnl⟩, by omega⟩
          by_cases hn2 : n < e.2.length
          · have : decide ((n : Int) < ((e.1.n : Nat) : Int)) = true := by simp; omega
            rw [this, cond_true]
            refine r1.at' (i := n) (by rw [mk_len]; exact hn2) ?_
            rw [mk_get _ _ _ hn2, mark_u8]
            simp only [bne_self_eq_false, cond_false]
            exact nx
          · have : decide ((n : Int) < ((e.1.n : Nat) : Int)) = false := by simp; omega
            rw [this, cond_false]
            exact nx
        · have : decide ((n : Int) < ((g.n : Nat) : Int)) = false := by simp; omega
          rw [this, cond_false]
          rw [nat_succ64 (by omega)]
          exact ⟨⟨trivial, i + 1, rfl, hlt⟩, by omega⟩
      · have : decide ((i : Int) < ((gr.n : Nat) : Int)) = false := by simp; omega
        rw [this, cond_false]
        exact hK _ hL

end Go.Proofs.Ytabihmedfopdcaa

set_option linter.unusedVariables false
set_option maxRecDepth 100000
namespace Go.Proofs.Ytabihmedfopdcaa
open Go Go.Hw
/-! ### 20 (*slipway/slipwaylaw13.pair).step -/
noncomputable def B20 : Code := match Try.f20.body with | some c => c | none => .skip
noncomputable def N20_r0_t : Ann := .xf (treeT Try.prog E Try.f20.ntmps (.one 0 (.one 1 (.one 2 (.one 3 (.one 4 (.one 5 (.fork 6 (.one 7 (.one 8 (.one 9 (.fork 10 (.fork 11 (.one 12 .done) .done) .done)))) (.fork 10 (.fork 6 (.one 7 (.one 8 (.one 9 (.fork 11 (.one 12 .done) .done)))) .done) .done)))))))) (codeAt B20 [1, 0, 1, 0, 1, 1, 1, 1, 1, 1, 1, 1, 1, 0, 0]))
theorem N20_r0_ok : annOk Try.prog Try.f20.ntmps N20_r0_t (codeAt B20 [1, 0, 1, 0, 1, 1, 1, 1, 1, 1, 1, 1, 1, 0, 0]) := tree_sound hE hm (by kernel_rfl)
noncomputable def N20_r1_t : Ann := .xf (treeT Try.prog E Try.f20.ntmps (.one 0 (.one 1 (.one 2 (.one 3 (.one 4 (.one 5 (.fork 6 (.one 7 (.one 8 (.one 9 (.fork 10 (.fork 11 (.one 12 .done) .done) .done)))) (.fork 10 (.fork 6 (.one 7 (.one 8 (.one 9 (.fork 11 (.one 12 .done) .done)))) .done) .done)))))))) (codeAt B20 [1, 0, 1, 0, 1, 1, 1, 1, 1, 1, 1, 1, 1, 0, 1, 0]))
theorem N20_r1_ok : annOk Try.prog Try.f20.ntmps N20_r1_t (codeAt B20 [1, 0, 1, 0, 1, 1, 1, 1, 1, 1, 1, 1, 1, 0, 1, 0]) := tree_sound hE hm (by kernel_rfl)
def N20_j1 (x1_k : Option Addr) (x15_a : Option Addr) (x16_is : Bool) (x17_b : Option Addr) (x18_was : Bool) (h : Hp) (K_normal : Hp → Prop) (K_ret : Bool → Hp → Prop) : Prop :=
  nn x15_a fun a0 =>
  xI .u32 (cell h a0) fun n0 =>
  xI .u32 (cell h (a0.add 1)) fun n1 =>
  xI .i64 (cell h (a0.add 2)) fun n2 =>
  xI .i64 (cell h (a0.add 3)) fun n3 =>
  xL (cell h (a0.add 4)) fun s0 =>
  nn x17_b fun a1 =>
  xI .u32 (cell h a1) fun n4 =>
  xI .u32 (cell h (a1.add 1)) fun n5 =>
  xI .i64 (cell h (a1.add 2)) fun n6 =>
  xI .i64 (cell h (a1.add 3)) fun n7 =>
  xL (cell h (a1.add 4)) fun s1 =>
  C44 n0 n1 n2 n3 s0 n4 n5 n6 n7 s1 h fun b0 h0 =>
  bif (!b0) then
    K_ret false h0
  else
    bif (!(x16_is == x18_was)) then
      K_ret false h0
    else
      nn x1_k fun a2 =>
      xP (cell h0 a2) fun p0 =>
      nn x15_a fun a3 =>
      xL (cell h0 (a3.add 4)) fun s2 =>
      C45 p0 s2 h0 fun h1 =>
      K_normal h1
noncomputable def N20_j1_t : Xf := pieceT [(1, .c (.ptr)), (15, .c (.ptr)), (16, .c (.bool)), (17, .c (.ptr)), (18, .c (.bool))] (codeAt B20 [1, 0, 1, 0, 1, 1, 1, 1, 1, 1, 1, 1, 1, 0, 1, 1]) fun x h Q => N20_j1 x.1 x.2.1 x.2.2.1 x.2.2.2.1 x.2.2.2.2 h (fun h' => Q .normal (Sg.env [] ()) h') (fun o0 h' => Q .ret (Sg.env [(6, .c (.bool))] o0) h')
theorem N20_j1_ok : Sound Try.prog Try.f20.ntmps N20_j1_t (codeAt B20 [1, 0, 1, 0, 1, 1, 1, 1, 1, 1, 1, 1, 1, 0, 1, 1]) := by
  refine piece_sound (fun e => match e with | .normal => [] | .ret => [6] | _ => []) ?_
  intro x h Q hb
  refine den_sound hE hm _ (.two .leaf (.two .leaf (.ord [0, 1, 2, 3, 4, 5, 6]))) _ _ _ (⟨annOk_leaf, ⟨annOk_leaf, trivial⟩⟩) ?_
  refine cast ?_ hb
  kernel_rfl
def N20_j0 (x0_p : Option Addr) (x1_k : Option Addr) (x5_o : Option Addr) (x15_a : Option Addr) (x16_is : Bool) (h : Hp) (K_normal : Hp → Prop) (K_ret : Bool → Hp → Prop) : Prop :=
  nn x0_p fun a0 =>
  xP (cell h (a0.add 1)) fun p0 =>
  nn x5_o fun a1 =>
  xI .i64 (cell h (a1.add 1)) fun n0 =>
  alt (
    C43 p0 n0 h fun n1 n2 n3 n4 s0 b0 h0 =>
    nw h0 (.cells ⟨[.int .u32 0, .int .u32 0, .int .i64 0, .int .i64 0, .slice none 0 0]⟩ 39) fun b1 h1 =>
    both (xI .i64 (cell h1 (a1.add 1)) fun n5 => Only (.int .i64 n0) h1 (.int .i64 n5) h1) <|
    both (xP (cell h1 (a0.add 1)) fun p1 => Only (.pointer p0) h1 (.pointer p1) h1) <|
    st h1 (bk b1) (.int .u32 n1) fun h2 =>
    st h2 ((bk b1).add 1) (.int .u32 n2) fun h3 =>
    st h3 ((bk b1).add 2) (.int .i64 n3) fun h4 =>
    st h4 ((bk b1).add 3) (.int .i64 n4) fun h5 =>
    st h5 ((bk b1).add 4) (.slice s0.p s0.n s0.c) fun h6 =>
    N20_j1 x1_k x15_a x16_is (some (bk b1)) b0 h6
      (fun h7 =>
        K_normal h7)
      (fun b2 h8 =>
        K_ret b2 h8)) <|
  nw h (.cells ⟨[.int .u32 0, .int .u32 0, .int .i64 0, .int .i64 0, .slice none 0 0]⟩ 39) fun b3 h9 =>
  both (xI .i64 (cell h9 (a1.add 1)) fun n6 => Only (.int .i64 n0) h9 (.int .i64 n6) h9) <|
  both (xP (cell h9 (a0.add 1)) fun p2 => Only (.pointer p0) h9 (.pointer p2) h9) <|
  C43 p0 n0 h9 fun n7 n8 n9 n10 s1 b4 h10 =>
  st h10 (bk b3) (.int .u32 n7) fun h11 =>
  st h11 ((bk b3).add 1) (.int .u32 n8) fun h12 =>
  st h12 ((bk b3).add 2) (.int .i64 n9) fun h13 =>
  st h13 ((bk b3).add 3) (.int .i64 n10) fun h14 =>
  st h14 ((bk b3).add 4) (.slice s1.p s1.n s1.c) fun h15 =>
  N20_j1 x1_k x15_a x16_is (some (bk b3)) b4 h15
    (fun h16 =>
      K_normal h16)
    (fun b5 h17 =>
      K_ret b5 h17)
noncomputable def N20_j0_t : Xf := pieceT [(0, .c (.ptr)), (1, .c (.ptr)), (5, .c (.ptr)), (15, .c (.ptr)), (16, .c (.bool))] (codeAt B20 [1, 0, 1, 0, 1, 1, 1, 1, 1, 1, 1, 1, 1, 0, 1]) fun x h Q => N20_j0 x.1 x.2.1 x.2.2.1 x.2.2.2.1 x.2.2.2.2 h (fun h' => Q .normal (Sg.env [] ()) h') (fun o0 h' => Q .ret (Sg.env [(6, .c (.bool))] o0) h')
theorem N20_j0_ok : Sound Try.prog Try.f20.ntmps N20_j0_t (codeAt B20 [1, 0, 1, 0, 1, 1, 1, 1, 1, 1, 1, 1, 1, 0, 1]) := by
  refine piece_sound (fun e => match e with | .normal => [] | .ret => [6] | _ => []) ?_
  intro x h Q hb
  refine den_sound hE hm _ (.two N20_r1_t (.xf N20_j1_t)) _ _ _ (⟨N20_r1_ok, N20_j1_ok⟩) ?_
  refine cast ?_ hb
  kernel_rfl
def N20 (x0 : Option Addr) (x1 : Option Addr) (x2_0 : Int) (x2_1 : Int) (x2_2 : Int) (x2_3 : Int) (x2_4 : Int) (x2_5 : Int) (x2_6 : Sl) (h : Hp) (K : Bool → Hp → Prop) : Prop :=
  nw h (.cells ⟨[.int .i64 x2_0, .int .i64 x2_1, .int .u32 x2_2, .int .u32 x2_3, .int .i64 x2_4, .int .i64 x2_5, .slice x2_6.p x2_6.n x2_6.c]⟩ 41) fun b0 h0 =>
  xI .i64 (cell h0 (bk b0)) fun n0 =>
  bif (n0 == 1) then
    nn x0 fun a0 =>
    xP (cell h0 a0) fun p0 =>
    xI .i64 (cell h0 ((bk b0).add 1)) fun n1 =>
    nn x0 fun a1 =>
    xP (cell h0 (a1.add 1)) fun p1 =>
    xI .i64 (cell h0 ((bk b0).add 1)) fun n2 =>
    C11 p0 n1 h0 fun n3 h1 =>
    both (xI .i64 (cell h1 ((bk b0).add 1)) fun n4 => Only (.int .i64 n2) h1 (.int .i64 n4) h1) <|
    both (xP (cell h1 (a1.add 1)) fun p2 => Only (.pointer p1) h1 (.pointer p2) h1) <|
    C35 p1 n2 h1 fun n5 h2 =>
    K (n3 == n5) h2
  else
    bif (n0 == 2) then
      nn x0 fun a2 =>
      xP (cell h0 a2) fun p3 =>
      nn x0 fun a3 =>
      xP (cell h0 (a3.add 2)) fun p4 =>
      C12 p3 p4 h0 fun n6 n7 h3 =>
      nn x0 fun a4 =>
      xP (cell h3 (a4.add 1)) fun p5 =>
      nn x0 fun a5 =>
      xP (cell h3 (a5.add 3)) fun p6 =>
      C36 p5 p6 h3 fun n8 n9 h4 =>
      bif (n6 == n8) then
        bif (n7 == n9) then
          nn x0 fun a6 =>
          xP (cell h4 (a6.add 2)) fun p7 =>
          nn x0 fun a7 =>
          xP (cell h4 (a7.add 3)) fun p8 =>
          C37 p7 h4 fun n10 h5 =>
          both (xP (cell h5 (a7.add 3)) fun p9 => Only (.pointer p8) h5 (.pointer p9) h5) <|
          C38 p8 h5 fun n11 h6 =>
          K (n10 == n11) h6
        else
          K false h4
      else
        K false h4
    else
      bif (n0 == 3) then
        nn x0 fun a8 =>
        xP (cell h0 a8) fun p10 =>
        xI .i64 (cell h0 ((bk b0).add 1)) fun n12 =>
        nn x0 fun a9 =>
        xP (cell h0 (a9.add 1)) fun p11 =>
        xI .i64 (cell h0 ((bk b0).add 1)) fun n13 =>
        C14 p10 n12 h0 fun b1 h7 =>
        both (xI .i64 (cell h7 ((bk b0).add 1)) fun n14 => Only (.int .i64 n13) h7 (.int .i64 n14) h7) <|
        both (xP (cell h7 (a9.add 1)) fun p12 => Only (.pointer p11) h7 (.pointer p12) h7) <|
        C39 p11 n13 h7 fun b2 h8 =>
        K (b1 == b2) h8
      else
        bif (n0 == 4) then
          xI .u32 (cell h0 ((bk b0).add 2)) fun n15 =>
          xI .u32 (cell h0 ((bk b0).add 3)) fun n16 =>
          xI .i64 (cell h0 ((bk b0).add 4)) fun n17 =>
          xI .i64 (cell h0 ((bk b0).add 5)) fun n18 =>
          xL (cell h0 ((bk b0).add 6)) fun s0 =>
          nw h0 (.cells ⟨[.int .u32 0, .int .u32 0, .int .i64 0, .int .i64 0, .slice none 0 0]⟩ 39) fun b3 h9 =>
          st h9 (bk b3) (.int .u32 n15) fun h10 =>
          st h10 ((bk b3).add 1) (.int .u32 n16) fun h11 =>
          st h11 ((bk b3).add 2) (.int .i64 n17) fun h12 =>
          st h12 ((bk b3).add 3) (.int .i64 n18) fun h13 =>
          st h13 ((bk b3).add 4) (.slice s0.p s0.n s0.c) fun h14 =>
          xL (cell h14 ((bk b0).add 6)) fun s1 =>
          C40 s1 h14 fun s2 h15 =>
          st h15 ((bk b3).add 4) (.slice s2.p s2.n s2.c) fun h16 =>
          nn x0 fun a10 =>
          xP (cell h16 a10) fun p13 =>
          xI .u32 (cell h16 (bk b3)) fun n19 =>
          xI .u32 (cell h16 ((bk b3).add 1)) fun n20 =>
          xI .i64 (cell h16 ((bk b3).add 2)) fun n21 =>
          xI .i64 (cell h16 ((bk b3).add 3)) fun n22 =>
          xL (cell h16 ((bk b3).add 4)) fun s3 =>
          C13 p13 n19 n20 n21 n22 s3 h16 fun n23 h17 =>
          nn x0 fun a11 =>
          xP (cell h17 (a11.add 1)) fun p14 =>
          xI .u32 (cell h17 ((bk b0).add 2)) fun n24 =>
          xI .u32 (cell h17 ((bk b0).add 3)) fun n25 =>
          xI .i64 (cell h17 ((bk b0).add 4)) fun n26 =>
          xI .i64 (cell h17 ((bk b0).add 5)) fun n27 =>
          xL (cell h17 ((bk b0).add 6)) fun s4 =>
          C41 p14 n24 n25 n26 n27 s4 h17 fun n28 h18 =>
          xL (cell h18 ((bk b3).add 4)) fun s5 =>
          xL (cell h18 ((bk b0).add 6)) fun s6 =>
          C42 s5 s6 h18 fun b4 h19 =>
          bif (n23 == n28) then
            K b4 h19
          else
            K false h19
        else
          bif (n0 == 5) then
            nn x0 fun a12 =>
            xP (cell h0 a12) fun p15 =>
            xI .i64 (cell h0 ((bk b0).add 1)) fun n29 =>
            alt (
              C15 p15 n29 h0 fun n30 n31 n32 n33 s7 b5 h20 =>
              nw h20 (.cells ⟨[.int .u32 0, .int .u32 0, .int .i64 0, .int .i64 0, .slice none 0 0]⟩ 39) fun b6 h21 =>
              both (xI .i64 (cell h21 ((bk b0).add 1)) fun n34 => Only (.int .i64 n29) h21 (.int .i64 n34) h21) <|
              both (xP (cell h21 a12) fun p16 => Only (.pointer p15) h21 (.pointer p16) h21) <|
              st h21 (bk b6) (.int .u32 n30) fun h22 =>
              st h22 ((bk b6).add 1) (.int .u32 n31) fun h23 =>
              st h23 ((bk b6).add 2) (.int .i64 n32) fun h24 =>
              st h24 ((bk b6).add 3) (.int .i64 n33) fun h25 =>
              st h25 ((bk b6).add 4) (.slice s7.p s7.n s7.c) fun h26 =>
              N20_j0 x0 x1 (some (bk b0)) (some (bk b6)) b5 h26
                (fun h27 =>
                  K true h27)
                (fun b7 h28 =>
                  K b7 h28)) <|
            nw h0 (.cells ⟨[.int .u32 0, .int .u32 0, .int .i64 0, .int .i64 0, .slice none 0 0]⟩ 39) fun b8 h29 =>
            both (xI .i64 (cell h29 ((bk b0).add 1)) fun n35 => Only (.int .i64 n29) h29 (.int .i64 n35) h29) <|
            both (xP (cell h29 a12) fun p17 => Only (.pointer p15) h29 (.pointer p17) h29) <|
            C15 p15 n29 h29 fun n36 n37 n38 n39 s8 b9 h30 =>
            st h30 (bk b8) (.int .u32 n36) fun h31 =>
            st h31 ((bk b8).add 1) (.int .u32 n37) fun h32 =>
            st h32 ((bk b8).add 2) (.int .i64 n38) fun h33 =>
            st h33 ((bk b8).add 3) (.int .i64 n39) fun h34 =>
            st h34 ((bk b8).add 4) (.slice s8.p s8.n s8.c) fun h35 =>
            N20_j0 x0 x1 (some (bk b0)) (some (bk b8)) b9 h35
              (fun h36 =>
                K true h36)
              (fun b10 h37 =>
                K b10 h37)
          else
            bif (n0 == 6) then
              nn x0 fun a13 =>
              xP (cell h0 a13) fun p18 =>
              C9 p18 h0 fun s9 h38 =>
              nn x0 fun a14 =>
              xP (cell h38 (a14.add 1)) fun p19 =>
              C46 p19 h38 fun s10 h39 =>
              nn x1 fun a15 =>
              xL (cell h39 (a15.add 1)) fun s11 =>
              nw h39 (.cells ⟨[.slice s9.p s9.n s9.c]⟩ 25) fun b11 h40 =>
              apK Try.prog 25 s11 (.slice (some (bk b11)) 1 1) h40 fun s12 h41 =>
              nn x1 fun a16 =>
              st h41 (a16.add 1) (.slice s12.p s12.n s12.c) fun h42 =>
              nn x1 fun a17 =>
              xL (cell h42 (a17.add 2)) fun s13 =>
              nw h42 (.cells ⟨[.slice s10.p s10.n s10.c]⟩ 25) fun b12 h43 =>
              apK Try.prog 25 s13 (.slice (some (bk b12)) 1 1) h43 fun s14 h44 =>
              nn x1 fun a18 =>
              st h44 (a18.add 2) (.slice s14.p s14.n s14.c) fun h45 =>
              C23 s9 s10 h45 fun b13 h46 =>
              K b13 h46
            else
              K true h0
theorem S20 {x0 : Option Addr} {x1 : Option Addr} {x2_0 : Int} {x2_1 : Int} {x2_2 : Int} {x2_3 : Int} {x2_4 : Int} {x2_5 : Int} {x2_6 : Sl} {h : Hp} {K : Bool → Hp → Prop} (hn : N20 x0 x1 x2_0 x2_1 x2_2 x2_3 x2_4 x2_5 x2_6 h K) : C20 x0 x1 x2_0 x2_1 x2_2 x2_3 x2_4 x2_5 x2_6 h K := by
  refine calls_of_D Try.func20 (c := B20) rfl (by kernel_rfl) ?_
  refine den_sound hE hm _ (.two .leaf (.two (.two .leaf (.one (.two .leaf (.two (.two (.ord [0, 1, 2, 3, 4, 5, 7, 8, 9, 10, 11, 12, 6, 13, 14, 15]) .leaf) (.two .leaf (.two (.two (.ord [0, 1, 2, 3, 4, 5, 6, 7, 8, 9, 10, 11, 12, 13]) (.two (.ord [0, 1, 2, 3, 4, 5, 6, 7, 8, 9, 10, 11, 12, 13]) (.two (.ord [0, 1, 2, 3, 4, 5, 6, 7, 8, 9, 10, 11, 12, 14, 15, 16, 17, 13, 18, 19, 20, 21]) .leaf))) (.two .leaf (.two (.two (.ord [0, 1, 2, 3, 4, 5, 7, 8, 9, 10, 11, 12, 6, 13, 14, 15]) .leaf) (.two .leaf (.two (.two .leaf (.two .leaf (.two (.ord [0, 1, 2, 3, 4, 5, 6]) (.two (.ord [0, 1, 2, 3, 4, 5, 6, 7]) .leaf)))) (.two .leaf (.two (.two N20_r0_t (.xf N20_j0_t)) .leaf)))))))))))) .leaf)) _ _ _ (⟨annOk_leaf, ⟨⟨annOk_leaf, ⟨annOk_leaf, ⟨⟨trivial, annOk_leaf⟩, ⟨annOk_leaf, ⟨⟨trivial, ⟨trivial, ⟨trivial, annOk_leaf⟩⟩⟩, ⟨annOk_leaf, ⟨⟨trivial, annOk_leaf⟩, ⟨annOk_leaf, ⟨⟨annOk_leaf, ⟨annOk_leaf, ⟨trivial, ⟨trivial, annOk_leaf⟩⟩⟩⟩, ⟨annOk_leaf, ⟨⟨N20_r0_ok, N20_j0_ok⟩, annOk_leaf⟩⟩⟩⟩⟩⟩⟩⟩⟩⟩⟩, annOk_leaf⟩⟩) ?_
  refine cast ?_ hn
  kernel_rfl
end Go.Proofs.Ytabihmedfopdcaa

/-
  Ports: the law's step: a call at both tables.
-/
set_option linter.unusedSimpArgs false
set_option linter.unusedVariables false
set_option maxRecDepth 20000
namespace Go.Proofs.Ytabihmedfopdcaa
open Go Go.Hw

/-- the bytes of all datagrams are few -/
def DOk (t : Tb) : Prop := ∀ p ∈ t.ps, ∀ d ∈ p.l, d.data.length ≤ 1048576
theorem DOk.upd {t : Tb} {n : Int} {f : PS → PS} (h : DOk t) (hf : ∀ p ∈ t.ps, p.n = n → ∀ d ∈ (f p).l, d.data.length ≤ 1048576) : DOk { t with ps := updP n f t.ps } := by
  intro p hp d hd
  obtain ⟨p0, hp0, rfl⟩ := List.mem_map.1 hp
  split at hd
  · rename_i e; exact hf p0 hp0 e d hd
  · exact h p0 hp0 d hd
theorem DOk.add {t : Tb} {n : Int} (h : DOk t) : DOk { t with ps := addP n t.ps } := by
  intro p hp d hd
  rcases addP_mem hp with rfl | hp
  · cases hd
  · exact h p hp d hd
theorem DOk.open' {t : Tb} {n : Int} (h : DOk t) : DOk (openT t n).2 := by
  unfold openT
  split
  · exact h
  · split
    · exact h
    · split
      · exact h
      · exact h.add
theorem DOk.close' {t : Tb} {n : Int} (h : DOk t) : DOk (closeT t n).2 := fun p hp => h p (List.mem_filter.1 hp).1
theorem DOk.put' {t : Tb} {d : Dg} (h : DOk t) (hd : d.data.length ≤ 1048576) : DOk (putT t d).2 := by
  unfold putT
  split
  · exact h
  · split
    · exact h.upd fun p hp _ x hx => h p hp x hx
    · refine h.upd fun p hp _ x hx => ?_
      rcases List.mem_append.1 hx with hx | hx
      · exact h p hp x hx
      · simp at hx; subst hx; exact hd
theorem DOk.take' {t : Tb} {n : Int} (h : DOk t) : DOk (takeT t n).2 := by
  unfold takeT
  split
  · exact h
  · split
    · exact h
    · exact h.upd fun p hp _ x hx => h p hp x (List.mem_of_mem_tail hx)
theorem takeT_mem {t : Tb} {n : Int} {d : Dg} (h : (takeT t n).1 = some d) : ∃ p ∈ t.ps, d ∈ p.l := by
  unfold takeT at h
  split at h
  · cases h
  · rename_i p hf
    split at h
    · cases h
    · rename_i d' r hl
      cases h
      exact ⟨p, (findP_some hf).1, by rw [hl]; exact List.mem_cons_self ..⟩

/-- what is taken, or the datagram of noughts -/
theorem p_take2 {L : List Asn} {b : Nat} {t : Tb} {n : Int} {h : Hp} {K : Int → Int → Int → Int → Sl → Bool → Hp → Prop} (hs : Sat (L ++ [portsA b t]) h) (hn : NodN t.ps)
    (hK : ∀ s h', Sat (L ++ [portsA b (takeT t n).2, datA (dgOf (takeT t n).1, s)]) h' → K (dgOf (takeT t n).1).a (dgOf (takeT t n).1).b (dgOf (takeT t n).1).c (dgOf (takeT t n).1).d s (takeT t n).1.isSome h') : C15 (some (bk b)) n h K := by
  refine p_take hs hn ?_ ?_
  · intro e h' hs'
    have := hK ⟨none, 0, 0⟩ h'
    rw [e] at this
    exact this (hs'.addNil 5 1)
  · intro d e s h' hs'
    have := hK s h'
    rw [e] at this
    exact this hs'
theorem c_RTake2 {L : List Asn} {R : Nat} {t : Tb} {n : Int} {M : Nat} {h : Hp} {K : Int → Int → Int → Int → Sl → Bool → Hp → Prop} (hs : Sat (L ++ [refP R t]) h) (ho : Ok M t)
    (hK : ∀ s h', Sat (L ++ [refP R (takeT t n).2, datB (dgOf (takeT t n).1, s)]) h' → K (dgOf (takeT t n).1).a (dgOf (takeT t n).1).b (dgOf (takeT t n).1).c (dgOf (takeT t n).1).d s (takeT t n).1.isSome h') : C43 (some (bk R)) n h K := by
  refine c_RTake hs ho ?_ ?_
  · intro e h' hs'
    have := hK ⟨none, 0, 0⟩ h'
    rw [e] at this
    refine this ?_
    exact hs'.addB (T := 5) (s := ⟨none, 0, 0⟩) (l := []) Ext.refl ⟨rfl, Nat.le_refl _, rfl⟩ (fun b hb => by cases hb)
  · intro d e s h' hs'
    have := hK s h'
    rw [e] at this
    exact this hs'

/-- lists that came out are lists of ports -/
def Good13 (e : E3) : Prop := ∃ ps : List PS, e.2.2 = sts ps ∧ ps.length ≤ 16
structure Kpt (E : List E3) (B : List Ent) : Prop where
  e : ∀ x ∈ E, Good13 x
  b : ∀ x ∈ B, x.2.length ≤ 1048576

theorem c_step {L : List Asn} {pb b R kd kr k kb M : Nat} {t : Tb} {l : List Int} {E : List E3} {EB : List Ent} {kind n : Int} {d : Dg} {s : Sl} {h : Hp} {K : Bool → Hp → Prop}
    (hs : Sat (L ++ [row pb 58 [.pointer (some (bk b)), .pointer (some (bk R)), .pointer (some (bk kd)), .pointer (some (bk kr))], portsA b t, refP R t, diceA 88 kd l, diceA 98 kr l, kept0 k [.pointer (some (bk kb))] E, star (E.map own3), star (E.map wer3), bookA kb EB]) h) (ho : Ok M t) (hdo : DOk t) (hM : M ≤ 1000000000000000000) (hu : U32s l) (hr : ∀ h', Sat L h' → RdB h' s d.data) (hd : d.data.length ≤ 1048576) (hE : E.length ≤ 1000000000) (hEB : EB.length ≤ 1000000000) (hg : Kpt E EB)
    (hK : ∀ h' t' l' E' EB', Sat (L ++ [row pb 58 [.pointer (some (bk b)), .pointer (some (bk R)), .pointer (some (bk kd)), .pointer (some (bk kr))], portsA b t', refP R t', diceA 88 kd l', diceA 98 kr l', kept0 k [.pointer (some (bk kb))] E', star (E'.map own3), star (E'.map wer3), bookA kb EB']) h' → Ok (M + 1) t' → DOk t' → U32s l' → E'.length ≤ E.length + 1 → EB'.length ≤ EB.length + 1 → Kpt E' EB' →
      (kind ≠ 1 → kind ≠ 2 → kind ≠ 3 → kind ≠ 4 → kind ≠ 5 → t' = t) → (kind = 5 → t' = (takeT t n).2) → K true h') :
    C20 (some (bk pb)) (some (bk k)) kind n d.a d.b d.c d.d s h K := by
  apply S20; unfold N20
  intro bo e0
  have hs1 := hs.new e0 (.cells ⟨[.int .i64 kind, .int .i64 n, .int .u32 d.a, .int .u32 d.b, .int .i64 d.c, .int .i64 d.d, .slice s.p s.n s.c]⟩ 41 (0, 0))
  revert hs1
  generalize upd h bo _ = h1
  intro hs1
  have hs1 : Sat (L ++ [row pb 58 [.pointer (some (bk b)), .pointer (some (bk R)), .pointer (some (bk kd)), .pointer (some (bk kr))], portsA b t, refP R t, diceA 88 kd l, diceA 98 kr l, kept0 k [.pointer (some (bk kb))] E, star (E.map own3), star (E.map wer3), bookA kb EB, row bo 41 [.int .i64 kind, .int .i64 n, .int .u32 d.a, .int .u32 d.b, .int .i64 d.c, .int .i64 d.d, s.v]]) h1 := hs1
  -- ends
  have fin : ∀ h' t' l', Sat (L ++ [row pb 58 [.pointer (some (bk b)), .pointer (some (bk R)), .pointer (some (bk kd)), .pointer (some (bk kr))], kept0 k [.pointer (some (bk kb))] E, star (E.map own3), star (E.map wer3), bookA kb EB, row bo 41 [.int .i64 kind, .int .i64 n, .int .u32 d.a, .int .u32 d.b, .int .i64 d.c, .int .i64 d.d, s.v], portsA b t', refP R t', diceA 88 kd l', diceA 98 kr l']) h' → Ok (M + 1) t' → DOk t' → U32s l' → (kind ≠ 1 → kind ≠ 2 → kind ≠ 3 → kind ≠ 4 → kind ≠ 5 → t' = t) → (kind = 5 → t' = (takeT t n).2) → K true h' := by
    intro h' t' l' hs' o1 o2 o3 o4 o5
    exact hK h' t' l' E EB (hs'.sel [0, 6, 7, 8, 9, 1, 2, 3, 4] (by decide) rfl) o1 o2 o3 (by omega) (by omega) hg o4 o5
  have ho1 := ho.mono (Nat.le_succ M)
  refine hs1.lI 9 rfl rfl ?_
  simp only [nn_some', add_bk]
  cases hq1 : (kind == 1) with
  | true =>
    have hk1 : kind = 1 := by simpa using hq1
    rw [cond_true]
    refine hs1.lP 0 rfl rfl ?_
    refine hs1.lI 9 rfl rfl ?_
    refine hs1.lP 0 rfl rfl ?_
    refine hs1.lI 9 rfl rfl ?_
    have g1 : Sat (L ++ ([row pb 58 [.pointer (some (bk b)), .pointer (some (bk R)), .pointer (some (bk kd)), .pointer (some (bk kr))], refP R t, diceA 88 kd l, diceA 98 kr l, kept0 k [.pointer (some (bk kb))] E, star (E.map own3), star (E.map wer3), bookA kb EB, row bo 41 [.int .i64 kind, .int .i64 n, .int .u32 d.a, .int .u32 d.b, .int .i64 d.c, .int .i64 d.d, s.v]] ++ [portsA b t])) h1 := hs1.sel [0, 2, 3, 4, 5, 6, 7, 8, 9, 1] (by decide) rfl
    refine p_open (Sat.csa g1) ho.nod ?_
    intro h2 hs2
    have hs2 : Sat (L ++ [row pb 58 [.pointer (some (bk b)), .pointer (some (bk R)), .pointer (some (bk kd)), .pointer (some (bk kr))], refP R t, diceA 88 kd l, diceA 98 kr l, kept0 k [.pointer (some (bk kb))] E, star (E.map own3), star (E.map wer3), bookA kb EB, row bo 41 [.int .i64 kind, .int .i64 n, .int .u32 d.a, .int .u32 d.b, .int .i64 d.c, .int .i64 d.d, s.v], portsA b (openT t n).2]) h2 := Sat.asc hs2
    refine ⟨hs2.lI 8 rfl rfl ⟨rfl, rfl⟩, ?_⟩
    refine ⟨hs2.lP 0 rfl rfl ⟨rfl, rfl⟩, ?_⟩
    have g2 : Sat (L ++ ([row pb 58 [.pointer (some (bk b)), .pointer (some (bk R)), .pointer (some (bk kd)), .pointer (some (bk kr))], diceA 88 kd l, diceA 98 kr l, kept0 k [.pointer (some (bk kb))] E, star (E.map own3), star (E.map wer3), bookA kb EB, row bo 41 [.int .i64 kind, .int .i64 n, .int .u32 d.a, .int .u32 d.b, .int .i64 d.c, .int .i64 d.d, s.v], portsA b (openT t n).2] ++ [refP R t])) h2 := hs2.sel [0, 2, 3, 4, 5, 6, 7, 8, 9, 1] (by decide) rfl
    refine c_ROpen (Sat.csa g2) ho ?_
    intro h3 hs3
    have hs3 : Sat (L ++ [row pb 58 [.pointer (some (bk b)), .pointer (some (bk R)), .pointer (some (bk kd)), .pointer (some (bk kr))], diceA 88 kd l, diceA 98 kr l, kept0 k [.pointer (some (bk kb))] E, star (E.map own3), star (E.map wer3), bookA kb EB, row bo 41 [.int .i64 kind, .int .i64 n, .int .u32 d.a, .int .u32 d.b, .int .i64 d.c, .int .i64 d.d, s.v], portsA b (openT t n).2, refP R (openT t n).2]) h3 := Sat.asc hs3
    rw [beq_self_eq_true]
    exact fin h3 _ l (hs3.sel [0, 3, 4, 5, 6, 7, 8, 9, 1, 2] (by decide) rfl) ho1.open' hdo.open' hu (fun e => absurd hk1 e) (fun e => by omega)
  | false =>
  rw [cond_false]
  have hk1 : kind ≠ 1 := by simpa using hq1
  cases hq2 : (kind == 2) with
  | true =>
    have hk2 : kind = 2 := by simpa using hq2
    rw [cond_true]
    refine hs1.lP 0 rfl rfl ?_
    refine hs1.lP 0 rfl rfl ?_
    have fin2 : ∀ h' t' l', Sat (L ++ [row pb 58 [.pointer (some (bk b)), .pointer (some (bk R)), .pointer (some (bk kd)), .pointer (some (bk kr))], kept0 k [.pointer (some (bk kb))] E, star (E.map own3), star (E.map wer3), bookA kb EB, row bo 41 [.int .i64 kind, .int .i64 n, .int .u32 d.a, .int .u32 d.b, .int .i64 d.c, .int .i64 d.d, s.v], portsA b t', refP R t', diceA 88 kd l', diceA 98 kr l']) h' → Ok (M + 1) t' → DOk t' → U32s l' → ∀ (n6 n7 : Int), bif (n6 == n6) then bif (n7 == n7) then xP (cell h' ⟨pb, 2, none⟩) fun p7 => xP (cell h' ⟨pb, 3, none⟩) fun p8 => C37 p7 h' fun n10 h5 => both (xP (cell h5 ⟨pb, 3, none⟩) fun p9 => Only (.pointer p8) h5 (.pointer p9) h5) <| C38 p8 h5 fun n11 h6 => K (n10 == n11) h6 else K false h' else K false h' := by
      intro h' t' l' hs' o1 o2 o3 n6 n7
      simp only [beq_self_eq_true, cond_true]
      refine hs'.lP 0 rfl rfl ?_
      refine hs'.lP 0 rfl rfl ?_
      have q1 : Sat (L ++ ([row pb 58 [.pointer (some (bk b)), .pointer (some (bk R)), .pointer (some (bk kd)), .pointer (some (bk kr))], kept0 k [.pointer (some (bk kb))] E, star (E.map own3), star (E.map wer3), bookA kb EB, row bo 41 [.int .i64 kind, .int .i64 n, .int .u32 d.a, .int .u32 d.b, .int .i64 d.c, .int .i64 d.d, s.v], portsA b t', refP R t', diceA 98 kr l'] ++ [diceA 88 kd l'])) h' := hs'.sel [0, 1, 2, 3, 4, 5, 6, 7, 9, 8] (by decide) rfl
      refine c_dleft (Sat.csa q1) ?_
      refine ⟨hs'.lP 0 rfl rfl ⟨rfl, rfl⟩, ?_⟩
      have q2 : Sat (L ++ ([row pb 58 [.pointer (some (bk b)), .pointer (some (bk R)), .pointer (some (bk kd)), .pointer (some (bk kr))], kept0 k [.pointer (some (bk kb))] E, star (E.map own3), star (E.map wer3), bookA kb EB, row bo 41 [.int .i64 kind, .int .i64 n, .int .u32 d.a, .int .u32 d.b, .int .i64 d.c, .int .i64 d.d, s.v], portsA b t', refP R t', diceA 88 kd l'] ++ [diceA 98 kr l'])) h' := hs'
      refine c_Dleft (Sat.csa q2) ?_
      rw [beq_self_eq_true]
      exact fin h' t' l' hs' o1 o2 o3 (fun _ e => absurd hk2 e) (fun e => by omega)
    have g1 : Sat (L ++ ([row pb 58 [.pointer (some (bk b)), .pointer (some (bk R)), .pointer (some (bk kd)), .pointer (some (bk kr))], refP R t, diceA 98 kr l, kept0 k [.pointer (some (bk kb))] E, star (E.map own3), star (E.map wer3), bookA kb EB, row bo 41 [.int .i64 kind, .int .i64 n, .int .u32 d.a, .int .u32 d.b, .int .i64 d.c, .int .i64 d.d, s.v]] ++ [portsA b t, diceA 88 kd l])) h1 := hs1.sel [0, 2, 4, 5, 6, 7, 8, 9, 1, 3] (by decide) rfl
    refine p_pick (Sat.csa g1) ho.nod hu ?_ ?_
    · intro hf
      refine hs1.lP 0 rfl rfl ?_
      refine hs1.lP 0 rfl rfl ?_
      have g2 : Sat (L ++ ([row pb 58 [.pointer (some (bk b)), .pointer (some (bk R)), .pointer (some (bk kd)), .pointer (some (bk kr))], portsA b t, diceA 88 kd l, kept0 k [.pointer (some (bk kb))] E, star (E.map own3), star (E.map wer3), bookA kb EB, row bo 41 [.int .i64 kind, .int .i64 n, .int .u32 d.a, .int .u32 d.b, .int .i64 d.c, .int .i64 d.d, s.v]] ++ [refP R t, diceA 98 kr l])) h1 := hs1.sel [0, 1, 3, 5, 6, 7, 8, 9, 2, 4] (by decide) rfl
      refine c_RPick (Sat.csa g2) ho hu (fun _ => ?_) (fun hn => absurd hf hn)
      exact fin2 h1 t l (hs1.sel [0, 5, 6, 7, 8, 9, 1, 2, 3, 4] (by decide) rfl) ho1 hdo hu 0 3
    · intro hf
      obtain ⟨y, hy⟩ := pick_exists ho.len (portD l)
      refine ⟨y, hy, ?_⟩
      intro h2 hs2
      have hs2 : Sat (L ++ [row pb 58 [.pointer (some (bk b)), .pointer (some (bk R)), .pointer (some (bk kd)), .pointer (some (bk kr))], refP R t, diceA 98 kr l, kept0 k [.pointer (some (bk kb))] E, star (E.map own3), star (E.map wer3), bookA kb EB, row bo 41 [.int .i64 kind, .int .i64 n, .int .u32 d.a, .int .u32 d.b, .int .i64 d.c, .int .i64 d.d, s.v], portsA b { t with ps := addP y t.ps }, diceA 88 kd l.tail]) h2 := Sat.asc hs2
      refine hs2.lP 0 rfl rfl ?_
      refine hs2.lP 0 rfl rfl ?_
      have g2 : Sat (L ++ ([row pb 58 [.pointer (some (bk b)), .pointer (some (bk R)), .pointer (some (bk kd)), .pointer (some (bk kr))], kept0 k [.pointer (some (bk kb))] E, star (E.map own3), star (E.map wer3), bookA kb EB, row bo 41 [.int .i64 kind, .int .i64 n, .int .u32 d.a, .int .u32 d.b, .int .i64 d.c, .int .i64 d.d, s.v], portsA b { t with ps := addP y t.ps }, diceA 88 kd l.tail] ++ [refP R t, diceA 98 kr l])) h2 := hs2.sel [0, 3, 4, 5, 6, 7, 8, 9, 1, 2] (by decide) rfl
      refine c_RPick (Sat.csa g2) ho hu (fun hn => absurd hn hf) (fun _ => ⟨y, hy, ?_⟩)
      intro h3 hs3
      have hs3 : Sat (L ++ [row pb 58 [.pointer (some (bk b)), .pointer (some (bk R)), .pointer (some (bk kd)), .pointer (some (bk kr))], kept0 k [.pointer (some (bk kb))] E, star (E.map own3), star (E.map wer3), bookA kb EB, row bo 41 [.int .i64 kind, .int .i64 n, .int .u32 d.a, .int .u32 d.b, .int .i64 d.c, .int .i64 d.d, s.v], portsA b { t with ps := addP y t.ps }, diceA 88 kd l.tail, refP R { t with ps := addP y t.ps }, diceA 98 kr l.tail]) h3 := Sat.asc hs3
      obtain ⟨y1, y2, y3⟩ := hy.free
      exact fin2 h3 _ _ (hs3.sel [0, 1, 2, 3, 4, 5, 6, 8, 7, 9] (by decide) rfl) (ho1.add (by omega) (by omega) y1 hf) hdo.add hu.tail y 0
  | false =>
  rw [cond_false]
  have hk2 : kind ≠ 2 := by simpa using hq2
  cases hq3 : (kind == 3) with
  | true =>
    have hk3 : kind = 3 := by simpa using hq3
    rw [cond_true]
    refine hs1.lP 0 rfl rfl ?_
    refine hs1.lI 9 rfl rfl ?_
    refine hs1.lP 0 rfl rfl ?_
    refine hs1.lI 9 rfl rfl ?_
    have g1 : Sat (L ++ ([row pb 58 [.pointer (some (bk b)), .pointer (some (bk R)), .pointer (some (bk kd)), .pointer (some (bk kr))], refP R t, diceA 88 kd l, diceA 98 kr l, kept0 k [.pointer (some (bk kb))] E, star (E.map own3), star (E.map wer3), bookA kb EB, row bo 41 [.int .i64 kind, .int .i64 n, .int .u32 d.a, .int .u32 d.b, .int .i64 d.c, .int .i64 d.d, s.v]] ++ [portsA b t])) h1 := hs1.sel [0, 2, 3, 4, 5, 6, 7, 8, 9, 1] (by decide) rfl
    refine p_close (Sat.csa g1) ho.nod ?_
    intro h2 hs2
    have hs2 : Sat (L ++ [row pb 58 [.pointer (some (bk b)), .pointer (some (bk R)), .pointer (some (bk kd)), .pointer (some (bk kr))], refP R t, diceA 88 kd l, diceA 98 kr l, kept0 k [.pointer (some (bk kb))] E, star (E.map own3), star (E.map wer3), bookA kb EB, row bo 41 [.int .i64 kind, .int .i64 n, .int .u32 d.a, .int .u32 d.b, .int .i64 d.c, .int .i64 d.d, s.v], portsA b (closeT t n).2]) h2 := Sat.asc hs2
    refine ⟨hs2.lI 8 rfl rfl ⟨rfl, rfl⟩, ?_⟩
    refine ⟨hs2.lP 0 rfl rfl ⟨rfl, rfl⟩, ?_⟩
    have g2 : Sat (L ++ ([row pb 58 [.pointer (some (bk b)), .pointer (some (bk R)), .pointer (some (bk kd)), .pointer (some (bk kr))], diceA 88 kd l, diceA 98 kr l, kept0 k [.pointer (some (bk kb))] E, star (E.map own3), star (E.map wer3), bookA kb EB, row bo 41 [.int .i64 kind, .int .i64 n, .int .u32 d.a, .int .u32 d.b, .int .i64 d.c, .int .i64 d.d, s.v], portsA b (closeT t n).2] ++ [refP R t])) h2 := hs2.sel [0, 2, 3, 4, 5, 6, 7, 8, 9, 1] (by decide) rfl
    refine c_RClose (Sat.csa g2) ho ?_
    intro h3 hs3
    have hs3 : Sat (L ++ [row pb 58 [.pointer (some (bk b)), .pointer (some (bk R)), .pointer (some (bk kd)), .pointer (some (bk kr))], diceA 88 kd l, diceA 98 kr l, kept0 k [.pointer (some (bk kb))] E, star (E.map own3), star (E.map wer3), bookA kb EB, row bo 41 [.int .i64 kind, .int .i64 n, .int .u32 d.a, .int .u32 d.b, .int .i64 d.c, .int .i64 d.d, s.v], portsA b (closeT t n).2, refP R (closeT t n).2]) h3 := Sat.asc hs3
    rw [beq_self_eq_true]
    exact fin h3 _ l (hs3.sel [0, 3, 4, 5, 6, 7, 8, 9, 1, 2] (by decide) rfl) ho1.close' hdo.close' hu (fun _ _ e => absurd hk3 e) (fun e => by omega)
  | false =>
  rw [cond_false]
  have hk3 : kind ≠ 3 := by simpa using hq3
  cases hq4 : (kind == 4) with
  | true =>
    have hk4 : kind = 4 := by simpa using hq4
    rw [cond_true]
    have hs := hs1
    refine hs.lI 9 rfl rfl ?_
    refine hs.lI 9 rfl rfl ?_
    refine hs.lI 9 rfl rfl ?_
    refine hs.lI 9 rfl rfl ?_
    refine hs.lL 9 rfl rfl ?_
    intro b3 e3
    have hs := hs.new e3 (.cells ⟨[.int .u32 0, .int .u32 0, .int .i64 0, .int .i64 0, .slice none 0 0]⟩ 39 (0, 0))
    revert hs
    generalize upd h1 b3 _ = h2
    intro hs
    simp only [add_bk]
    refine hs.st 10 rfl (by simp) rfl ?_
    intro _ hs
    refine hs.st 10 rfl (by simp) rfl ?_
    intro _ hs
    refine hs.st 10 rfl (by simp) rfl ?_
    intro _ hs
    refine hs.st 10 rfl (by simp) rfl ?_
    intro _ hs
    refine hs.st 10 rfl (by simp) rfl ?_
    intro h7 hs
    have hs : Sat (L ++ [row pb 58 [.pointer (some (bk b)), .pointer (some (bk R)), .pointer (some (bk kd)), .pointer (some (bk kr))], portsA b t, refP R t, diceA 88 kd l, diceA 98 kr l, kept0 k [.pointer (some (bk kb))] E, star (E.map own3), star (E.map wer3), bookA kb EB, row bo 41 [.int .i64 kind, .int .i64 n, .int .u32 d.a, .int .u32 d.b, .int .i64 d.c, .int .i64 d.d, s.v], row b3 39 [.int .u32 d.a, .int .u32 d.b, .int .i64 d.c, .int .i64 d.d, s.v]]) h7 := hs
    refine hs.lL 9 rfl rfl ?_
    refine c_lent (s := ⟨s.p, s.n, s.c⟩) (hr _ hs.left) (by omega) ?_
    intro h8 p hn
    have hs := hs.addNew hn
    have hs : Sat (L ++ [row pb 58 [.pointer (some (bk b)), .pointer (some (bk R)), .pointer (some (bk kd)), .pointer (some (bk kr))], portsA b t, refP R t, diceA 88 kd l, diceA 98 kr l, kept0 k [.pointer (some (bk kb))] E, star (E.map own3), star (E.map wer3), bookA kb EB, row bo 41 [.int .i64 kind, .int .i64 n, .int .u32 d.a, .int .u32 d.b, .int .i64 d.c, .int .i64 d.d, s.v], row b3 39 [.int .u32 d.a, .int .u32 d.b, .int .i64 d.c, .int .i64 d.d, s.v], Hw.own 5 1 ⟨p, d.data.length + 2, d.data.length + 2⟩ (bc (d.data ++ [71, 72]))]) h8 := hs
    refine hs.st 10 rfl (by simp) rfl ?_
    intro h9 hs
    have hs : Sat (L ++ [row pb 58 [.pointer (some (bk b)), .pointer (some (bk R)), .pointer (some (bk kd)), .pointer (some (bk kr))], portsA b t, refP R t, diceA 88 kd l, diceA 98 kr l, kept0 k [.pointer (some (bk kb))] E, star (E.map own3), star (E.map wer3), bookA kb EB, row bo 41 [.int .i64 kind, .int .i64 n, .int .u32 d.a, .int .u32 d.b, .int .i64 d.c, .int .i64 d.d, s.v], row b3 39 [.int .u32 d.a, .int .u32 d.b, .int .i64 d.c, .int .i64 d.d, .slice p d.data.length (d.data.length + 2)], Hw.own 5 1 ⟨p, d.data.length + 2, d.data.length + 2⟩ (bc (d.data ++ [71, 72]))]) h9 := hs
    refine hs.lP 0 rfl rfl ?_
    refine hs.lI 10 rfl rfl ?_
    refine hs.lI 10 rfl rfl ?_
    refine hs.lI 10 rfl rfl ?_
    refine hs.lI 10 rfl rfl ?_
    refine hs.lL 10 rfl rfl ?_
    have rdl : ∀ hh, Own hh 5 1 ⟨p, d.data.length + 2, d.data.length + 2⟩ (bc (d.data ++ [71, 72])) → RdB hh ⟨p, d.data.length, d.data.length + 2⟩ d.data := by
      intro hh ho'
      refine ⟨rfl, by simp, ?_⟩
      have := ho'.rdb.r.take d.data.length
      rw [← bc_take] at this
      simpa using this
    have g1 : Sat (L ++ ([row pb 58 [.pointer (some (bk b)), .pointer (some (bk R)), .pointer (some (bk kd)), .pointer (some (bk kr))], refP R t, diceA 88 kd l, diceA 98 kr l, kept0 k [.pointer (some (bk kb))] E, star (E.map own3), star (E.map wer3), bookA kb EB, row bo 41 [.int .i64 kind, .int .i64 n, .int .u32 d.a, .int .u32 d.b, .int .i64 d.c, .int .i64 d.d, s.v], row b3 39 [.int .u32 d.a, .int .u32 d.b, .int .i64 d.c, .int .i64 d.d, .slice p d.data.length (d.data.length + 2)], Hw.own 5 1 ⟨p, d.data.length + 2, d.data.length + 2⟩ (bc (d.data ++ [71, 72]))] ++ [portsA b t])) h9 := hs.sel [0, 2, 3, 4, 5, 6, 7, 8, 9, 10, 11, 1] (by decide) rfl
    refine p_put (d := d) (s := ⟨p, d.data.length, d.data.length + 2⟩) (Sat.csa g1) ho hM (rdl _ (hs.own 11 rfl)) (by omega) ?_
    intro h10 hs
    have hs : Sat (L ++ [row pb 58 [.pointer (some (bk b)), .pointer (some (bk R)), .pointer (some (bk kd)), .pointer (some (bk kr))], refP R t, diceA 88 kd l, diceA 98 kr l, kept0 k [.pointer (some (bk kb))] E, star (E.map own3), star (E.map wer3), bookA kb EB, row bo 41 [.int .i64 kind, .int .i64 n, .int .u32 d.a, .int .u32 d.b, .int .i64 d.c, .int .i64 d.d, s.v], row b3 39 [.int .u32 d.a, .int .u32 d.b, .int .i64 d.c, .int .i64 d.d, .slice p d.data.length (d.data.length + 2)], Hw.own 5 1 ⟨p, d.data.length + 2, d.data.length + 2⟩ (bc (d.data ++ [71, 72])), portsA b (putT t d).2]) h10 := Sat.asc hs
    refine hs.lP 0 rfl rfl ?_
    refine hs.lI 8 rfl rfl ?_
    refine hs.lI 8 rfl rfl ?_
    refine hs.lI 8 rfl rfl ?_
    refine hs.lI 8 rfl rfl ?_
    refine hs.lL 8 rfl rfl ?_
    have g2 : Sat (L ++ ([row pb 58 [.pointer (some (bk b)), .pointer (some (bk R)), .pointer (some (bk kd)), .pointer (some (bk kr))], diceA 88 kd l, diceA 98 kr l, kept0 k [.pointer (some (bk kb))] E, star (E.map own3), star (E.map wer3), bookA kb EB, row bo 41 [.int .i64 kind, .int .i64 n, .int .u32 d.a, .int .u32 d.b, .int .i64 d.c, .int .i64 d.d, s.v], row b3 39 [.int .u32 d.a, .int .u32 d.b, .int .i64 d.c, .int .i64 d.d, .slice p d.data.length (d.data.length + 2)], Hw.own 5 1 ⟨p, d.data.length + 2, d.data.length + 2⟩ (bc (d.data ++ [71, 72])), portsA b (putT t d).2] ++ [refP R t])) h10 := hs.sel [0, 2, 3, 4, 5, 6, 7, 8, 9, 10, 11, 1] (by decide) rfl
    refine c_RPut (d := d) (s := ⟨s.p, s.n, s.c⟩) (Sat.csa g2) ho hM (hr _ hs.left) ?_
    intro h11 hs
    have hs : Sat (L ++ [row pb 58 [.pointer (some (bk b)), .pointer (some (bk R)), .pointer (some (bk kd)), .pointer (some (bk kr))], diceA 88 kd l, diceA 98 kr l, kept0 k [.pointer (some (bk kb))] E, star (E.map own3), star (E.map wer3), bookA kb EB, row bo 41 [.int .i64 kind, .int .i64 n, .int .u32 d.a, .int .u32 d.b, .int .i64 d.c, .int .i64 d.d, s.v], row b3 39 [.int .u32 d.a, .int .u32 d.b, .int .i64 d.c, .int .i64 d.d, .slice p d.data.length (d.data.length + 2)], Hw.own 5 1 ⟨p, d.data.length + 2, d.data.length + 2⟩ (bc (d.data ++ [71, 72])), portsA b (putT t d).2, refP R (putT t d).2]) h11 := Sat.asc hs
    refine hs.lL 8 rfl rfl ?_
    refine hs.lL 7 rfl rfl ?_
    refine c_asLent (s := ⟨s.p, s.n, s.c⟩) hs 9 rfl (hr _ hs.left) (by omega) ?_
    intro h12 vs hs
    simp only [beq_self_eq_true, cond_true]
    exact fin h12 _ l (hs.sel [0, 3, 4, 5, 6, 7, 10, 11, 1, 2] (by decide) rfl) ho.put' (hdo.put' hd) hu (fun _ _ _ e => absurd hk4 e) (fun e => by omega)
  | false =>
  rw [cond_false]
  have hk4 : kind ≠ 4 := by simpa using hq4
  cases hq5 : (kind == 5) with
  | true =>
    have hk5 : kind = 5 := by simpa using hq5
    rw [cond_true]
    refine hs1.lP 0 rfl rfl ?_
    refine hs1.lI 9 rfl rfl ?_
    have hdt : (dgOf (takeT t n).1).data.length ≤ 1048576 := by
      cases hq : (takeT t n).1 with
      | none => simp [dgOf]
      | some x => obtain ⟨p, hp, hx⟩ := takeT_mem hq; exact hdo p hp x hx
    generalize hD : dgOf (takeT t n).1 = D at hdt
    -- the end: both taken
    have j1 : ∀ (ba bb : Nat) (s1 s2 : Sl) (hh : Hp), Sat (L ++ [row pb 58 [.pointer (some (bk b)), .pointer (some (bk R)), .pointer (some (bk kd)), .pointer (some (bk kr))], kept0 k [.pointer (some (bk kb))] E, star (E.map own3), star (E.map wer3), bookA kb EB, row bo 41 [.int .i64 kind, .int .i64 n, .int .u32 d.a, .int .u32 d.b, .int .i64 d.c, .int .i64 d.d, s.v], portsA b (takeT t n).2, refP R (takeT t n).2, diceA 88 kd l, diceA 98 kr l, datA (D, s1), datB (D, s2), row ba 39 (dgc (D, s1)), row bb 39 (dgc (D, s2))]) hh →
        N20_j1 (some (bk k)) (some (bk ba)) (takeT t n).1.isSome (some (bk bb)) (takeT t n).1.isSome hh (fun h27 => K true h27) (fun b7 h28 => K b7 h28) := by
      intro ba bb s1 s2 hh hs
      unfold N20_j1
      simp only [nn_some', add_bk]
      refine hs.lI 12 rfl rfl ?_
      refine hs.lI 12 rfl rfl ?_
      refine hs.lI 12 rfl rfl ?_
      refine hs.lI 12 rfl rfl ?_
      refine hs.lL 12 rfl rfl ?_
      refine hs.lI 13 rfl rfl ?_
      refine hs.lI 13 rfl rfl ?_
      refine hs.lI 13 rfl rfl ?_
      refine hs.lI 13 rfl rfl ?_
      refine hs.lL 13 rfl rfl ?_
      refine p_same (d := D) (s1 := ⟨s1.p, s1.n, s1.c⟩) (s2 := ⟨s2.p, s2.n, s2.c⟩) (hs.own 10 rfl).rdb (hs.byt 11 rfl).rdb ?_
      intro h2 x2
      have hs := hs.ext x2
      have e1 : ((takeT t n).1.isSome == (takeT t n).1.isSome) = true := by simp
      simp only [e1, Bool.not_true, cond_false]
      have g0 : Sat (L ++ ([row pb 58 [.pointer (some (bk b)), .pointer (some (bk R)), .pointer (some (bk kd)), .pointer (some (bk kr))], star (E.map own3), star (E.map wer3), row bo 41 [.int .i64 kind, .int .i64 n, .int .u32 d.a, .int .u32 d.b, .int .i64 d.c, .int .i64 d.d, s.v], portsA b (takeT t n).2, refP R (takeT t n).2, diceA 88 kd l, diceA 98 kr l, row ba 39 (dgc (D, s1)), row bb 39 (dgc (D, s2)), bookA kb EB, datA (D, s1)] ++ [kept0 k [.pointer (some (bk kb))] E])) h2 := hs.sel [0, 2, 3, 5, 6, 7, 8, 9, 12, 13, 4, 10, 1] (by decide) rfl
      obtain ⟨kp, kq, g1⟩ := kept0_open (Sat.csa g0)
      have g1 : Sat (L ++ [row pb 58 [.pointer (some (bk b)), .pointer (some (bk R)), .pointer (some (bk kd)), .pointer (some (bk kr))], star (E.map own3), star (E.map wer3), row bo 41 [.int .i64 kind, .int .i64 n, .int .u32 d.a, .int .u32 d.b, .int .i64 d.c, .int .i64 d.d, s.v], portsA b (takeT t n).2, refP R (takeT t n).2, diceA 88 kd l, diceA 98 kr l, row ba 39 (dgc (D, s1)), row bb 39 (dgc (D, s2)), bookA kb EB, datA (D, s1), row k 66 ([.pointer (some (bk kb))] ++ [kp.v, kq.v]), Hw.own 25 1 kp (E.map fun e => e.1.v), Hw.own 25 1 kq (E.map fun e => e.2.1.v)]) h2 := Sat.asc g1
      refine g1.lP 12 rfl rfl ?_
      refine hs.lL 12 rfl rfl ?_
      have g2 : Sat (L ++ ([row pb 58 [.pointer (some (bk b)), .pointer (some (bk R)), .pointer (some (bk kd)), .pointer (some (bk kr))], star (E.map own3), star (E.map wer3), row bo 41 [.int .i64 kind, .int .i64 n, .int .u32 d.a, .int .u32 d.b, .int .i64 d.c, .int .i64 d.d, s.v], portsA b (takeT t n).2, refP R (takeT t n).2, diceA 88 kd l, diceA 98 kr l, kept0 k [.pointer (some (bk kb))] E] ++ [bookA kb EB, Hw.own 5 1 s1 (bc D.data)])) h2 := hs.sel [0, 2, 3, 5, 6, 7, 8, 9, 1, 4, 10] (by decide) rfl
      refine c_take (Sat.csa g2) (by omega) ?_
      intro h3 hs3
      have hs3 : Sat (L ++ [row pb 58 [.pointer (some (bk b)), .pointer (some (bk R)), .pointer (some (bk kd)), .pointer (some (bk kr))], star (E.map own3), star (E.map wer3), row bo 41 [.int .i64 kind, .int .i64 n, .int .u32 d.a, .int .u32 d.b, .int .i64 d.c, .int .i64 d.d, s.v], portsA b (takeT t n).2, refP R (takeT t n).2, diceA 88 kd l, diceA 98 kr l, kept0 k [.pointer (some (bk kb))] E, bookA kb (EB ++ [(s1, D.data)])]) h3 := Sat.asc hs3
      refine hK h3 _ l E (EB ++ [(s1, D.data)]) (hs3.sel [0, 4, 5, 6, 7, 8, 1, 2, 9] (by decide) rfl) ho1.take' hdo.take' hu (by omega) (by simp) ⟨hg.e, ?_⟩ (fun _ _ _ _ e => absurd hk5 e) (fun _ => rfl)
      intro x hx
      rcases List.mem_append.1 hx with hx | hx
      · exact hg.b x hx
      · simp at hx; subst hx; exact hdt
    have j0 : ∀ (ba : Nat) (s1 : Sl) (hh : Hp), Sat (L ++ [row pb 58 [.pointer (some (bk b)), .pointer (some (bk R)), .pointer (some (bk kd)), .pointer (some (bk kr))], kept0 k [.pointer (some (bk kb))] E, star (E.map own3), star (E.map wer3), bookA kb EB, row bo 41 [.int .i64 kind, .int .i64 n, .int .u32 d.a, .int .u32 d.b, .int .i64 d.c, .int .i64 d.d, s.v], portsA b (takeT t n).2, diceA 88 kd l, diceA 98 kr l, datA (D, s1), row ba 39 (dgc (D, s1)), refP R t]) hh →
        N20_j0 (some (bk pb)) (some (bk k)) (some (bk bo)) (some (bk ba)) (takeT t n).1.isSome hh (fun h27 => K true h27) (fun b7 h28 => K b7 h28) := by
      intro ba s1 hh hs
      unfold N20_j0
      simp only [nn_some', add_bk]
      refine hs.lP 0 rfl rfl ?_
      refine hs.lI 5 rfl rfl ?_
      constructor
      · refine c_RTake2 (Sat.csa (A := [row pb 58 [.pointer (some (bk b)), .pointer (some (bk R)), .pointer (some (bk kd)), .pointer (some (bk kr))], kept0 k [.pointer (some (bk kb))] E, star (E.map own3), star (E.map wer3), bookA kb EB, row bo 41 [.int .i64 kind, .int .i64 n, .int .u32 d.a, .int .u32 d.b, .int .i64 d.c, .int .i64 d.d, s.v], portsA b (takeT t n).2, diceA 88 kd l, diceA 98 kr l, datA (D, s1), row ba 39 (dgc (D, s1))]) hs) ho ?_
        intro s2 h2 hs2
        rw [hD] at hs2 ⊢
        intro bb e2
        have hs := (Sat.asc hs2).new e2 (.cells ⟨[.int .u32 0, .int .u32 0, .int .i64 0, .int .i64 0, .slice none 0 0]⟩ 39 (0, 0))
        revert hs
        generalize upd h2 bb _ = h3
        intro hs
        have hs : Sat (L ++ [row pb 58 [.pointer (some (bk b)), .pointer (some (bk R)), .pointer (some (bk kd)), .pointer (some (bk kr))], kept0 k [.pointer (some (bk kb))] E, star (E.map own3), star (E.map wer3), bookA kb EB, row bo 41 [.int .i64 kind, .int .i64 n, .int .u32 d.a, .int .u32 d.b, .int .i64 d.c, .int .i64 d.d, s.v], portsA b (takeT t n).2, diceA 88 kd l, diceA 98 kr l, datA (D, s1), row ba 39 (dgc (D, s1)), refP R (takeT t n).2, datB (D, s2), row bb 39 [.int .u32 0, .int .u32 0, .int .i64 0, .int .i64 0, .slice none 0 0]]) h3 := hs
        refine ⟨hs.lI 5 rfl rfl ⟨rfl, rfl⟩, ?_⟩
        refine ⟨hs.lP 0 rfl rfl ⟨rfl, rfl⟩, ?_⟩
        refine hs.st 13 rfl (by simp) rfl ?_
        intro _ hs
        refine hs.st 13 rfl (by simp) rfl ?_
        intro _ hs
        refine hs.st 13 rfl (by simp) rfl ?_
        intro _ hs
        refine hs.st 13 rfl (by simp) rfl ?_
        intro _ hs
        refine hs.st 13 rfl (by simp) rfl ?_
        intro h8 hs
        have hs : Sat (L ++ [row pb 58 [.pointer (some (bk b)), .pointer (some (bk R)), .pointer (some (bk kd)), .pointer (some (bk kr))], kept0 k [.pointer (some (bk kb))] E, star (E.map own3), star (E.map wer3), bookA kb EB, row bo 41 [.int .i64 kind, .int .i64 n, .int .u32 d.a, .int .u32 d.b, .int .i64 d.c, .int .i64 d.d, s.v], portsA b (takeT t n).2, diceA 88 kd l, diceA 98 kr l, datA (D, s1), row ba 39 (dgc (D, s1)), refP R (takeT t n).2, datB (D, s2), row bb 39 (dgc (D, s2))]) h8 := hs
        exact j1 ba bb s1 s2 h8 (hs.sel [0, 1, 2, 3, 4, 5, 6, 11, 7, 8, 9, 12, 10, 13] (by decide) rfl)
      · intro bb e2
        have hs := hs.new e2 (.cells ⟨[.int .u32 0, .int .u32 0, .int .i64 0, .int .i64 0, .slice none 0 0]⟩ 39 (0, 0))
        revert hs
        generalize upd hh bb _ = h3
        intro hs
        have hs : Sat (L ++ [row pb 58 [.pointer (some (bk b)), .pointer (some (bk R)), .pointer (some (bk kd)), .pointer (some (bk kr))], kept0 k [.pointer (some (bk kb))] E, star (E.map own3), star (E.map wer3), bookA kb EB, row bo 41 [.int .i64 kind, .int .i64 n, .int .u32 d.a, .int .u32 d.b, .int .i64 d.c, .int .i64 d.d, s.v], portsA b (takeT t n).2, diceA 88 kd l, diceA 98 kr l, datA (D, s1), row ba 39 (dgc (D, s1)), refP R t, row bb 39 [.int .u32 0, .int .u32 0, .int .i64 0, .int .i64 0, .slice none 0 0]]) h3 := hs
        refine ⟨hs.lI 5 rfl rfl ⟨rfl, rfl⟩, ?_⟩
        refine ⟨hs.lP 0 rfl rfl ⟨rfl, rfl⟩, ?_⟩
        have g1 : Sat (L ++ ([row pb 58 [.pointer (some (bk b)), .pointer (some (bk R)), .pointer (some (bk kd)), .pointer (some (bk kr))], kept0 k [.pointer (some (bk kb))] E, star (E.map own3), star (E.map wer3), bookA kb EB, row bo 41 [.int .i64 kind, .int .i64 n, .int .u32 d.a, .int .u32 d.b, .int .i64 d.c, .int .i64 d.d, s.v], portsA b (takeT t n).2, diceA 88 kd l, diceA 98 kr l, datA (D, s1), row ba 39 (dgc (D, s1)), row bb 39 [.int .u32 0, .int .u32 0, .int .i64 0, .int .i64 0, .slice none 0 0]] ++ [refP R t])) h3 := hs.sel [0, 1, 2, 3, 4, 5, 6, 7, 8, 9, 10, 12, 11] (by decide) rfl
        refine c_RTake2 (Sat.csa g1) ho ?_
        intro s2 h2 hs2
        rw [hD] at hs2 ⊢
        have hs : Sat (L ++ [row pb 58 [.pointer (some (bk b)), .pointer (some (bk R)), .pointer (some (bk kd)), .pointer (some (bk kr))], kept0 k [.pointer (some (bk kb))] E, star (E.map own3), star (E.map wer3), bookA kb EB, row bo 41 [.int .i64 kind, .int .i64 n, .int .u32 d.a, .int .u32 d.b, .int .i64 d.c, .int .i64 d.d, s.v], portsA b (takeT t n).2, diceA 88 kd l, diceA 98 kr l, datA (D, s1), row ba 39 (dgc (D, s1)), row bb 39 [.int .u32 0, .int .u32 0, .int .i64 0, .int .i64 0, .slice none 0 0], refP R (takeT t n).2, datB (D, s2)]) h2 := Sat.asc hs2
        refine hs.st 11 rfl (by simp) rfl ?_
        intro _ hs
        refine hs.st 11 rfl (by simp) rfl ?_
        intro _ hs
        refine hs.st 11 rfl (by simp) rfl ?_
        intro _ hs
        refine hs.st 11 rfl (by simp) rfl ?_
        intro _ hs
        refine hs.st 11 rfl (by simp) rfl ?_
        intro h8 hs
        have hs : Sat (L ++ [row pb 58 [.pointer (some (bk b)), .pointer (some (bk R)), .pointer (some (bk kd)), .pointer (some (bk kr))], kept0 k [.pointer (some (bk kb))] E, star (E.map own3), star (E.map wer3), bookA kb EB, row bo 41 [.int .i64 kind, .int .i64 n, .int .u32 d.a, .int .u32 d.b, .int .i64 d.c, .int .i64 d.d, s.v], portsA b (takeT t n).2, diceA 88 kd l, diceA 98 kr l, datA (D, s1), row ba 39 (dgc (D, s1)), row bb 39 (dgc (D, s2)), refP R (takeT t n).2, datB (D, s2)]) h8 := hs
        exact j1 ba bb s1 s2 h8 (hs.sel [0, 1, 2, 3, 4, 5, 6, 12, 7, 8, 9, 13, 10, 11] (by decide) rfl)
    constructor
    · have g1 : Sat (L ++ ([row pb 58 [.pointer (some (bk b)), .pointer (some (bk R)), .pointer (some (bk kd)), .pointer (some (bk kr))], refP R t, diceA 88 kd l, diceA 98 kr l, kept0 k [.pointer (some (bk kb))] E, star (E.map own3), star (E.map wer3), bookA kb EB, row bo 41 [.int .i64 kind, .int .i64 n, .int .u32 d.a, .int .u32 d.b, .int .i64 d.c, .int .i64 d.d, s.v]] ++ [portsA b t])) h1 := hs1.sel [0, 2, 3, 4, 5, 6, 7, 8, 9, 1] (by decide) rfl
      refine p_take2 (Sat.csa g1) ho.nod ?_
      intro s1 h2 hs2
      rw [hD] at hs2 ⊢
      intro ba e2
      have hs := (Sat.asc hs2).new e2 (.cells ⟨[.int .u32 0, .int .u32 0, .int .i64 0, .int .i64 0, .slice none 0 0]⟩ 39 (0, 0))
      revert hs
      generalize upd h2 ba _ = h3
      intro hs
      have hs : Sat (L ++ [row pb 58 [.pointer (some (bk b)), .pointer (some (bk R)), .pointer (some (bk kd)), .pointer (some (bk kr))], refP R t, diceA 88 kd l, diceA 98 kr l, kept0 k [.pointer (some (bk kb))] E, star (E.map own3), star (E.map wer3), bookA kb EB, row bo 41 [.int .i64 kind, .int .i64 n, .int .u32 d.a, .int .u32 d.b, .int .i64 d.c, .int .i64 d.d, s.v], portsA b (takeT t n).2, datA (D, s1), row ba 39 [.int .u32 0, .int .u32 0, .int .i64 0, .int .i64 0, .slice none 0 0]]) h3 := hs
      refine ⟨hs.lI 8 rfl rfl ⟨rfl, rfl⟩, ?_⟩
      refine ⟨hs.lP 0 rfl rfl ⟨rfl, rfl⟩, ?_⟩
      refine hs.st 11 rfl (by simp) rfl ?_
      intro _ hs
      refine hs.st 11 rfl (by simp) rfl ?_
      intro _ hs
      refine hs.st 11 rfl (by simp) rfl ?_
      intro _ hs
      refine hs.st 11 rfl (by simp) rfl ?_
      intro _ hs
      refine hs.st 11 rfl (by simp) rfl ?_
      intro h8 hs
      have hs : Sat (L ++ [row pb 58 [.pointer (some (bk b)), .pointer (some (bk R)), .pointer (some (bk kd)), .pointer (some (bk kr))], refP R t, diceA 88 kd l, diceA 98 kr l, kept0 k [.pointer (some (bk kb))] E, star (E.map own3), star (E.map wer3), bookA kb EB, row bo 41 [.int .i64 kind, .int .i64 n, .int .u32 d.a, .int .u32 d.b, .int .i64 d.c, .int .i64 d.d, s.v], portsA b (takeT t n).2, datA (D, s1), row ba 39 (dgc (D, s1))]) h8 := hs
      exact j0 ba s1 h8 (hs.sel [0, 4, 5, 6, 7, 8, 9, 2, 3, 10, 11, 1] (by decide) rfl)
    · intro ba e2
      have hs := hs1.new e2 (.cells ⟨[.int .u32 0, .int .u32 0, .int .i64 0, .int .i64 0, .slice none 0 0]⟩ 39 (0, 0))
      revert hs
      generalize upd h1 ba _ = h3
      intro hs
      have hs : Sat (L ++ [row pb 58 [.pointer (some (bk b)), .pointer (some (bk R)), .pointer (some (bk kd)), .pointer (some (bk kr))], portsA b t, refP R t, diceA 88 kd l, diceA 98 kr l, kept0 k [.pointer (some (bk kb))] E, star (E.map own3), star (E.map wer3), bookA kb EB, row bo 41 [.int .i64 kind, .int .i64 n, .int .u32 d.a, .int .u32 d.b, .int .i64 d.c, .int .i64 d.d, s.v], row ba 39 [.int .u32 0, .int .u32 0, .int .i64 0, .int .i64 0, .slice none 0 0]]) h3 := hs
      refine ⟨hs.lI 9 rfl rfl ⟨rfl, rfl⟩, ?_⟩
      refine ⟨hs.lP 0 rfl rfl ⟨rfl, rfl⟩, ?_⟩
      have g1 : Sat (L ++ ([row pb 58 [.pointer (some (bk b)), .pointer (some (bk R)), .pointer (some (bk kd)), .pointer (some (bk kr))], refP R t, diceA 88 kd l, diceA 98 kr l, kept0 k [.pointer (some (bk kb))] E, star (E.map own3), star (E.map wer3), bookA kb EB, row bo 41 [.int .i64 kind, .int .i64 n, .int .u32 d.a, .int .u32 d.b, .int .i64 d.c, .int .i64 d.d, s.v], row ba 39 [.int .u32 0, .int .u32 0, .int .i64 0, .int .i64 0, .slice none 0 0]] ++ [portsA b t])) h3 := hs.sel [0, 2, 3, 4, 5, 6, 7, 8, 9, 10, 1] (by decide) rfl
      refine p_take2 (Sat.csa g1) ho.nod ?_
      intro s1 h2 hs2
      rw [hD] at hs2 ⊢
      have hs : Sat (L ++ [row pb 58 [.pointer (some (bk b)), .pointer (some (bk R)), .pointer (some (bk kd)), .pointer (some (bk kr))], refP R t, diceA 88 kd l, diceA 98 kr l, kept0 k [.pointer (some (bk kb))] E, star (E.map own3), star (E.map wer3), bookA kb EB, row bo 41 [.int .i64 kind, .int .i64 n, .int .u32 d.a, .int .u32 d.b, .int .i64 d.c, .int .i64 d.d, s.v], row ba 39 [.int .u32 0, .int .u32 0, .int .i64 0, .int .i64 0, .slice none 0 0], portsA b (takeT t n).2, datA (D, s1)]) h2 := Sat.asc hs2
      refine hs.st 9 rfl (by simp) rfl ?_
      intro _ hs
      refine hs.st 9 rfl (by simp) rfl ?_
      intro _ hs
      refine hs.st 9 rfl (by simp) rfl ?_
      intro _ hs
      refine hs.st 9 rfl (by simp) rfl ?_
      intro _ hs
      refine hs.st 9 rfl (by simp) rfl ?_
      intro h8 hs
      have hs : Sat (L ++ [row pb 58 [.pointer (some (bk b)), .pointer (some (bk R)), .pointer (some (bk kd)), .pointer (some (bk kr))], refP R t, diceA 88 kd l, diceA 98 kr l, kept0 k [.pointer (some (bk kb))] E, star (E.map own3), star (E.map wer3), bookA kb EB, row bo 41 [.int .i64 kind, .int .i64 n, .int .u32 d.a, .int .u32 d.b, .int .i64 d.c, .int .i64 d.d, s.v], row ba 39 (dgc (D, s1)), portsA b (takeT t n).2, datA (D, s1)]) h8 := hs
      exact j0 ba s1 h8 (hs.sel [0, 4, 5, 6, 7, 8, 10, 2, 3, 11, 9, 1] (by decide) rfl)
  | false =>
  rw [cond_false]
  have hk5 : kind ≠ 5 := by simpa using hq5
  cases hq6 : (kind == 6) with
  | true =>
    rw [cond_true]
    refine hs1.lP 0 rfl rfl ?_
    have g1 : Sat (L ++ ([row pb 58 [.pointer (some (bk b)), .pointer (some (bk R)), .pointer (some (bk kd)), .pointer (some (bk kr))], refP R t, diceA 88 kd l, diceA 98 kr l, kept0 k [.pointer (some (bk kb))] E, star (E.map own3), star (E.map wer3), bookA kb EB, row bo 41 [.int .i64 kind, .int .i64 n, .int .u32 d.a, .int .u32 d.b, .int .i64 d.c, .int .i64 d.d, s.v]] ++ [portsA b t])) h1 := hs1.sel [0, 2, 3, 4, 5, 6, 7, 8, 9, 1] (by decide) rfl
    refine p_look (Sat.csa g1) ho ?_
    intro s1 h2 hs2
    have hs2 : Sat (L ++ [row pb 58 [.pointer (some (bk b)), .pointer (some (bk R)), .pointer (some (bk kd)), .pointer (some (bk kr))], refP R t, diceA 88 kd l, diceA 98 kr l, kept0 k [.pointer (some (bk kb))] E, star (E.map own3), star (E.map wer3), bookA kb EB, row bo 41 [.int .i64 kind, .int .i64 n, .int .u32 d.a, .int .u32 d.b, .int .i64 d.c, .int .i64 d.d, s.v], portsA b t, Hw.own 72 3 s1 (sts t.ps)]) h2 := Sat.asc hs2
    refine hs2.lP 0 rfl rfl ?_
    have g2 : Sat (L ++ ([row pb 58 [.pointer (some (bk b)), .pointer (some (bk R)), .pointer (some (bk kd)), .pointer (some (bk kr))], diceA 88 kd l, diceA 98 kr l, kept0 k [.pointer (some (bk kb))] E, star (E.map own3), star (E.map wer3), bookA kb EB, row bo 41 [.int .i64 kind, .int .i64 n, .int .u32 d.a, .int .u32 d.b, .int .i64 d.c, .int .i64 d.d, s.v], portsA b t, Hw.own 72 3 s1 (sts t.ps)] ++ [refP R t])) h2 := hs2.sel [0, 2, 3, 4, 5, 6, 7, 8, 9, 10, 1] (by decide) rfl
    refine c_RLook (Sat.csa g2) ho ?_
    intro s2 h3 hs3
    have hs3 : Sat (L ++ [row pb 58 [.pointer (some (bk b)), .pointer (some (bk R)), .pointer (some (bk kd)), .pointer (some (bk kr))], diceA 88 kd l, diceA 98 kr l, kept0 k [.pointer (some (bk kb))] E, star (E.map own3), star (E.map wer3), bookA kb EB, row bo 41 [.int .i64 kind, .int .i64 n, .int .u32 d.a, .int .u32 d.b, .int .i64 d.c, .int .i64 d.d, s.v], portsA b t, Hw.own 72 3 s1 (sts t.ps), refP R t, Hw.own 72 3 s2 (sts t.ps)]) h3 := Sat.asc hs3
    have g3 : Sat (L ++ ([row pb 58 [.pointer (some (bk b)), .pointer (some (bk R)), .pointer (some (bk kd)), .pointer (some (bk kr))], diceA 88 kd l, diceA 98 kr l, bookA kb EB, row bo 41 [.int .i64 kind, .int .i64 n, .int .u32 d.a, .int .u32 d.b, .int .i64 d.c, .int .i64 d.d, s.v], portsA b t, refP R t] ++ [kept0 k [.pointer (some (bk kb))] ([] ++ E), star (E.map own3), star (E.map wer3), own3 (s1, s2, sts t.ps), wer3 (s1, s2, sts t.ps)])) h3 := hs3.sel [0, 1, 2, 6, 7, 8, 10, 3, 4, 5, 9, 11] (by decide) rfl
    have tk := take3 (E0 := []) (Sat.csa g3) (by simp; omega) (Ke := fun h45 => C23 s1 s2 h45 fun b13 h46 => K b13 h46) ?_
    · simp only [nn_some', add_bk] at tk ⊢
      exact tk
    · intro h4 hs4
      have hs4 : Sat (L ++ [row pb 58 [.pointer (some (bk b)), .pointer (some (bk R)), .pointer (some (bk kd)), .pointer (some (bk kr))], diceA 88 kd l, diceA 98 kr l, bookA kb EB, row bo 41 [.int .i64 kind, .int .i64 n, .int .u32 d.a, .int .u32 d.b, .int .i64 d.c, .int .i64 d.d, s.v], portsA b t, refP R t, kept0 k [.pointer (some (bk kb))] (E ++ [(s1, s2, sts t.ps)]), star ((E ++ [(s1, s2, sts t.ps)]).map own3), star ((E ++ [(s1, s2, sts t.ps)]).map wer3)]) h4 := Sat.asc hs4
      have hlen := ho.len
      have o1 : Own h4 72 3 s1 (sts t.ps) := by
        have q : Sat (L ++ ([row pb 58 [.pointer (some (bk b)), .pointer (some (bk R)), .pointer (some (bk kd)), .pointer (some (bk kr))], diceA 88 kd l, diceA 98 kr l, bookA kb EB, row bo 41 [.int .i64 kind, .int .i64 n, .int .u32 d.a, .int .u32 d.b, .int .i64 d.c, .int .i64 d.d, s.v], portsA b t, refP R t, kept0 k [.pointer (some (bk kb))] (E ++ [(s1, s2, sts t.ps)]), star ((E ++ [(s1, s2, sts t.ps)]).map wer3)] ++ [star ((E ++ [(s1, s2, sts t.ps)]).map own3)])) h4 := hs4.sel [0, 1, 2, 3, 4, 5, 6, 7, 9, 8] (by decide) rfl
        exact (Sat.csa q).open.own E.length (by simp [own3])
      have o2 : Own h4 72 3 s2 (sts t.ps) := by
        have q : Sat (L ++ ([row pb 58 [.pointer (some (bk b)), .pointer (some (bk R)), .pointer (some (bk kd)), .pointer (some (bk kr))], diceA 88 kd l, diceA 98 kr l, bookA kb EB, row bo 41 [.int .i64 kind, .int .i64 n, .int .u32 d.a, .int .u32 d.b, .int .i64 d.c, .int .i64 d.d, s.v], portsA b t, refP R t, kept0 k [.pointer (some (bk kb))] (E ++ [(s1, s2, sts t.ps)]), star ((E ++ [(s1, s2, sts t.ps)]).map own3)] ++ [star ((E ++ [(s1, s2, sts t.ps)]).map wer3)])) h4 := hs4
        exact (Sat.csa q).open.own E.length (by simp [wer3])
      refine c_sames o1 o2 (by omega) ?_
      refine hK h4 t l (E ++ [(s1, s2, sts t.ps)]) EB (hs4.sel [0, 5, 6, 1, 2, 7, 8, 9, 3] (by decide) rfl) ho1 hdo hu (by simp) (by omega) ⟨?_, hg.b⟩ (fun _ _ _ _ _ => rfl) (fun e => absurd e hk5)
      intro x hx
      rcases List.mem_append.1 hx with hx | hx
      · exact hg.e x hx
      · simp at hx; subst hx; exact ⟨t.ps, rfl, hlen⟩
  | false =>
    rw [cond_false]
    exact fin h1 t l (hs1.sel [0, 5, 6, 7, 8, 9, 1, 2, 3, 4] (by decide) rfl) ho1 hdo hu (fun _ _ _ _ _ => rfl) (fun e => absurd e hk5)
end Go.Proofs.Ytabihmedfopdcaa

set_option linter.unusedVariables false
set_option maxRecDepth 100000
namespace Go.Proofs.Ytabihmedfopdcaa
open Go Go.Hw
/-! ### 7 slipway/slipwaylaw13.live -/
noncomputable def B7 : Code := match Try.f7.body with | some c => c | none => .skip
def N7  (h : Hp) (K : Bool → Hp → Prop) : Prop :=
  C8 2 1 h fun p0 h0 =>
  nw h0 (.cells ⟨[.int .u32 3]⟩ 36) fun b0 h1 =>
  C10 ⟨some (bk b0), 1, 1⟩ h1 fun p1 h2 =>
  peq h2 p0 none fun b1 =>
  bif b1 then
    K false h2
  else
    peq h2 p1 none fun b2 =>
    bif b2 then
      K false h2
    else
      C11 p0 68 h2 fun n0 h3 =>
      C11 p0 68 h3 fun n1 h4 =>
      C12 p0 p1 h4 fun n2 n3 h5 =>
      nw h5 (.cells ⟨[.int .u8 97]⟩ 5) fun b3 h6 =>
      mkSh h6 (bk b3) fun h7 =>
      C13 p0 0 0 0 68 ⟨some (bk b3), 1, 1⟩ h7 fun n4 h8 =>
      C13 p0 0 0 0 68 ⟨none, 0, 0⟩ h8 fun n5 h9 =>
      C15 p0 68 h9 fun n6 n7 n8 n9 s0 b4 h10 =>
      nw h10 (.cells ⟨[.int .u32 0, .int .u32 0, .int .i64 0, .int .i64 0, .slice none 0 0]⟩ 39) fun b5 h11 =>
      st h11 (bk b5) (.int .u32 n6) fun h12 =>
      st h12 ((bk b5).add 1) (.int .u32 n7) fun h13 =>
      st h13 ((bk b5).add 2) (.int .i64 n8) fun h14 =>
      st h14 ((bk b5).add 3) (.int .i64 n9) fun h15 =>
      st h15 ((bk b5).add 4) (.slice s0.p s0.n s0.c) fun h16 =>
      C9 p0 h16 fun s1 h17 =>
      nw h17 (.cells ⟨[.int .i64 68, .int .i64 0, .int .i64 1, .int .i64 49155, .int .i64 0, .int .i64 0]⟩ 72) fun b6 h18 =>
      C23 s1 ⟨some (bk b6), 2, 2⟩ h18 fun b7 h19 =>
      bif (n0 == 0) then
        bif (n1 == 130) then
          bif (n2 == 49155) then
            bif (n3 == 0) then
              bif (n4 == 0) then
                bif (n5 == 3) then
                  bif b4 then
                    xL (cell h19 ((bk b5).add 4)) fun s2 =>
                    b2s h19 s2.p s2.n fun s3 =>
                    bif (s3.toList == (⟨⟨[97]⟩⟩ : ByteArray).toList) then
                      xI .i64 (cell h19 ((bk b5).add 3)) fun n10 =>
                      bif (n10 == 68) then
                        K b7 h19
                      else
                        K false h19
                    else
                      K false h19
                  else
                    K false h19
                else
                  K false h19
              else
                K false h19
            else
              K false h19
          else
            K false h19
        else
          K false h19
      else
        K false h19
theorem S7 {h : Hp} {K : Bool → Hp → Prop} (hn : N7 h K) : C7 h K := by
  refine calls_of_D Try.func7 (c := B7) rfl (by kernel_rfl) ?_
  refine den_sound hE hm _ .leaf _ _ _ (annOk_leaf) ?_
  refine cast ?_ hn
  kernel_rfl
end Go.Proofs.Ytabihmedfopdcaa

set_option linter.unusedVariables false
set_option maxRecDepth 100000
namespace Go.Proofs.Ytabihmedfopdcaa
open Go Go.Hw
/-! ### 3 slipway/slipwaylaw13.PortNumbers -/
noncomputable def B3 : Code := match Try.f3.body with | some c => c | none => .skip
def N3  (h : Hp) (K : Bool → Hp → Prop) : Prop :=
  C7 h fun b0 h0 =>
  bif b0 then
    K true h0
  else
    K false h0
theorem S3 {h : Hp} {K : Bool → Hp → Prop} (hn : N3 h K) : C3 h K := by
  refine calls_of_D Try.func3 (c := B3) rfl (by kernel_rfl) ?_
  refine den_sound hE hm _ .leaf _ _ _ (annOk_leaf) ?_
  refine cast ?_ hn
  kernel_rfl
end Go.Proofs.Ytabihmedfopdcaa

/-
  Ports: the law's function live.
-/
set_option linter.unusedSimpArgs false
set_option linter.unusedVariables false
set_option maxRecDepth 20000
namespace Go.Proofs.Ytabihmedfopdcaa
open Go Go.Hw

theorem Ok0 {most depth : Int} (h : (1 ≤ most ∧ most ≤ 16) ∧ 1 ≤ depth ∧ depth ≤ 32) : Ok 0 ⟨most, depth, []⟩ := ⟨List.Pairwise.nil, (by intro p hp; cases hp), by simp, (by intro p hp; cases hp), h.1, h.2⟩
def lt0 : Tb := ⟨2, 1, []⟩
def lt1 : Tb := ⟨2, 1, [newP 68]⟩
def lt2 : Tb := ⟨2, 1, [newP 68, newP 49155]⟩
def ld : Dg := ⟨0, 0, 0, 68, [97]⟩
def ld0 : Dg := ⟨0, 0, 0, 68, []⟩
def lt3 : Tb := ⟨2, 1, [⟨68, [ld], 0⟩, newP 49155]⟩
def lt4 : Tb := ⟨2, 1, [⟨68, [ld], 1⟩, newP 49155]⟩
def lt5 : Tb := ⟨2, 1, [⟨68, [], 1⟩, newP 49155]⟩
theorem l1 : openT lt0 68 = (0, lt1) := by simp [openT, lt0, lt1, findP, addP]
theorem l2 : openT lt1 68 = (130, lt1) := by simp [openT, lt1, findP, newP]
theorem l3 : IsPick lt1.ps (portD [3]) 49155 := ⟨0, by omega, by decide, by simp [lt1, findP, newP], fun i hi => by omega⟩
theorem l3' : addP 49155 lt1.ps = lt2.ps := by simp [lt1, lt2, addP, newP]
theorem l4 : putT lt2 ld = (0, lt3) := by simp [putT, lt2, lt3, ld, findP, newP, updP]
theorem l5 : putT lt3 ld0 = (3, lt4) := by simp [putT, lt3, lt4, ld0, findP, newP, updP]
theorem l6 : takeT lt4 68 = (some ld, lt5) := by simp [takeT, lt4, lt5, findP, newP, updP]
theorem l7 : sts lt5.ps = [.int .i64 68, .int .i64 0, .int .i64 1, .int .i64 49155, .int .i64 0, .int .i64 0] := rfl
theorem p_live {L M : List Asn} {h : Hp} {K : Bool → Hp → Prop} (hs : Sat (L ++ M) h) (hK : ∀ h', Sat (L ++ M) h' → K true h') : C7 h K := by
  apply S7; unfold N7
  refine p_new hs (fun hn => absurd hn (by decide)) ?_
  intro _ b h1 hs1
  have hs1 : Sat ((L ++ M) ++ [portsA b lt0]) h1 := Sat.csa hs1
  intro b0 e0
  have hs2 := hs1.ext (Ext.new (o := .cells ⟨[.int .u32 3]⟩ 36 (0, 0)) e0)
  have hr0 : RdU (upd h1 b0 (.cells ⟨[.int .u32 3]⟩ 36 (0, 0))) ⟨some (bk b0), 1, 1⟩ [3] := by
    refine ⟨rfl, Nat.le_refl _, ?_⟩
    have hb : Blk (upd h1 b0 (.cells ⟨[.int .u32 3]⟩ 36 (0, 0))) b0 36 [.int .u32 3] := Blk.upd_same
    exact hb.rdc
  revert hs2 hr0
  generalize upd h1 b0 _ = h2
  intro hs2 hr0
  refine c_diceNew hs2 hr0 (by decide) ?_
  intro kd h3 hs3
  have hs3 : Sat ((L ++ M) ++ [portsA b lt0, diceA 88 kd [3]]) h3 := hs3
  simp only [peq_none, Option.isNone_some, cond_false]
  have ok0 : Ok 0 lt0 := Ok0 (by decide)
  have ok1 : Ok 0 lt1 := by have := ok0.open' (n := 68); rw [l1] at this; exact this
  refine p_open (Sat.csa (hs3.sel [1, 0] (by decide) rfl) : Sat (((L ++ M) ++ [diceA 88 kd [3]]) ++ [portsA b lt0]) h3) ok0.nod ?_
  rw [l1]
  intro h4 hs4
  refine p_open hs4 ok1.nod ?_
  rw [l2]
  intro h5 hs5
  have hs5 : Sat ((L ++ M) ++ [portsA b lt1, diceA 88 kd [3]]) h5 := (Sat.asc hs5).sel [1, 0] (by decide) rfl
  refine p_pick hs5 ok1.nod (fun x hx => by simp at hx; subst hx; decide) (fun hn => absurd hn (by decide)) ?_
  intro _
  refine ⟨49155, l3, ?_⟩
  intro h6 hs6
  have hs6 : Sat ((L ++ M) ++ [portsA b lt2]) h6 := by
    have : ({ lt1 with ps := addP 49155 lt1.ps } : Tb) = lt2 := by rw [l3']; rfl
    rw [this] at hs6
    exact hs6.sel [0] (by decide) rfl
  have ok2 : Ok 0 lt2 := by
    have := ok1.add (n := 49155) (by decide) (by decide) l3.free.1 (by decide)
    rw [l3'] at this; exact this
  intro b3 e3
  have x3 : Ext none' h6 (upd h6 b3 (.cells ⟨[.int .u8 97]⟩ 5 (0, 0))) := Ext.new e3
  have es : shp (upd h6 b3 (.cells ⟨[.int .u8 97]⟩ 5 (0, 0))) b3 = some (5, 1) := by unfold shp; rw [upd_same]; rfl
  unfold mkSh
  rw [show (bk b3).block = b3 from rfl, es]
  simp only []
  have ef : frzn (upd h6 b3 (.cells ⟨[.int .u8 97]⟩ 5 (0, 0))) ⟨b3, 1, none⟩ 1 = upd (upd h6 b3 (.cells ⟨[.int .u8 97]⟩ 5 (0, 0))) b3 (.cells ⟨[.int .u8 97]⟩ 5 (1, 2)) := by
    unfold frzn
    simp only [upd_same]
    rfl
  rw [ef]
  have x4 : Ext none' h6 (upd (upd h6 b3 (.cells ⟨[.int .u8 97]⟩ 5 (0, 0))) b3 (.cells ⟨[.int .u8 97]⟩ 5 (1, 2))) := by
    intro c o hc _
    have : c ≠ b3 := by rintro rfl; rw [e3] at hc; cases hc
    rw [upd_ne this, upd_ne this]; exact hc
  have hr3 : RdB (upd (upd h6 b3 (.cells ⟨[.int .u8 97]⟩ 5 (0, 0))) b3 (.cells ⟨[.int .u8 97]⟩ 5 (1, 2))) ⟨some (bk b3), 1, 1⟩ [97] := by
    refine ⟨rfl, Nat.le_refl _, ?_⟩
    intro i v hi
    refine ⟨bk b3, rfl, ?_⟩
    rw [add_bk, cell_at upd_same]; exact hi
  have hs7 := hs6.ext x4
  revert hs7 hr3
  generalize upd (upd h6 b3 _) b3 _ = h7
  intro hr3 hs7
  refine p_put (d := ld) hs7 ok2 (by decide) hr3 (by decide) ?_
  rw [l4]
  intro h8 hs8
  have ok3 : Ok 1 lt3 := by have := ok2.put' (d := ld); rw [l4] at this; exact this
  refine p_put (d := ld0) (s := ⟨none, 0, 0⟩) hs8 ok3 (by decide) RdB.nil (by decide) ?_
  rw [l5]
  intro h9 hs9
  have ok4 : Ok 2 lt4 := by have := ok3.put' (d := ld0); rw [l5] at this; exact this
  refine p_take hs9 ok4.nod (fun e => by rw [l6] at e; cases e) ?_
  rw [l6]
  intro d ed s h10 hs10
  cases ed
  intro b5 e5
  have hs := hs10.new e5 (.cells ⟨[.int .u32 0, .int .u32 0, .int .i64 0, .int .i64 0, .slice none 0 0]⟩ 39 (0, 0))
  revert hs
  generalize upd h10 b5 _ = h11
  intro hs
  have hs : Sat ((L ++ M) ++ [portsA b lt5, datA (ld, s), row b5 39 [.int .u32 0, .int .u32 0, .int .i64 0, .int .i64 0, .slice none 0 0]]) h11 := hs
  simp only [add_bk]
  refine hs.st 2 rfl (by simp) rfl ?_
  intro _ hs
  refine hs.st 2 rfl (by simp) rfl ?_
  intro _ hs
  refine hs.st 2 rfl (by simp) rfl ?_
  intro _ hs
  refine hs.st 2 rfl (by simp) rfl ?_
  intro _ hs
  refine hs.st 2 rfl (by simp) rfl ?_
  intro h16 hs
  have hs : Sat ((L ++ M) ++ [portsA b lt5, datA (ld, s), row b5 39 [.int .u32 0, .int .u32 0, .int .i64 0, .int .i64 68, s.v]]) h16 := hs
  have ok5 : Ok 2 lt5 := by have := ok4.take' (n := 68); rw [l6] at this; exact this
  have g1 : Sat ((L ++ M) ++ ([datA (ld, s), row b5 39 [.int .u32 0, .int .u32 0, .int .i64 0, .int .i64 68, s.v]] ++ [portsA b lt5])) h16 := hs.sel [1, 2, 0] (by decide) rfl
  refine p_look (Sat.csa g1) ok5 ?_
  intro s1 h17 hs17
  have hs17 : Sat ((L ++ M) ++ [datA (ld, s), row b5 39 [.int .u32 0, .int .u32 0, .int .i64 0, .int .i64 68, s.v], portsA b lt5, Hw.own 72 3 s1 (sts lt5.ps)]) h17 := Sat.asc hs17
  intro b6 e6
  have hs18 := hs17.addOwn (T := 72) (sz := 3) (s := ⟨some (bk b6), 2, 2⟩) (vs := sts lt5.ps) (Ext.new (o := .cells ⟨[.int .i64 68, .int .i64 0, .int .i64 1, .int .i64 49155, .int .i64 0, .int .i64 0]⟩ 72 (0, 0)) e6) (by
    refine ⟨rfl, Nat.le_refl _, rfl, _, upd_same, rfl, rfl⟩) (fun b hb => by
      simp only [Option.some.injEq] at hb
      have : b6 = b := congrArg Addr.block hb
      subst this; exact e6)
  revert hs18
  generalize upd h17 b6 _ = h18
  intro hs18
  have hs18 : Sat ((L ++ M) ++ [datA (ld, s), row b5 39 [.int .u32 0, .int .u32 0, .int .i64 0, .int .i64 68, s.v], portsA b lt5, Hw.own 72 3 s1 (sts lt5.ps), Hw.own 72 3 ⟨some (bk b6), 2, 2⟩ (sts lt5.ps)]) h18 := hs18
  refine c_sames (hs18.own 3 rfl) (hs18.own 4 rfl) (by decide) ?_
  simp only [beq_self_eq_true, cond_true]
  have e49 : ((49155 : Int) == 49155) = true := rfl
  refine hs18.lL 1 rfl rfl ?_
  refine (hs18.own 0 rfl).rdb.b2s ?_
  have eb : ((⟨⟨ld.data⟩⟩ : ByteArray).toList == (⟨⟨[97]⟩⟩ : ByteArray).toList) = true := by show ((⟨⟨[97]⟩⟩ : ByteArray).toList == (⟨⟨[97]⟩⟩ : ByteArray).toList) = true; exact beq_self_eq_true _
  rw [eb, cond_true]
  refine hs18.lI 1 rfl rfl ?_
  simp only [beq_self_eq_true, cond_true]
  exact hK h18 hs18.left
theorem c_portNumbers {h : Hp} {K : Bool → Hp → Prop} (hK : ∀ h', Ext none' h h' → K true h') : C3 h K := by
  apply S3; unfold N3
  refine p_live (L := []) (M := [Hw.was h]) Sat.start ?_
  intro h' hs
  exact hK h' (hs.was 0 rfl)
end Go.Proofs.Ytabihmedfopdcaa

/-
  A law's row out of a walk: it returns true, only new blocks; what the row lists as laid, and the world's shape, are the walk's to use.
-/
set_option linter.unusedSimpArgs false
set_option linter.unusedVariables false
namespace Go.Hw
open Go
open Go.ChangeShapes Go.WideShapes Go.ChangeAt Go.RowKit

section
variable {H : Type} {enc : TypeId × Value → H}
theorem law_lift {C : Checked} {os : Os} {f : FuncId} {fn : Func} {s : ChangeSpec} {X : World → Prop} {tb : TypeId}
    (hX : ∀ (w w' : World), w.heap = w'.heap → X w → X w')
    (own : ownKnob C.prog.godebug = none) (started : os.Started) (noInit : C.prog.inits.idxOf? f = none) (hfn : C.prog.funcs[f]? = some fn)
    (witness : ∃ (w : World) (tape : Tape) (i : Input), w.os = os ∧ (w.forCall tape i).Shaped C.prog ∧ i.vars = [] ∧ Input.okWide C.prog (w.forCall tape i) .any w.heap.size f i ∧
      ((s.pre enc C.prog fn [] false (w.forCall tape i).memory i.args ∧ X (w.forCall tape i).memory) ∧ sizedMet enc C.prog fn (OpenSpec.ofChange s) false (w.forCall tape i).memory i.args) ∧ ({} : Assume).holds C.prog (lone (Frame.enter C.prog f i.args .normal) [] (w.forCall tape i)))
    (hl : laidOutB C.prog = true) (hr : ∀ t ∈ fn.params.toList, C.prog.readableRec t = true ∧ t < C.prog.types.size) (hrt : fn.resultTypes = #[tb]) (hb : C.prog.underlying tb = some .bool)
    (hvs : s.vars = [])
    (hspec : ∀ ds : List (DataW H), ds.length = fn.params.size → (s.fn H ds).results = [.lit (.bool true)] ∧ (s.fn H ds).args = ds ∧ (s.fn H ds).vars = [])
    (walk : ∀ (W : World) (base : Nat) (args : Array Value) (ds : List (DataW H)) (p : List MemPlace),
      (∀ (j : Nat) t v, fn.params[j]? = some t → args[j]? = some v → Value.okWide C.prog W .any base t v) →
      DataW.TrodAll enc C.prog W 0 (fun _ => true) true fn.params.toList args.toList ds p →
      (DataW.weightsEach C.prog fn.params.toList ds).all (· ≤ reachBytes) = true →
      X W → W.ShapedOpen C.prog →
      HCalls C.prog f args (hpOf W) fun v h' => v = .bool true ∧ Ext none' (hpOf W) h') :
    ReturnsInHanded {} C os f .any (fun w args => (s.pre enc C.prog fn [] false w args ∧ X w) ∧ sizedMet enc C.prog fn (OpenSpec.ofChange s) false w args) (s.post enc C.prog fn false true false false) := by
  refine returnsInHanded_of_calls own started noInit witness ?_
  intro w tape i _ hsh _ hok hpre hholds
  obtain ⟨_, _, _, fn', hfn', _, _, _, _, hval⟩ := hok
  have e : fn' = fn := Option.some.inj (hfn'.symm.trans hfn)
  subst e
  obtain ⟨⟨⟨ds, gs, before, hw, hc⟩, hx⟩, hz⟩ := hpre
  have hw' := DataW.Whole.of_heap (w' := w.forCall tape i) (by rfl) hw
  have hwt := hz.weights hw
  have hw2 := hw'
  obtain ⟨p, q, hA0, hV, hpq, hfz, hnd⟩ := hw2
  have hA : DataW.TrodAll enc C.prog (w.forCall tape i) 0 (fun _ => true) true fn'.params.toList i.args.toList ds p := hA0
  have hV' := hV
  rw [hvs] at hV'
  obtain ⟨rfl, rfl⟩ := trodVars_none hV'
  have hvt : DataSpec.varTypes C.prog (OpenSpec.ofChange s).bare.plain = [] := by
    unfold DataSpec.varTypes
    have : (OpenSpec.ofChange s).bare.plain.vars = [] := hvs
    rw [this]; rfl
  rw [hvt] at hwt
  simp only [List.append_nil] at hwt
  have hlen : ds.length = fn'.params.size := by
    have : ∀ {ts : List TypeId} {vs : List Value} {ds : List (DataW H)} {p : List MemPlace}, DataW.TrodAll enc C.prog (w.forCall tape i) 0 (fun _ => true) true ts vs ds p → ds.length = ts.length := by
      intro ts
      induction ts with
      | nil => intro vs ds p h; obtain ⟨_, rfl, _⟩ := trodAll_nil h; rfl
      | cons t ts ih => intro vs ds p h; obtain ⟨_, _, _, _, _, _, _, rfl, _, _, h2⟩ := trodAll_cons h; simp [ih h2]
    have := this hA
    rw [this]; simp
  have hc2 := walk (w.forCall tape i) w.heap.size i.args ds p hval hA hwt (hX _ _ (by rfl) hx) hsh
  refine (hc2 _ rfl).mono ?_
  rintro e W' ⟨v, rfl, ⟨rfl, he⟩, hp⟩
  obtain ⟨s1, s2, s3⟩ := hspec ds hlen
  exact ChangeSpec.post_blind (law_post hl hr hrt hb (hvs ▸ hw') hvs s1 s2 s3 hp he)
end

/-- a table that is laid -/
theorem laid_one {P : Program} {W : World} {l : List (String × DataW Unit)} {n : String} {d : DataW Unit} (h : laidMetH P l W) (hn : (l.filter fun x => x.2.handleName?.isSome) = []) (he : (l.filter fun x => x.1 == n) = [(n, d)]) : laidMet P [(n, d)] W := by
  have h2 : laidMet P l W := by
    unfold laidMetH at h
    rw [hn] at h; exact h
  have h3 := laidMet.filter (fun x => x.1 == n) h2
  rw [he] at h3; exact h3
end Go.Hw
