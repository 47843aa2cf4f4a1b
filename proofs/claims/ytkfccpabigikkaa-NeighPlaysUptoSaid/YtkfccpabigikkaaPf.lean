/-
 The cache: its state, the program's cache in memory, the small functions.
-/
import Derived.Test.YtkfccpabigikkaaPd
import Derived.Test.YtkfccpabigikkaaPe
set_option linter.unusedSimpArgs false
set_option linter.unusedVariables false
set_option maxRecDepth 4000
namespace Go.Proofs.Ytkfccpabigikkaa
open Go Go.Hw
structure NE where
 ip : Int
 mac : M6
 til : Int
 tries : Int
 src : Int
 pk : List UInt8
structure Ca where
 own : M6
 most : Int
 l : List NE
 now : Int
abbrev keyE (e : NE) : Int := e.ip
abbrev maxT : Int := 1125899906842624
def mac0 : M6 := ⟨0, 0, 0, 0, 0, 0⟩
structure NE.ok (e : NE) : Prop where
 ip : 0 ≤ e.ip ∧ e.ip < 4294967296
 mac : e.mac.ok
 til : 0 ≤ e.til ∧ e.til ≤ maxT
 tries : 0 ≤ e.tries ∧ e.tries ≤ 3
 src : 0 ≤ e.src ∧ e.src < 4294967296
 known : e.tries = 0 → e.src = 0 ∧ e.pk = []
 asked : e.tries ≠ 0 → e.mac = mac0
 pk : e.pk.length ≤ 1099511627776
structure Ca.ok (c : Ca) : Prop where
 own : c.own.ok
 most : 1 ≤ c.most ∧ c.most ≤ 64
 srt : c.l.Pairwise fun a b => a.ip < b.ip
 all : ∀ e ∈ c.l, e.ok
 len : (c.l.length : Int) ≤ c.most
 now : 0 ≤ c.now ∧ c.now ≤ maxT
theorem srt_nod {l : List NE} (h : l.Pairwise fun a b => a.ip < b.ip) : NodK keyE l := h.imp fun h e => by simp only [keyE] at e; omega
theorem Ca.ok.nod {c : Ca} (h : c.ok) : NodK keyE c.l := srt_nod h.srt
def tellC (c : Ca) (now : Int) : Ca := { c with now := max c.now (min now maxT) }
def behindC (c : Ca) (n : Int) : Int := min (c.now + n) maxT
def leastK : Option NE → List NE → Option NE
 | b, [] => b
 | none, e :: l => leastK (if e.tries = 0 then some e else none) l
 | some x, e :: l => leastK (if e.tries = 0 ∧ e.til < x.til then some e else some x) l
def roomL (most : Int) (l : List NE) : Option (List NE) := if (l.length : Int) < most then some l else match leastK none l with
 | none => none
 | some e => some (delK keyE e.ip l)
def putL' (e : NE) : List NE → List NE
 | [] => [e]
 | x :: l => if x.ip > e.ip then e :: x :: l else x :: putL' e l
theorem putL_perm (e : NE) : ∀ l : List NE, (putL' e l).Perm (e :: l)
 | [] => List.Perm.refl _
 | p :: l => by
  unfold putL'
  split
  ·exact List.Perm.refl _
  ·exact ((putL_perm e l).cons p).trans (List.Perm.swap _ _ _)
structure Snd where
 dst : M6
 kind : Int
 data : List UInt8
def questC (c : Ca) (e : NE) : Snd := ⟨oneEighty, 2054, arpL 1 c.own e.src mac0 e.ip⟩
def entC (e : NE) (s : Sl) : List Value := [.int .u8 e.mac.a, .int .u8 e.mac.b, .int .u8 e.mac.c, .int .u8 e.mac.d, .int .u8 e.mac.e, .int .u8 e.mac.f, .int .i64 e.til, .int .i64 e.tries, .int .u32 e.src, s.v]
def entA (q : Nat) (e : NE) : Asn := exs fun s : Sl => star [row q 88 (entC e s), Hw.own 5 1 s (bc e.pk)]
def caC (c : Ca) (m : Nat) : List Value := [.int .u8 c.own.a, .int .u8 c.own.b, .int .u8 c.own.c, .int .u8 c.own.d, .int .u8 c.own.e, .int .u8 c.own.f, .int .i64 c.most, .map (some m), .int .i64 c.now]
def cacheA (b : Nat) (c : Ca) : Asn := exs fun m : Nat => star [row b 76 (caC c m), pmA keyE entA .u32 m c.l]
theorem cache_open {L : List Asn} {b : Nat} {c : Ca} {h : Hp} (hs : Sat (L ++ [cacheA b c]) h) : ∃ m, Sat (L ++ [row b 76 (caC c m), pmA keyE entA .u32 m c.l]) h := by
 obtain ⟨m, hs⟩ := hs.exOut
 have hs : Sat (L ++ [star [row b 76 (caC c m), pmA keyE entA .u32 m c.l]]) h := hs
 exact ⟨m, hs.open⟩
theorem cache_shut {L : List Asn} {b m : Nat} {c : Ca} {h : Hp} (hs : Sat (L ++ [row b 76 (caC c m), pmA keyE entA .u32 m c.l]) h) : Sat (L ++ [cacheA b c]) h := by
 have h2 := hs.close
 unfold cacheA
 exact h2.exIn m
theorem ent_open {L : List Asn} {q : Nat} {e : NE} {h : Hp} (hs : Sat (L ++ [entA q e]) h) : ∃ s, Sat (L ++ [row q 88 (entC e s), Hw.own 5 1 s (bc e.pk)]) h := by
 obtain ⟨s, hs⟩ := hs.exOut
 have hs : Sat (L ++ [star [row q 88 (entC e s), Hw.own 5 1 s (bc e.pk)]]) h := hs
 exact ⟨s, hs.open⟩
theorem ent_shut {L : List Asn} {q : Nat} {e : NE} {s : Sl} {h : Hp} (hs : Sat (L ++ [row q 88 (entC e s), Hw.own 5 1 s (bc e.pk)]) h) : Sat (L ++ [entA q e]) h := by
 have h2 := hs.close
 unfold entA
 exact h2.exIn s
theorem mu_t : Try.prog.underlying 74 = some (.map 39 86) := by kernel_rfl
theorem mu_k : Try.prog.underlying 39 = some (.int .u32) := by kernel_rfl
theorem u_a : Try.prog.cellsOf 39 = 1 := by kernel_rfl
theorem u_z : (zc Try.prog 39).length = 1 := by kernel_rfl
theorem u_b : Try.prog.bytesOf 39 = 4 := by kernel_rfl
theorem nt_a : Try.prog.cellsOf 68 = 11 := by kernel_rfl
theorem nt_z : (zc Try.prog 68).length = 11 := by kernel_rfl
theorem nt_b : Try.prog.bytesOf 68 ≤ 64 := by rw [show Try.prog.bytesOf 68 = 48 by kernel_rfl]; omega
theorem mx_eq {a b : Int} : mx a b = max a b := by unfold mx; omega
theorem mn_eq {a b : Int} : mn a b = min a b := by unfold mn; omega
section
variable {L : List Asn} {b : Nat} {c : Ca} {h : Hp}
theorem n_tell {now : Int} {K : Hp → Prop} (hs : Sat (L ++ [cacheA b c]) h) (hK : ∀ h', Sat (L ++ [cacheA b (tellC c now)]) h' → K h') : C37 (some (bk b)) now h K := by
 apply S37; unfold N37
 obtain ⟨m, hs⟩ := cache_open hs
 simp only [nn_some', add_bk]
 refine hs.lI 0 rfl rfl ?_
 refine hs.st 0 rfl (by simp [caC]) rfl ?_
 intro h1 hs1
 rw [mx_eq, mn_eq] at hs1
 exact hK _ (cache_shut (m := m) hs1)
theorem n_behind {n : Int} {K : Int → Hp → Prop} (hs : Sat (L ++ [cacheA b c]) h) (ho : c.ok) (hn : 0 ≤ n ∧ n ≤ 1000) (hK : K (behindC c n) h) : C41 (some (bk b)) n h K := by
 apply S41; unfold N41
 obtain ⟨m, hs⟩ := cache_open hs
 simp only [nn_some', add_bk]
 refine hs.lI 0 rfl rfl ?_
 have := ho.now
 rw [mn_eq, wi64i (by omega) (by simp only [maxT] at this; omega)]
 exact hK
theorem n_behind1 {L M : List Asn} {m : Nat} {n : Int} {K : Int → Hp → Prop} (hs : Sat (L ++ M) h) (j : Nat) (hj : M[j]? = some (row b 76 (caC c m))) (ho : c.ok) (hn : 0 ≤ n ∧ n ≤ 1000) (hK : K (behindC c n) h) : C41 (some (bk b)) n h K := by
 apply S41; unfold N41
 simp only [nn_some', add_bk]
 refine hs.lI j hj rfl ?_
 have := ho.now
 rw [mn_eq, wi64i (by omega) (by simp only [maxT] at this; omega)]
 exact hK
theorem n_known {q : Nat} {e : NE} {K : Bool → Hp → Prop} (hs : Sat (L ++ [entA q e]) h) (hK : K (e.tries == 0) h) : C38 (some (bk q)) h K := by
 apply S38; unfold N38
 obtain ⟨s, hs⟩ := ent_open hs
 simp only [nn_some', add_bk]
 exact hs.lI 0 rfl rfl hK
theorem sort_ips {E : List NE} {l : List NE} (hp : E.Perm l) (hs : l.Pairwise fun p q => p.ip < q.ip) : (E.map NE.ip).mergeSort (fun x y => decide (x ≤ y)) = l.map NE.ip := by
 have tr : ∀ a b c : Int, decide (a ≤ b) = true → decide (b ≤ c) = true → decide (a ≤ c) = true := fun a b c h1 h2 => by simp only [decide_eq_true_eq] at *; omega
 have to : ∀ a b : Int, (decide (a ≤ b) || decide (b ≤ a)) = true := fun a b => by simp only [Bool.or_eq_true, decide_eq_true_eq]; omega
 refine List.Perm.eq_of_pairwise (le := fun a b => a ≤ b) (fun a b _ _ h1 h2 => Int.le_antisymm h1 h2) ?_ ?_ ((List.mergeSort_perm _ _).trans (hp.map _))
 ·have := List.pairwise_mergeSort tr to (E.map NE.ip)
  exact this.imp fun h => by simpa using h
 ·rw [List.pairwise_map]
  exact hs.imp fun h => Int.le_of_lt h
def uz (l : List Int) : List Value := l.map fun n => .int .u32 n
theorem n_sorted {K : Sl → Hp → Prop} (hs : Sat (L ++ [cacheA b c]) h) (ho : c.ok) (hK : ∀ s h', Sat (L ++ [cacheA b c, Hw.own 39 1 s (uz (c.l.map NE.ip))]) h' → K s h') : C51 (some (bk b)) h K := by
 apply S51; unfold N51
 obtain ⟨m, hs⟩ := cache_open hs
 simp only [nn_some', add_bk]
 refine hs.lM 0 rfl rfl ?_
 have g1 : Sat ((L ++ [row b 76 (caC c m)]) ++ [pmA keyE entA .u32 m c.l]) h := Sat.csa hs
 obtain ⟨E, g2, hp⟩ := pm_open g1
 have g3 : Sat ((L ++ [row b 76 (caC c m), star (E.map fun e => entA e.1 e.2)]) ++ [mapA .u32 m (kvs keyE E)]) h := Sat.csa ((Sat.asc g2).sel [0, 2, 1] (by decide) rfl)
 refine g3.rgM ?_
 intro w h1 g4
 have hlen := hp.length_eq
 rw [List.length_map] at hlen
 have hl64 := ho.len
 have hm64 := ho.most
 unfold N51_l0
 have g5 : Sat ((L ++ [row b 76 (caC c m), star (E.map fun e => entA e.1 e.2)]) ++ [walkA .u32 m w (kvs keyE E) [], Hw.own 39 1 ⟨none, 0, 0⟩ (uz [])]) h1 := g4.addNil 39 1
 refine loopP_inv (fun (x : Sl) hc => ∃ ks : KV, Sat ((L ++ [row b 76 (caC c m), star (E.map fun e => entA e.1 e.2)]) ++ [walkA .u32 m w (kvs keyE E) ks, Hw.own 39 1 x (uz (ks.map Prod.fst))]) hc) (fun x _ => E.length - x.n) ?_ ⟨[], g5⟩
 rintro x hc ⟨ks, g6⟩
 unfold N51_l0_B N51_l0_b
 have g7 : Sat ((L ++ [row b 76 (caC c m), star (E.map fun e => entA e.1 e.2), Hw.own 39 1 x (uz (ks.map Prod.fst))]) ++ [walkA .u32 m w (kvs keyE E) ks]) hc := Sat.csa ((Sat.asc g6).sel [0, 1, 3, 2] (by decide) rfl)
 have xn : x.n = ks.length := by have := (g6.own 1 rfl).1; simp [uz] at this; exact this.symm
 have kvl : (kvs keyE E).length = E.length := by simp [kvs]
 refine g7.nxM ?_ ?_
 ·intro hk
  simp only [cond_false]
  have g8 := g7.endM
  have g9 : Sat ((L ++ [row b 76 (caC c m), mapA .u32 m (kvs keyE E), star (E.map fun e => entA e.1 e.2)]) ++ [Hw.own 39 1 x (uz (ks.map Prod.fst))]) hc := Sat.csa ((Sat.asc g8).sel [0, 3, 1, 2] (by decide) rfl)
  refine c_sortU g9 ?_ ?_
  ·have := hk.length_eq; simp only [List.length_map]; omega
  ·intro h2 g10
   have e1 : ((ks.map Prod.fst).mergeSort fun x y => decide (x ≤ y)) = c.l.map NE.ip := by
    have p1 : (ks.map Prod.fst).Perm (E.map Prod.snd |>.map NE.ip) := by
     have := hk.map Prod.fst
     have e2 : (kvs keyE E).map Prod.fst = (E.map Prod.snd).map NE.ip := by simp [kvs]
     rw [e2] at this; exact this
    rw [← sort_ips hp ho.srt]
    have tr : ∀ a b c : Int, decide (a ≤ b) = true → decide (b ≤ c) = true → decide (a ≤ c) = true := fun a b c h1 h2 => by simp only [decide_eq_true_eq] at *; omega
    have to : ∀ a b : Int, (decide (a ≤ b) || decide (b ≤ a)) = true := fun a b => by simp only [Bool.or_eq_true, decide_eq_true_eq]; omega
    refine List.Perm.eq_of_pairwise (le := fun a b => a ≤ b) (fun a b _ _ h1 h2 => Int.le_antisymm h1 h2) ?_ ?_ (((List.mergeSort_perm _ _).trans p1).trans (List.mergeSort_perm _ _).symm)
    ·exact (List.pairwise_mergeSort tr to _).imp fun h => by simpa using h
    ·exact (List.pairwise_mergeSort tr to _).imp fun h => by simpa using h
   rw [e1] at g10
   have g11 : Sat ((L ++ [Hw.own 39 1 x (uz (c.l.map NE.ip)), row b 76 (caC c m)]) ++ [mapA .u32 m (kvs keyE E), star (E.map fun e => entA e.1 e.2)]) h2 := Sat.csa ((Sat.asc g10).sel [3, 0, 1, 2] (by decide) rfl)
   have g12 := pm_shut g11 hp
   have g13 : Sat ((L ++ [Hw.own 39 1 x (uz (c.l.map NE.ip))]) ++ [row b 76 (caC c m), pmA keyE entA .u32 m c.l]) h2 := Sat.mv g12
   have g14 := cache_shut g13
   exact hK _ _ ((Sat.asc g14).sel [1, 0] (by decide) rfl)
 ·intro k v h2 hkv hlt g8
  simp only [cond_true]
  refine g8.enM ?_
  simp only [xI_some]
  have g9 : Sat ((L ++ [row b 76 (caC c m), star (E.map fun e => entA e.1 e.2)]) ++ [walkA .u32 m w (kvs keyE E) (ks ++ [(k, v)]), Hw.own 39 1 x (uz (ks.map Prod.fst))]) h2 := Sat.csa ((Sat.asc g8).sel [0, 1, 3, 2] (by decide) rfl)
  refine g9.push 1 rfl (k := 1) u_a u_z rfl (by intro v hv; simp at hv; subst hv; rfl) (by rw [u_b]; omega) ?_
  intro x' h3 g10 hx'
  refine ⟨⟨ks ++ [(k, v)], ?_⟩, by omega⟩
  have e2 : uz ((ks ++ [(k, v)]).map Prod.fst) = uz (ks.map Prod.fst) ++ [.int .u32 k] := by simp [uz]
  rw [e2]; exact g10
theorem n_get {m : Nat} {ip : Int} {F : Option (Nat × Value) → Prop} (hs : Sat (L ++ [row b 76 (caC c m), pmA keyE entA .u32 m c.l]) h) (ho : c.ok)
  (h0 : findK keyE ip c.l = none → ∀ r, r.map Prod.snd = none → F r)
  (h1 : ∀ e q, findK keyE ip c.l = some e → Sat (L ++ [row b 76 (caC c m), pmH keyE entA .u32 m c.l ip q, entA q e]) h → ∀ r, r.map Prod.snd = some (.pointer (some (bk q))) → F r) : xMap h (some m) fun es _ => keyAt (.int .u32) (.int .u32 ip) es F := by
 have g1 : Sat ((L ++ [row b 76 (caC c m)]) ++ [pmA keyE entA .u32 m c.l]) h := Sat.csa hs
 exact pm_find g1 ho.nod h0 fun e q hf hs2 r hr => h1 e q hf (Sat.asc hs2) r hr
theorem n_back {m q : Nat} {ip : Int} {e : NE} (hs : Sat (L ++ [row b 76 (caC c m), pmH keyE entA .u32 m c.l ip q, entA q e]) h) (hn : NodK keyE c.l) (he : findK keyE ip c.l = some e) : Sat (L ++ [row b 76 (caC c m), pmA keyE entA .u32 m c.l]) h := by
 have g1 : Sat ((L ++ [row b 76 (caC c m)]) ++ [pmH keyE entA .u32 m c.l ip q, entA q e]) h := Sat.csa hs
 have g2 := pm_in g1 hn (findK_some he).2
 rw [updK_same hn he] at g2
 exact Sat.asc g2
theorem leastK_mem : ∀ {l : List NE} {b : Option NE} {e : NE}, leastK b l = some e → b = some e ∨ e ∈ l := by
 intro l
 induction l with
 | nil => intro b e h; left; cases b <;> exact h
 | cons x l ih =>
  intro b e h
  cases b with
  | none =>
   rw [leastK] at h
   rcases ih h with h1 | h1
   ·split at h1
    ·cases h1; exact .inr List.mem_cons_self
    ·cases h1
   ·exact .inr (List.mem_cons_of_mem _ h1)
  | some y =>
   rw [leastK] at h
   rcases ih h with h1 | h1
   ·split at h1
    ·cases h1; exact .inr List.mem_cons_self
    ·exact .inl h1
   ·exact .inr (List.mem_cons_of_mem _ h1)
theorem n_room {K : Bool → Hp → Prop} (hs : Sat (L ++ [cacheA b c]) h) (ho : c.ok) (hnone : roomL c.most c.l = none → ∀ h', Sat (L ++ [cacheA b c]) h' → K false h') (hK : ∀ l, roomL c.most c.l = some l → ∀ h', Sat (L ++ [cacheA b { c with l := l }]) h' → K true h') : C40 (some (bk b)) h K := by
 apply S40; unfold N40
 have hs' := hs
 obtain ⟨m, hs⟩ := cache_open hs
 simp only [nn_some', add_bk]
 refine hs.lM 0 rfl rfl ?_
 have g1 : Sat ((L ++ [row b 76 (caC c m)]) ++ [pmA keyE entA .u32 m c.l]) h := Sat.csa hs
 refine pm_len g1 ?_
 intro es cc hl
 refine hs.lI 0 rfl rfl ?_
 rw [hl]
 unfold roomL at hnone hK
 by_cases hlt : (c.l.length : Int) < c.most
 ·rw [if_pos hlt] at hK
  rw [decide_eq_true hlt, cond_true]
  exact hK _ rfl h hs'
 ·rw [if_neg hlt] at hK hnone
  rw [decide_eq_false hlt, cond_false]
  refine n_sorted hs' ho ?_
  intro s h1 g2
  unfold N40_l0
  have sn : s.n = c.l.length := by have := (g2.own 1 rfl).1; simp [uz] at this; exact this.symm
  have hl64 := ho.len
  have hm64 := ho.most
  refine loopP_inv (fun (x : Bool × Int × Int) hc => ∃ (i : Nat) (o : Option NE), x.2.2 = i ∧ i ≤ c.l.length ∧ x.1 = o.isSome ∧ (∀ e, o = some e → x.2.1 = e.ip ∧ e ∈ c.l) ∧ leastK o (c.l.drop i) = leastK none c.l ∧ Sat (L ++ [cacheA b c, Hw.own 39 1 s (uz (c.l.map NE.ip))]) hc) (fun x _ => c.l.length - x.2.2.toNat) ?_ ⟨0, none, rfl, Nat.zero_le _, rfl, fun e he => (by cases he), rfl, g2⟩
  rintro ⟨some', least, x⟩ hc ⟨i, o, hx, hi, ho1, ho2, hr, g3⟩
  simp only at hx ho1 ho2
  subst hx ho1
  unfold N40_l0_B N40_l0_b
  dsimp only
  by_cases hil : i < c.l.length
  ·rw [show decide ((i : Int) < ((s.n : Nat) : Int)) = true from decide_eq_true (by omega), cond_true]
   have hpi : c.l[i]? = some c.l[i] := List.getElem?_eq_getElem hil
   have hdr : c.l.drop i = c.l[i] :: c.l.drop (i + 1) := List.drop_eq_getElem_cons hil
   rw [hdr] at hr
   generalize c.l[i] = e at hpi hr
   refine idx_of (by omega) (by omega) ?_
   simp only [Int.toNat_natCast, Nat.mul_one]
   refine g3.oI 1 rfl (n := e.ip) (by simp [uz, hpi]) ?_
   have g4 : Sat ((L ++ [Hw.own 39 1 s (uz (c.l.map NE.ip))]) ++ [cacheA b c]) hc := Sat.csa (g3.sel [1, 0] (by decide) rfl)
   obtain ⟨m, g5⟩ := cache_open g4
   simp only [nn_some', add_bk]
   refine g5.lM 0 rfl rfl ?_
   have hmem := List.mem_of_getElem? hpi
   have hfe := findK_of (key := keyE) ho.nod hmem rfl
   refine n_get g5 ho (fun hf => by rw [hfe] at hf; cases hf) ?_
   intro e' q hf g6 r hr'
   rw [hfe] at hf; cases hf
   rw [rval_kv hr']
   simp only [Option.getD_some, xP_some]
   have g7 : Sat ((L ++ [Hw.own 39 1 s (uz (c.l.map NE.ip)), row b 76 (caC c m), pmH keyE entA .u32 m c.l e.ip q]) ++ [entA q e]) hc := Sat.mv g6
   have back : ∀ (hd : Hp), hd = hc → Sat (L ++ [cacheA b c, Hw.own 39 1 s (uz (c.l.map NE.ip))]) hd := by
    rintro hd rfl; exact g3
   refine n_known g7 ?_
   have nx : IntKind.wrap .i64 ((i : Int) + 1) = ((i + 1 : Nat) : Int) := nat_succ64 (by omega)
   rw [nx]
   by_cases hk : e.tries = 0
   ·rw [show (e.tries == 0) = true by simp [hk], cond_true]
    cases o with
    | none =>
     simp only [Option.isSome_none, Bool.not_false, cond_true, N40_j1]
     rw [leastK, if_pos hk] at hr
     exact ⟨⟨i + 1, some e, rfl, hil, rfl, fun e2 he2 => by cases he2; exact ⟨rfl, hmem⟩, hr, g3⟩, by simp only [Int.toNat_natCast]; omega⟩
    | some x =>
     simp only [Option.isSome_some, Bool.not_true, cond_false]
     obtain ⟨y1, y2⟩ := ho2 x rfl
     subst y1
     obtain ⟨se, g8⟩ := ent_open g7
     simp only [nn_some', add_bk]
     refine g8.lI 0 rfl rfl ?_
     refine g5.lM 0 rfl rfl ?_
     have hfx := findK_of (key := keyE) ho.nod y2 rfl
     refine n_get g5 ho (fun hf => by rw [hfx] at hf; cases hf) ?_
     intro e' q' hf g6' r hr'
     rw [hfx] at hf; cases hf
     rw [rval_kv hr']
     simp only [Option.getD_some, xP_some, nn_some', add_bk]
     have g7' : Sat ((L ++ [Hw.own 39 1 s (uz (c.l.map NE.ip)), row b 76 (caC c m), pmH keyE entA .u32 m c.l x.ip q']) ++ [entA q' x]) hc := Sat.mv g6'
     obtain ⟨se', g8'⟩ := ent_open g7'
     refine g8'.lI 0 rfl rfl ?_
     unfold N40_j1
     rw [leastK] at hr
     by_cases hlt2 : e.til < x.til
     ·rw [if_pos ⟨hk, hlt2⟩] at hr
      rw [decide_eq_true hlt2, cond_true]
      exact ⟨⟨i + 1, some e, rfl, hil, rfl, fun e2 he2 => by cases he2; exact ⟨rfl, hmem⟩, hr, g3⟩, by simp only [Int.toNat_natCast]; omega⟩
     ·rw [if_neg (fun q => hlt2 q.2)] at hr
      rw [decide_eq_false hlt2, cond_false]
      exact ⟨⟨i + 1, some x, rfl, hil, rfl, fun e2 he2 => by cases he2; exact ⟨rfl, y2⟩, hr, g3⟩, by simp only [Int.toNat_natCast]; omega⟩
   ·rw [show (e.tries == 0) = false by simp [hk], cond_false]
    unfold N40_j1
    rw [cond_false]
    refine ⟨⟨i + 1, o, rfl, hil, rfl, ho2, ?_, g3⟩, by simp only [Int.toNat_natCast]; omega⟩
    rw [← hr]
    cases o with
    | none => rw [leastK, if_neg hk]
    | some x => rw [leastK, if_neg (fun q => hk q.1)]
  ·rw [show decide ((i : Int) < ((s.n : Nat) : Int)) = false from decide_eq_false (by omega), cond_false]
   rw [List.drop_of_length_le (by omega)] at hr
   have hr : o = leastK none c.l := by rw [← hr]; cases o <;> rfl
   have g4 : Sat (L ++ [cacheA b c]) hc := g3.sel [0] (by decide) rfl
   cases o with
   | none =>
    simp only [Option.isSome_none, cond_false]
    rw [← hr] at hnone
    exact hnone rfl hc g4
   | some e =>
    obtain ⟨y1, y2⟩ := ho2 e rfl
    subst y1
    simp only [Option.isSome_some, cond_true]
    rw [← hr] at hK
    obtain ⟨m, g5⟩ := cache_open g4
    refine g5.lM 0 rfl rfl ?_
    have g6 : Sat ((L ++ [row b 76 (caC c m)]) ++ [pmA keyE entA .u32 m c.l]) hc := Sat.csa g5
    refine pm_del g6 ho.nod mu_t mu_k ?_
    intro h2 g7
    have g8 : Sat (L ++ [row b 76 (caC { c with l := delK keyE e.ip c.l } m), pmA keyE entA .u32 m (delK keyE e.ip c.l)]) h2 := Sat.asc g7
    exact hK _ rfl h2 (cache_shut (c := { c with l := delK keyE e.ip c.l }) g8)
theorem n_quest {q : Nat} {e : NE} {K : Int → Int → Int → Int → Int → Int → Int → Sl → Hp → Prop} {m : Nat} (hs : Sat (L ++ [row b 76 (caC c m), entA q e]) h) (ho : c.ok) (hsrc : 0 ≤ e.src ∧ e.src < 4294967296) (hip : 0 ≤ e.ip ∧ e.ip < 4294967296)
  (hK : ∀ s h', Sat (L ++ [row b 76 (caC c m), entA q e, Hw.own 5 1 s (bc (questC c e).data)]) h' → K 255 255 255 255 255 255 2054 s h') : C42 (some (bk b)) e.ip (some (bk q)) h K := by
 apply S42; unfold N42
 have g1 : Sat ((L ++ [row b 76 (caC c m)]) ++ [entA q e]) h := Sat.csa hs
 obtain ⟨s, g2⟩ := ent_open g1
 have g3 : Sat (L ++ [row b 76 (caC c m), row q 88 (entC e s), Hw.own 5 1 s (bc e.pk)]) h := Sat.asc g2
 refine g3.nw ?_
 intro b0 h0 g4 _
 have g4 : Sat (L ++ [row b 76 (caC c m), row q 88 (entC e s), Hw.own 5 1 s (bc e.pk), row b0 59 [.int .u8 0, .int .u8 0, .int .u8 0, .int .u8 0, .int .u8 0, .int .u8 0, .int .i64 0, .slice none 0 0]]) h0 := g4
 simp only [nn_some', add_bk]
 refine g4.lI 0 rfl rfl ?_
 refine g4.lI 0 rfl rfl ?_
 refine g4.lI 0 rfl rfl ?_
 refine g4.lI 0 rfl rfl ?_
 refine g4.lI 0 rfl rfl ?_
 refine g4.lI 0 rfl rfl ?_
 refine g4.lI 1 rfl rfl ?_
 refine c_aask fun h1 he1 => ?_
 have zok : mac0.ok := by unfold M6.ok mac0; decide
 refine c_aenc (op := 1) (s := c.own) (d := mac0) (.inl rfl) ho.own zok hsrc hip fun h2 x hn => ?_
 have g5 := (g4.ext he1).addNew hn
 refine c_every fun h3 he3 => ?_
 have g6 : Sat (L ++ [row b 76 (caC c m), row q 88 (entC e s), Hw.own 5 1 s (bc e.pk), row b0 59 [.int .u8 0, .int .u8 0, .int .u8 0, .int .u8 0, .int .u8 0, .int .u8 0, .int .i64 0, .slice none 0 0], Hw.own 5 1 x (bc (questC c e).data)]) h3 := g5.ext he3
 refine g6.st 3 rfl (by simp) rfl fun h4 g6 => ?_
 refine Sat.st g6 3 rfl (by simp) rfl fun h4 g6 => ?_
 refine Sat.st g6 3 rfl (by simp) rfl fun h4 g6 => ?_
 refine Sat.st g6 3 rfl (by simp) rfl fun h4 g6 => ?_
 refine Sat.st g6 3 rfl (by simp) rfl fun h4 g6 => ?_
 refine Sat.st g6 3 rfl (by simp) rfl fun h4 g6 => ?_
 refine Sat.st g6 3 rfl (by simp) rfl fun h4 g6 => ?_
 refine Sat.st g6 3 rfl (by simp) rfl fun h4 g6 => ?_
 have g7 : Sat (L ++ [row b 76 (caC c m), row q 88 (entC e s), Hw.own 5 1 s (bc e.pk), row b0 59 [.int .u8 255, .int .u8 255, .int .u8 255, .int .u8 255, .int .u8 255, .int .u8 255, .int .i64 2054, .slice x.p x.n x.c], Hw.own 5 1 x (bc (questC c e).data)]) h4 := g6
 refine g7.lI 3 rfl rfl ?_
 refine g7.lI 3 rfl rfl ?_
 refine g7.lI 3 rfl rfl ?_
 refine g7.lI 3 rfl rfl ?_
 refine g7.lI 3 rfl rfl ?_
 refine g7.lI 3 rfl rfl ?_
 refine g7.lI 3 rfl rfl ?_
 refine g7.lL 3 rfl rfl ?_
 refine hK x h4 ?_
 have g8 : Sat ((L ++ [row b 76 (caC c m), Hw.own 5 1 x (bc (questC c e).data)]) ++ [row q 88 (entC e s), Hw.own 5 1 s (bc e.pk)]) h4 := Sat.csa (g7.sel [0, 4, 1, 2] (by decide) rfl)
 exact (Sat.asc (ent_shut g8)).sel [0, 2, 1] (by decide) rfl
theorem n_clear {K : Hp → Prop} (hs : Sat (L ++ [cacheA b c]) h) (hK : ∀ h', Sat (L ++ [cacheA b { c with l := [] }]) h' → K h') : C20 (some (bk b)) h K := by
 apply S20; unfold N20
 obtain ⟨m, hs⟩ := cache_open hs
 simp only [nn_some', add_bk]
 refine hs.lM 0 rfl rfl ?_
 refine pm_clear (Sat.csa hs (A := [row b 76 (caC c m)])) fun h1 g1 => ?_
 exact hK h1 (cache_shut (c := { c with l := [] }) (m := m) (Sat.asc g1))
theorem n_new {L M : List Asn} {h : Hp} {own : M6} {most : Int} {K : Option Addr → Hp → Prop} (hs : Sat (L ++ M) h)
  (hnone : most < 1 ∨ 64 < most → ∀ h', Sat (L ++ M) h' → K none h') (hK : 1 ≤ most ∧ most ≤ 64 → ∀ b h', Sat (L ++ (M ++ [cacheA b ⟨own, most, [], 0⟩])) h' → K (some (bk b)) h') : C7 own.a own.b own.c own.d own.e own.f most h K := by
 apply S7; unfold N7
 have hs0 : Sat ((L ++ M) ++ []) h := by rw [List.append_nil]; exact hs
 refine hs0.nw ?_
 intro b0 h0 g1 _
 simp only [List.nil_append] at g1
 by_cases h1 : most < 1
 ·rw [decide_eq_true h1, cond_true]
  exact hnone (.inl h1) h0 g1.left
 ·rw [decide_eq_false h1, cond_false]
  by_cases h2 : most > 64
  ·rw [decide_eq_true h2, cond_true]
   exact hnone (.inr h2) h0 g1.left
  ·rw [decide_eq_false h2, cond_false]
   have hs := g1
   repeat (first | (refine Sat.st hs 0 rfl (by simp) rfl ?_; intro _ hs; simp only [List.set_cons_zero, List.set_cons_succ] at hs) | (refine Sat.lI hs 0 rfl rfl ?_) | (refine Sat.lL hs 0 rfl rfl ?_) | (refine Sat.lP hs 0 rfl rfl ?_) | (refine Sat.lB hs 0 rfl rfl ?_) | (refine Sat.lS hs 0 rfl rfl ?_) | (refine Sat.lM hs 0 rfl rfl ?_) | (refine Sat.lA hs 0 rfl rfl ?_) | (simp only [nn_some', add_bk]))
   intro b1 e1
   have g2 := g1.newMap .u32 e1
   revert g2
   generalize upd h0 b1 _ = h2
   intro g2
   refine Sat.nw g2 ?_
   intro b2 h3 g3 _
   have g4 : Sat (((L ++ M) ++ [row b2 76 (caC ⟨own, most, [], 0⟩ b1)]) ++ [mapA .u32 b1 []]) h3 := Sat.csa (g3.sel [2, 1] (by decide) rfl)
   have g5 := pm_mk (key := keyE) (obj := entA) g4
   have g6 := cache_shut (c := ⟨own, most, [], 0⟩) (Sat.asc g5)
   exact hK (by omega) b2 h3 (Sat.asc g6)
end
end Go.Proofs.Ytkfccpabigikkaa

/-
 The cache: Next, Look; rows of what is to be sent.
-/
set_option linter.unusedSimpArgs false
set_option linter.unusedVariables false
set_option maxRecDepth 4000
namespace Go.Proofs.Ytkfccpabigikkaa
open Go Go.Hw
theorem star_get {α : Type} {L : List Asn} {E : List α} {obj : α → Asn} {h : Hp} {e : α} (hs : Sat (L ++ [star (E.map obj)]) h) (he : e ∈ E) : ∃ L', Sat (L' ++ [obj e]) h := by
 obtain ⟨j, hj, rfl⟩ := List.getElem_of_mem he
 have := hs.out j (A := obj E[j]) (by rw [List.getElem?_map, List.getElem?_eq_getElem hj]; rfl)
 exact ⟨_, Sat.csa this (A := [_]) (B := [_])⟩
def NextIs (l : List NE) (n : Int) (b : Bool) : Prop := (l = [] ∧ n = 0 ∧ b = false) ∨ (b = true ∧ (∃ e ∈ l, e.til = n) ∧ ∀ e ∈ l, n ≤ e.til)
theorem NextIs.one {l : List NE} {n m : Int} {b d : Bool} (h1 : NextIs l n b) (h2 : NextIs l m d) : n = m ∧ b = d := by
 rcases h1 with ⟨a1, a2, a3⟩ | ⟨a1, ⟨e, he, ae⟩, a3⟩
 ·rcases h2 with ⟨b1, b2, b3⟩ | ⟨b1, ⟨e', he', be⟩, b3⟩
  ·exact ⟨a2.trans b2.symm, a3.trans b3.symm⟩
  ·rw [a1] at he'; cases he'
 ·rcases h2 with ⟨b1, b2, b3⟩ | ⟨b1, ⟨e', he', be⟩, b3⟩
  ·rw [b1] at he; cases he
  ·have := a3 e' he'; have := b3 e he; exact ⟨by omega, a1.trans b1.symm⟩
section
variable {L : List Asn} {b : Nat} {c : Ca} {h : Hp}
theorem n_next {K : Int → Bool → Hp → Prop} (hs : Sat (L ++ [cacheA b c]) h) (ho : c.ok) (hK : ∀ n x h', NextIs c.l n x → Sat (L ++ [cacheA b c]) h' → K n x h') : C22 (some (bk b)) h K := by
 apply S22; unfold N22
 obtain ⟨m, hs⟩ := cache_open hs
 simp only [nn_some', add_bk]
 refine hs.lM 0 rfl rfl ?_
 have g1 : Sat ((L ++ [row b 76 (caC c m)]) ++ [pmA keyE entA .u32 m c.l]) h := Sat.csa hs
 obtain ⟨E, g2, hp⟩ := pm_open g1
 have g3 : Sat ((L ++ [row b 76 (caC c m), star (E.map fun e => entA e.1 e.2)]) ++ [mapA .u32 m (kvs keyE E)]) h := Sat.csa ((Sat.asc g2).sel [0, 2, 1] (by decide) rfl)
 refine g3.rgM ?_
 intro w h1 g4
 unfold N22_l0
 have hnE := (NodK.perm hp).2 ho.nod
 have one : ∀ e ∈ E, ∀ e' ∈ E, e.2.ip = e'.2.ip → e = e' := by
  intro e he e' he' q
  have hnE' : E.Pairwise fun a b => a.2.ip ≠ b.2.ip := (List.pairwise_map (R := fun a b : NE => keyE a ≠ keyE b)).1 hnE
  obtain ⟨i, hi, rfl⟩ := List.getElem_of_mem he
  obtain ⟨k, hk, rfl⟩ := List.getElem_of_mem he'
  rcases Nat.lt_trichotomy i k with hlt | rfl | hlt
  ·exact absurd q (List.pairwise_iff_getElem.1 hnE' i k hi hk hlt)
  ·rfl
  ·exact absurd q.symm (List.pairwise_iff_getElem.1 hnE' k i hk hi hlt)
 refine loopP_ghost (fun (x : Int × Bool) hc (ks : KV) => Sat ((L ++ [row b 76 (caC c m), star (E.map fun e => entA e.1 e.2)]) ++ [walkA .u32 m w (kvs keyE E) ks]) hc ∧ ((ks = [] ∧ x = (0, false)) ∨ (x.2 = true ∧ (∃ e ∈ E, e.2.til = x.1) ∧ ∀ k ∈ ks, ∀ e ∈ E, e.2.ip = k.1 → x.1 ≤ e.2.til))) (fun ks => E.length - ks.length) ?_ [] ⟨g4, .inl ⟨rfl, rfl⟩⟩
 rintro ⟨least, sm⟩ hc ks ⟨g5, hx⟩
 unfold N22_l0_B N22_l0_b
 have kvl : (kvs keyE E).length = E.length := by simp [kvs]
 have fin : ∀ {hd : Hp} {ks : KV}, Sat ((L ++ [row b 76 (caC c m), star (E.map fun e => entA e.1 e.2)]) ++ [walkA .u32 m w (kvs keyE E) ks]) hd → Sat (L ++ [cacheA b c]) hd := by
  intro hd ks g
  have g8 := g.endM
  have g9 : Sat ((L ++ [row b 76 (caC c m)]) ++ [mapA .u32 m (kvs keyE E), star (E.map fun e => entA e.1 e.2)]) hd := Sat.csa ((Sat.asc g8).sel [0, 2, 1] (by decide) rfl)
  exact cache_shut (Sat.asc (pm_shut g9 hp))
 dsimp only
 refine g5.nxM ?_ ?_
 ·intro hk
  simp only [cond_false]
  refine hK _ _ _ ?_ (fin g5)
  rcases hx with ⟨hk0, hx⟩ | ⟨h1, ⟨e, he, h2⟩, h4⟩
  ·subst hk0
   cases hx
   have : E = [] := by have := hk.length_eq; rw [kvl] at this; exact List.length_eq_zero_iff.1 this.symm
   subst this
   exact .inl ⟨by have := hp.length_eq; exact List.length_eq_zero_iff.1 this.symm, rfl, rfl⟩
  ·refine .inr ⟨h1, ⟨e.2, hp.mem_iff.1 (List.mem_map.2 ⟨e, he, rfl⟩), h2⟩, ?_⟩
   intro e' he'
   obtain ⟨e2, he2, rfl⟩ := List.mem_map.1 (hp.mem_iff.2 he')
   have hm : (keyE e2.2, Value.pointer (some (bk e2.1))) ∈ ks := hk.mem_iff.2 (List.mem_map.2 ⟨e2, he2, rfl⟩)
   exact h4 _ hm e2 he2 rfl
 ·intro k v h2 hkv hlt g6
  simp only [cond_true]
  refine g6.enM ?_
  obtain ⟨e, he, hev⟩ := List.mem_map.1 hkv
  cases hev
  simp only [xP_some]
  have g7 : Sat ((L ++ [row b 76 (caC c m), walkA .u32 m w (kvs keyE E) (ks ++ [(keyE e.2, .pointer (some (bk e.1)))])]) ++ [star (E.map fun e => entA e.1 e.2)]) h2 := Sat.csa ((Sat.asc g6).sel [0, 2, 1] (by decide) rfl)
  obtain ⟨L', g8⟩ := star_get g7 he
  obtain ⟨s, g9⟩ := ent_open g8
  have step : ∀ {x : Int × Bool}, x.2 = true → (∃ e ∈ E, e.2.til = x.1) → (∀ k ∈ ks, ∀ e ∈ E, e.2.ip = k.1 → x.1 ≤ e.2.til) → x.1 ≤ e.2.til → ∃ g', (Sat ((L ++ [row b 76 (caC c m), star (E.map fun e => entA e.1 e.2)]) ++ [walkA .u32 m w (kvs keyE E) g']) h2 ∧ ((g' = [] ∧ x = (0, false)) ∨ (x.2 = true ∧ (∃ e ∈ E, e.2.til = x.1) ∧ ∀ k ∈ g', ∀ e ∈ E, e.2.ip = k.1 → x.1 ≤ e.2.til))) ∧ E.length - g'.length < E.length - ks.length := by
   intro x q1 q2 q3 q4
   refine ⟨_, ⟨g6, .inr ⟨q1, q2, ?_⟩⟩, by simp; omega⟩
   intro k hk e' he' hq
   rcases List.mem_append.1 hk with hk | hk
   ·exact q3 k hk e' he' hq
   ·simp only [List.mem_singleton] at hk
    subst hk
    have := one e he e' he' hq.symm
    rw [← this]; exact q4
  unfold N22_j1
  cases hsm : sm with
  | false =>
   rw [Bool.not_false, cond_true, cond_true, nn_some', add_bk]
   refine g9.lI 0 rfl rfl ?_
   have hk0 : ks = [] := by
    rcases hx with ⟨hk0, hx⟩ | ⟨h1, _⟩
    ·exact hk0
    ·rw [hsm] at h1; cases h1
   refine step (x := (e.2.til, true)) rfl ⟨e, he, rfl⟩ (by rw [hk0]; intro k hk; cases hk) (Int.le_refl _)
  | true =>
   rw [Bool.not_true, cond_false, nn_some', add_bk]
   refine g9.lI 0 rfl rfl ?_
   rcases hx with ⟨hk0, hx⟩ | ⟨h1, h2', h4⟩
   ·cases hx; cases hsm
   ·by_cases hlt2 : e.2.til < least
    ·rw [decide_eq_true hlt2, cond_true, nn_some', add_bk]
     refine g9.lI 0 rfl rfl ?_
     refine step (x := (e.2.til, true)) rfl ⟨e, he, rfl⟩ (fun k hk e' he' hq => ?_) (Int.le_refl _)
     have := h4 k hk e' he' hq
     simp only at this ⊢; omega
    ·rw [decide_eq_false hlt2, cond_false]
     exact step (x := (least, true)) rfl h2' h4 (by simp only; omega)
def nbC (e : NE) : List Value := [.int .u32 e.ip, .int .u8 e.mac.a, .int .u8 e.mac.b, .int .u8 e.mac.c, .int .u8 e.mac.d, .int .u8 e.mac.e, .int .u8 e.mac.f, .int .i64 (if e.tries = 0 then 2 else 1), .int .i64 e.til, .int .i64 e.tries, .bool (decide (e.tries ≠ 0))]
def nbs (l : List NE) : List Value := l.flatMap nbC
theorem nbs_len (l : List NE) : (nbs l).length = l.length * 11 := by
 induction l with
 | nil => rfl
 | cons x l ih => show (nbC x ++ nbs l).length = _; rw [List.length_append, ih]; simp [nbC]; omega
theorem nbC_plain {e : NE} : ∀ v ∈ nbC e, plain v = true := by
 intro v hv
 simp only [nbC, List.mem_cons, List.not_mem_nil, or_false] at hv
 rcases hv with rfl | rfl | rfl | rfl | rfl | rfl | rfl | rfl | rfl | rfl | rfl <;> rfl
theorem n_look {K : Sl → Hp → Prop} (hs : Sat (L ++ [cacheA b c]) h) (ho : c.ok) (hK : ∀ s h', Sat (L ++ [cacheA b c, Hw.own 68 11 s (nbs c.l)]) h' → K s h') : C21 (some (bk b)) h K := by
 apply S21; unfold N21
 refine n_sorted hs ho ?_
 intro s0 h1 g1
 have hs1 := g1.addNil 68 11
 have sn : s0.n = c.l.length := by have := (g1.own 1 rfl).1; simp [uz] at this; exact this.symm
 have hl64 := ho.len
 have hm64 := ho.most
 unfold N21_l0
 refine loopP_inv (fun (x : Sl × Int) hc => ∃ i : Nat, x.2 = i ∧ i ≤ c.l.length ∧ Sat (L ++ [cacheA b c, Hw.own 39 1 s0 (uz (c.l.map NE.ip)), Hw.own 68 11 x.1 (nbs (c.l.take i))]) hc) (fun x _ => c.l.length - x.2.toNat) ?_ ⟨0, rfl, Nat.zero_le _, hs1⟩
 rintro ⟨acc, x⟩ hc ⟨i, hx, hi, g2⟩
 simp only at hx g2
 subst hx
 unfold N21_l0_B N21_l0_b
 dsimp only
 by_cases hil : i < c.l.length
 ·rw [show decide ((i : Int) < ((s0.n : Nat) : Int)) = true from decide_eq_true (by omega), cond_true]
  have hpi : c.l[i]? = some c.l[i] := List.getElem?_eq_getElem hil
  have htk : c.l.take (i + 1) = c.l.take i ++ [c.l[i]] := List.take_succ_eq_append_getElem hil
  generalize c.l[i] = e at hpi htk
  refine idx_of (by omega) (by omega) ?_
  simp only [Int.toNat_natCast, Nat.mul_one]
  refine g2.oI 1 rfl (n := e.ip) (by simp [uz, hpi]) ?_
  have g4 : Sat ((L ++ [Hw.own 39 1 s0 (uz (c.l.map NE.ip)), Hw.own 68 11 acc (nbs (c.l.take i))]) ++ [cacheA b c]) hc := Sat.csa (g2.sel [1, 2, 0] (by decide) rfl)
  obtain ⟨m, g5⟩ := cache_open g4
  simp only [nn_some', add_bk]
  refine g5.lM 0 rfl rfl ?_
  have hmem := List.mem_of_getElem? hpi
  have hok := ho.all e hmem
  have hfe := findK_of (key := keyE) ho.nod hmem rfl
  refine n_get g5 ho (fun hf => by rw [hfe] at hf; cases hf) ?_
  intro e' q hf g6 r hr'
  rw [hfe] at hf; cases hf
  rw [rval_kv hr']
  simp only [Option.getD_some, xP_some, nn_some', add_bk]
  have g7 : Sat ((L ++ [Hw.own 39 1 s0 (uz (c.l.map NE.ip)), Hw.own 68 11 acc (nbs (c.l.take i)), row b 76 (caC c m), pmH keyE entA .u32 m c.l e.ip q]) ++ [entA q e]) hc := Sat.mv g6
  obtain ⟨se, g8⟩ := ent_open g7
  refine g8.lI 0 rfl rfl ?_
  refine g8.lI 0 rfl rfl ?_
  refine g8.lI 0 rfl rfl ?_
  refine g8.lI 0 rfl rfl ?_
  refine g8.lI 0 rfl rfl ?_
  refine g8.lI 0 rfl rfl ?_
  refine g8.lI 0 rfl rfl ?_
  refine g8.nw ?_
  intro b0 h2 g9 _
  have g9 : Sat ((L ++ [Hw.own 39 1 s0 (uz (c.l.map NE.ip)), Hw.own 68 11 acc (nbs (c.l.take i)), row b 76 (caC c m), pmH keyE entA .u32 m c.l e.ip q]) ++ [row q 88 (entC e se), Hw.own 5 1 se (bc e.pk), row b0 68 [.int .u32 0, .int .u8 0, .int .u8 0, .int .u8 0, .int .u8 0, .int .u8 0, .int .u8 0, .int .i64 0, .int .i64 0, .int .i64 0, .bool false]]) h2 := g9
  refine ⟨g9.lI 0 rfl rfl ⟨rfl, rfl⟩, g9.lI 0 rfl rfl (g9.lI 0 rfl rfl (g9.lI 0 rfl rfl (g9.lI 0 rfl rfl (g9.lI 0 rfl rfl (g9.lI 0 rfl rfl ⟨rfl, rfl⟩))))), ?_⟩
  have fin : ∀ (h3 : Hp), Sat ((L ++ [Hw.own 39 1 s0 (uz (c.l.map NE.ip)), Hw.own 68 11 acc (nbs (c.l.take i)), row b 76 (caC c m), pmH keyE entA .u32 m c.l e.ip q]) ++ [row q 88 (entC e se), Hw.own 5 1 se (bc e.pk), row b0 68 (nbC e)]) h3 →
    N21_j1 (some (bk b)) acc (some (bk b0)) s0 ((s0.n : Nat) : Int) (i : Int) h3 (fun s4 h24 => (∃ k : Nat, IntKind.wrap .i64 ((i : Int) + 1) = k ∧ k ≤ c.l.length ∧ Sat (L ++ [cacheA b c, Hw.own 39 1 s0 (uz (c.l.map NE.ip)), Hw.own 68 11 s4 (nbs (c.l.take k))]) h24) ∧ c.l.length - (IntKind.wrap .i64 ((i : Int) + 1)).toNat < c.l.length - ((i : Nat) : Int).toNat) := by
   intro h3 g10
   unfold N21_j1
   simp only [nn_some', add_bk]
   have hs := g10
   repeat (first | (refine Sat.st hs 0 rfl (by simp) rfl ?_; intro _ hs; simp only [List.set_cons_zero, List.set_cons_succ] at hs) | (refine Sat.st hs 1 rfl (by simp) rfl ?_; intro _ hs; simp only [List.set_cons_zero, List.set_cons_succ] at hs) | (refine Sat.st hs 2 rfl (by simp) rfl ?_; intro _ hs; simp only [List.set_cons_zero, List.set_cons_succ] at hs) | (refine Sat.lI hs 0 rfl rfl ?_) | (refine Sat.lI hs 1 rfl rfl ?_) | (refine Sat.lI hs 2 rfl rfl ?_) | (refine Sat.lL hs 0 rfl rfl ?_) | (refine Sat.lL hs 1 rfl rfl ?_) | (refine Sat.lL hs 2 rfl rfl ?_) | (refine Sat.lP hs 0 rfl rfl ?_) | (refine Sat.lP hs 1 rfl rfl ?_) | (refine Sat.lP hs 2 rfl rfl ?_) | (refine Sat.lB hs 0 rfl rfl ?_) | (refine Sat.lB hs 1 rfl rfl ?_) | (refine Sat.lB hs 2 rfl rfl ?_) | (refine Sat.lS hs 0 rfl rfl ?_) | (refine Sat.lS hs 1 rfl rfl ?_) | (refine Sat.lS hs 2 rfl rfl ?_) | (refine Sat.lM hs 0 rfl rfl ?_) | (refine Sat.lM hs 1 rfl rfl ?_) | (refine Sat.lM hs 2 rfl rfl ?_) | (refine Sat.lA hs 0 rfl rfl ?_) | (refine Sat.lA hs 1 rfl rfl ?_) | (refine Sat.lA hs 2 rfl rfl ?_) | (simp only [nn_some', add_bk]))
   have g11 : Sat ((L ++ [Hw.own 39 1 s0 (uz (c.l.map NE.ip)), Hw.own 68 11 acc (nbs (c.l.take i)), row b 76 (caC c m), pmH keyE entA .u32 m c.l e.ip q]) ++ [row q 88 (entC e se), Hw.own 5 1 se (bc e.pk)]) h3 := g10.sel [0, 1] (by decide) rfl
   have g12 : Sat ((L ++ [Hw.own 39 1 s0 (uz (c.l.map NE.ip)), Hw.own 68 11 acc (nbs (c.l.take i))]) ++ [row b 76 (caC c m), pmH keyE entA .u32 m c.l e.ip q, entA q e]) h3 := Sat.mv (ent_shut g11)
   have g13 := cache_shut (n_back g12 ho.nod hfe)
   have g14 : Sat (L ++ [cacheA b c, Hw.own 39 1 s0 (uz (c.l.map NE.ip)), Hw.own 68 11 acc (nbs (c.l.take i))]) h3 := (Sat.asc g13).sel [2, 0, 1] (by decide) rfl
   have an : acc.n = i := by have := (g14.own 2 rfl).1; rw [nbs_len, List.length_take] at this; omega
   refine g14.push 2 rfl (k := 1) (ns := nbC e) nt_a nt_z rfl nbC_plain (by have := nt_b; rw [an]; have : (i + 1) * 2 * Try.prog.bytesOf 68 ≤ (i + 1) * 2 * 64 := Nat.mul_le_mul_left _ nt_b; omega) ?_
   intro acc' h4 g15 _
   rw [nat_succ64 (by omega)]
   refine ⟨⟨i + 1, rfl, hil, ?_⟩, by simp only [Int.toNat_natCast]; omega⟩
   rw [htk]
   have es : nbs (c.l.take i ++ [e]) = nbs (c.l.take i) ++ nbC e := by simp [nbs]
   rw [es]
   exact g15
  refine g9.st 2 rfl (by simp) rfl fun h3 g9 => ?_
  refine Sat.st g9 2 rfl (by simp) rfl fun h3 g9 => ?_
  refine Sat.st g9 2 rfl (by simp) rfl fun h3 g9 => ?_
  refine Sat.st g9 2 rfl (by simp) rfl fun h3 g9 => ?_
  refine Sat.st g9 2 rfl (by simp) rfl fun h3 g9 => ?_
  refine Sat.st g9 2 rfl (by simp) rfl fun h3 g9 => ?_
  refine Sat.st g9 2 rfl (by simp) rfl fun h3 g9 => ?_
  refine Sat.st g9 2 rfl (by simp) rfl fun h3 g9 => ?_
  refine Sat.st g9 2 rfl (by simp) rfl fun h3 g9 => ?_
  refine Sat.st g9 2 rfl (by simp) rfl fun h3 g9 => ?_
  refine Sat.st g9 2 rfl (by simp) rfl fun h3 g9 => ?_
  have g10 : Sat ((L ++ [Hw.own 39 1 s0 (uz (c.l.map NE.ip)), Hw.own 68 11 acc (nbs (c.l.take i)), row b 76 (caC c m), pmH keyE entA .u32 m c.l e.ip q]) ++ [row q 88 (entC e se), Hw.own 5 1 se (bc e.pk), row b0 68 [.int .u32 e.ip, .int .u8 e.mac.a, .int .u8 e.mac.b, .int .u8 e.mac.c, .int .u8 e.mac.d, .int .u8 e.mac.e, .int .u8 e.mac.f, .int .i64 2, .int .i64 e.til, .int .i64 0, .bool false]]) h3 := g9
  have g11 : Sat ((L ++ [Hw.own 39 1 s0 (uz (c.l.map NE.ip)), Hw.own 68 11 acc (nbs (c.l.take i)), row b 76 (caC c m), pmH keyE entA .u32 m c.l e.ip q, row b0 68 [.int .u32 e.ip, .int .u8 e.mac.a, .int .u8 e.mac.b, .int .u8 e.mac.c, .int .u8 e.mac.d, .int .u8 e.mac.e, .int .u8 e.mac.f, .int .i64 2, .int .i64 e.til, .int .i64 0, .bool false]]) ++ [row q 88 (entC e se), Hw.own 5 1 se (bc e.pk)]) h3 := (Sat.asc g10).part [0, 1, 2, 3, 6, 4, 5] (by decide) rfl
  refine n_known (ent_shut g11) ?_
  by_cases hk : e.tries = 0
  ·rw [show (e.tries == 0) = true by simp [hk], Bool.not_true, cond_false]
   refine fin h3 ?_
   have : nbC e = [.int .u32 e.ip, .int .u8 e.mac.a, .int .u8 e.mac.b, .int .u8 e.mac.c, .int .u8 e.mac.d, .int .u8 e.mac.e, .int .u8 e.mac.f, .int .i64 2, .int .i64 e.til, .int .i64 0, .bool false] := by unfold nbC; rw [if_pos hk, hk]; rfl
   rw [this]; exact g10
  ·rw [show (e.tries == 0) = false by simp [hk], Bool.not_false, cond_true]
   refine g10.lI 0 rfl rfl ?_
   refine g10.lI 0 rfl rfl ?_
   refine g10.st 2 rfl (by simp) rfl fun h3 g9 => ?_
   refine Sat.st g9 2 rfl (by simp) rfl fun h3 g9 => ?_
   refine Sat.st g9 2 rfl (by simp) rfl fun h3 g9 => ?_
   refine Sat.st g9 2 rfl (by simp) rfl fun h3 g9 => ?_
   refine Sat.st g9 2 rfl (by simp) rfl fun h3 g9 => ?_
   refine Sat.st g9 2 rfl (by simp) rfl fun h3 g9 => ?_
   refine Sat.st g9 2 rfl (by simp) rfl fun h3 g9 => ?_
   refine Sat.st g9 2 rfl (by simp) rfl fun h3 g9 => ?_
   refine Sat.st g9 2 rfl (by simp) rfl fun h3 g9 => ?_
   refine Sat.st g9 2 rfl (by simp) rfl fun h3 g9 => ?_
   refine Sat.st g9 2 rfl (by simp) rfl fun h3 g9 => ?_
   refine fin h3 ?_
   have : nbC e = [.int .u32 e.ip, .int .u8 0, .int .u8 0, .int .u8 0, .int .u8 0, .int .u8 0, .int .u8 0, .int .i64 1, .int .i64 e.til, .int .i64 e.tries, .bool true] := by unfold nbC; rw [if_neg hk, decide_eq_true hk, hok.asked hk]; rfl
   rw [this]; exact g9
 ·rw [show decide ((i : Int) < ((s0.n : Nat) : Int)) = false from decide_eq_false (by omega), cond_false]
  have : i = c.l.length := by omega
  subst this
  rw [List.take_length] at g2
  exact hK _ _ (g2.sel [0, 2] (by decide) rfl)
end
end Go.Proofs.Ytkfccpabigikkaa

set_option linter.unusedVariables false
set_option maxRecDepth 100000
namespace Go.Proofs.Ytkfccpabigikkaa
open Go Go.Hw
noncomputable def B12 : Code := match Try.f12.body with | some c => c | none => .skip
def N12_j1 (x0 : Option Addr) (x1 x2 : Int) (x3 : Sl) (x11 : Option Addr) (x38 : Bool) (h : Hp) (Kn : Hp → Prop) (Kr : Sl → Hp → Prop) : Prop :=
 bif x38 then
 nn x11 fun a0 =>
 xI .u8 (cell h a0) fun n0 =>
 xI .u8 (cell h (a0.add 1)) fun n1 =>
 xI .u8 (cell h (a0.add 2)) fun n2 =>
 xI .u8 (cell h (a0.add 3)) fun n3 =>
 xI .u8 (cell h (a0.add 4)) fun n4 =>
 xI .u8 (cell h (a0.add 5)) fun n5 =>
 C39 x3 h fun s0 h0 =>
 both (xI .u8 (cell h0 a0) fun n6 => xI .u8 (cell h0 (a0.add 1)) fun n7 => xI .u8 (cell h0 (a0.add 2)) fun n8 => xI .u8 (cell h0 (a0.add 3)) fun n9 => xI .u8 (cell h0 (a0.add 4)) fun n10 => xI .u8 (cell h0 (a0.add 5)) fun n11 => Only (.agg ⟨[.int .u8 n0, .int .u8 n1, .int .u8 n2, .int .u8 n3, .int .u8 n4, .int .u8 n5]⟩) h0 (.agg ⟨[.int .u8 n6, .int .u8 n7, .int .u8 n8, .int .u8 n9, .int .u8 n10, .int .u8 n11]⟩) h0) <|
 nw h0 (.cells ⟨[.int .u8 n0, .int .u8 n1, .int .u8 n2, .int .u8 n3, .int .u8 n4, .int .u8 n5, .int .i64 2048, .slice s0.p s0.n s0.c]⟩ 59) fun b0 h1 =>
 Kr ⟨some (bk b0), 1, 1⟩ h1
 else
 Kn h
noncomputable def N12_j1_t : Xf := pieceT [(0, .c (.ptr)), (1, .c (.int .u32)), (2, .c (.int .u32)), (3, .c (.slice)), (11, .c (.ptr)), (38, .c (.bool))] (codeAt B12 [1, 1, 1, 0, 0, 1, 1, 1]) fun x h Q => N12_j1 x.1 x.2.1 x.2.2.1 x.2.2.2.1 x.2.2.2.2.1 x.2.2.2.2.2 h (fun h' => Q .normal (Sg.env [] ()) h') (fun o0 h' => Q .ret (Sg.env [(10, .c (.slice))] o0) h')
theorem N12_j1_ok : Sound Try.prog Try.f12.ntmps N12_j1_t (codeAt B12 [1, 1, 1, 0, 0, 1, 1, 1]) := by
 refine piece_sound (fun e => match e with | .normal => [] | .ret => [10] | _ => []) ?_
 intro x h Q hb
 refine den_sound hE hm _ (.two (.two (.ord [0, 1, 2, 3, 4, 5, 6, 7, 8]) .leaf) .leaf) _ _ _ (⟨⟨trivial, annOk_leaf⟩, annOk_leaf⟩) ?_
 refine cast ?_ hb
 kernel_rfl
def N12_j0 (x0 : Option Addr) (x1 x2 : Int) (x3 : Sl) (x11 : Option Addr) (x21 : Bool) (h : Hp) (Kn : Hp → Prop) (Kr : Sl → Hp → Prop) : Prop :=
 bif x21 then
 C39 x3 h fun s0 h0 =>
 nn x11 fun a0 =>
 st h0 (a0.add 8) (.int .u32 x1) fun h1 =>
 nn x11 fun a1 =>
 st h1 (a1.add 9) (.slice s0.p s0.n s0.c) fun h2 =>
 Kr ⟨none, 0, 0⟩ h2
 else
 peq h x11 none fun b0 =>
 bif (!b0) then
 nn x0 fun a2 =>
 xI .i64 (cell h (a2.add 8)) fun n0 =>
 nn x11 fun a3 =>
 xI .i64 (cell h (a3.add 6)) fun n1 =>
 N12_j1 x0 x1 x2 x3 x11 (decide (n0 < n1)) h
 (fun h3 =>
 Kn h3)
 (fun s1 h4 =>
 Kr s1 h4)
 else
 N12_j1 x0 x1 x2 x3 x11 false h
 (fun h5 =>
 Kn h5)
 (fun s2 h6 =>
 Kr s2 h6)
noncomputable def N12_j0_t : Xf := pieceT [(0, .c (.ptr)), (1, .c (.int .u32)), (2, .c (.int .u32)), (3, .c (.slice)), (11, .c (.ptr)), (21, .c (.bool))] (codeAt B12 [1, 1, 1, 0, 0, 1]) fun x h Q => N12_j0 x.1 x.2.1 x.2.2.1 x.2.2.2.1 x.2.2.2.2.1 x.2.2.2.2.2 h (fun h' => Q .normal (Sg.env [] ()) h') (fun o0 h' => Q .ret (Sg.env [(10, .c (.slice))] o0) h')
theorem N12_j0_ok : Sound Try.prog Try.f12.ntmps N12_j0_t (codeAt B12 [1, 1, 1, 0, 0, 1]) := by
 refine piece_sound (fun e => match e with | .normal => [] | .ret => [10] | _ => []) ?_
 intro x h Q hb
 refine den_sound hE hm _ (.two .leaf (.two (.ord [0, 1, 2, 3, 4, 5, 6, 7, 8, 9, 10, 11, 12, 13]) (.xf N12_j1_t))) _ _ _ (⟨annOk_leaf, ⟨trivial, N12_j1_ok⟩⟩) ?_
 refine cast ?_ hb
 kernel_rfl
def N12_j2 (x0 : Option Addr) (x1 x2 : Int) (x3 : Sl) (h : Hp) (Kr : Sl → Hp → Prop) : Prop :=
 nn x0 fun a0 =>
 xM (cell h (a0.add 7)) fun m0 =>
 mdK Try.prog 74 (.map m0) (.int .u32 x2) h fun h0 =>
 C40 x0 h0 fun b0 h1 =>
 bif (!b0) then
 Kr ⟨none, 0, 0⟩ h1
 else
 C41 x0 10 h1 fun n0 h2 =>
 C39 x3 h2 fun s0 h3 =>
 nw h3 (.cells ⟨[.int .u8 0, .int .u8 0, .int .u8 0, .int .u8 0, .int .u8 0, .int .u8 0, .int .i64 n0, .int .i64 1, .int .u32 x1, .slice s0.p s0.n s0.c]⟩ 88) fun b1 h4 =>
 nn x0 fun a1 =>
 xM (cell h4 (a1.add 7)) fun m1 =>
 muK Try.prog 74 (.map m1) (.int .u32 x2) (.pointer (some (bk b1))) h4 fun h5 =>
 C42 x0 x2 (some (bk b1)) h5 fun n1 n2 n3 n4 n5 n6 n7 s1 h6 =>
 nw h6 (.cells ⟨[.int .u8 n1, .int .u8 n2, .int .u8 n3, .int .u8 n4, .int .u8 n5, .int .u8 n6, .int .i64 n7, .slice s1.p s1.n s1.c]⟩ 59) fun b2 h7 =>
 Kr ⟨some (bk b2), 1, 1⟩ h7
noncomputable def N12_j2_t : Xf := pieceT [(0, .c (.ptr)), (1, .c (.int .u32)), (2, .c (.int .u32)), (3, .c (.slice))] (codeAt B12 [1, 1, 1, 1]) fun x h Q => N12_j2 x.1 x.2.1 x.2.2.1 x.2.2.2 h (fun o0 h' => Q .ret (Sg.env [(10, .c (.slice))] o0) h')
theorem N12_j2_ok : Sound Try.prog Try.f12.ntmps N12_j2_t (codeAt B12 [1, 1, 1, 1]) := by
 refine piece_sound (fun e => match e with | .ret => [10] | _ => []) ?_
 intro x h Q hb
 refine den_sound hE hm _ .leaf _ _ _ (annOk_leaf) ?_
 refine cast ?_ hb
 kernel_rfl
def N12 (x0 : Option Addr) (x1 x2 : Int) (x3 : Sl) (x4 : Int) (h : Hp) (K : Sl → Hp → Prop) : Prop :=
 C37 x0 x4 h fun h0 =>
 nn x0 fun a0 =>
 xM (cell h0 (a0.add 7)) fun m0 =>
 xMap h0 m0 fun es0 _ =>
 keyAt (.int .u32) (.int .u32 x2) es0 fun r0 =>
 xP (some (rval r0 (.pointer none))) fun p0 =>
 peq h0 p0 none fun b0 =>
 bif (!b0) then
 C38 p0 h0 fun b1 h1 =>
 N12_j0 x0 x1 x2 x3 p0 (!b1) h1
 (fun h2 =>
 N12_j2 x0 x1 x2 x3 h2
 (fun s0 h3 =>
 K s0 h3))
 (fun s1 h4 =>
 K s1 h4)
 else
 N12_j0 x0 x1 x2 x3 p0 false h0
 (fun h5 =>
 N12_j2 x0 x1 x2 x3 h5
 (fun s2 h6 =>
 K s2 h6))
 (fun s3 h7 =>
 K s3 h7)
theorem S12 {x0 : Option Addr} {x1 x2 : Int} {x3 : Sl} {x4 : Int} {h : Hp} {K : Sl → Hp → Prop} (hn : N12 x0 x1 x2 x3 x4 h K) : C12 x0 x1 x2 x3 x4 h K := by
 refine calls_of_D Try.func12 (c := B12) rfl (by kernel_rfl) ?_
 refine den_sound hE hm _ (.two .leaf (.two .leaf (.two .leaf (.two (.one (.two .leaf (.xf N12_j0_t))) (.xf N12_j2_t))))) _ _ _ (⟨annOk_leaf, ⟨annOk_leaf, ⟨annOk_leaf, ⟨⟨annOk_leaf, N12_j0_ok⟩, N12_j2_ok⟩⟩⟩⟩) ?_
 refine cast ?_ hn
 kernel_rfl
end Go.Proofs.Ytkfccpabigikkaa

set_option linter.unusedVariables false
set_option maxRecDepth 100000
namespace Go.Proofs.Ytkfccpabigikkaa
open Go Go.Hw
noncomputable def B48 : Code := match Try.f48.body with | some c => c | none => .skip
def N48_j0 (x0 : Option Addr) (x2 : Bool) (x4 x7 : Option Addr) (x8 : Sl) (x16 : Bool) (h : Hp) (Kn Kr : Sl → Hp → Prop) : Prop :=
 bif x16 then
 nn x4 fun a0 =>
 xI .u8 (cell h (a0.add 1)) fun n0 =>
 xI .u8 (cell h (a0.add 2)) fun n1 =>
 xI .u8 (cell h (a0.add 3)) fun n2 =>
 xI .u8 (cell h (a0.add 4)) fun n3 =>
 xI .u8 (cell h (a0.add 5)) fun n4 =>
 xI .u8 (cell h (a0.add 6)) fun n5 =>
 nn x7 fun a1 =>
 xL (cell h (a1.add 9)) fun s0 =>
 nw h (.cells ⟨[.int .u8 n0, .int .u8 n1, .int .u8 n2, .int .u8 n3, .int .u8 n4, .int .u8 n5, .int .i64 2048, .slice s0.p s0.n s0.c]⟩ 59) fun b0 h0 =>
 apK Try.prog 59 x8 (.slice (some (bk b0)) 1 1) h0 fun s1 h1 =>
 Kn s1 h1
 else
 peq h x7 none fun b1 =>
 bif b1 then
 bif (!x2) then
 Kr ⟨none, 0, 0⟩ h
 else
 C40 x0 h fun b2 h2 =>
 bif (!b2) then
 Kr ⟨none, 0, 0⟩ h2
 else
 Kn x8 h2
 else
 Kn x8 h
noncomputable def N48_j0_t : Xf := pieceT [(0, .c (.ptr)), (2, .c (.bool)), (4, .c (.ptr)), (7, .c (.ptr)), (8, .c (.slice)), (16, .c (.bool))] (codeAt B48 [1, 1, 1, 0, 0, 1]) fun x h Q => N48_j0 x.1 x.2.1 x.2.2.1 x.2.2.2.1 x.2.2.2.2.1 x.2.2.2.2.2 h (fun o0 h' => Q .normal (Sg.env [(8, .c (.slice))] o0) h') (fun o0 h' => Q .ret (Sg.env [(6, .c (.slice))] o0) h')
theorem N48_j0_ok : Sound Try.prog Try.f48.ntmps N48_j0_t (codeAt B48 [1, 1, 1, 0, 0, 1]) := by
 refine piece_sound (fun e => match e with | .normal => [8] | .ret => [6] | _ => []) ?_
 intro x h Q hb
 refine den_sound hE hm _ (.two (.ord [0, 1, 2, 3, 4, 5, 6, 7, 8, 9, 10]) .leaf) _ _ _ (⟨trivial, annOk_leaf⟩) ?_
 refine cast ?_ hb
 kernel_rfl
def N48_j1 (x0 x4 : Option Addr) (x8 : Sl) (h : Hp) (Kr : Sl → Hp → Prop) : Prop :=
 nn x0 fun a0 =>
 xM (cell h (a0.add 7)) fun m0 =>
 nn x4 fun a1 =>
 xI .u32 (cell h (a1.add 7)) fun n0 =>
 nn x4 fun a2 =>
 xI .u8 (cell h (a2.add 1)) fun n1 =>
 xI .u8 (cell h (a2.add 2)) fun n2 =>
 xI .u8 (cell h (a2.add 3)) fun n3 =>
 xI .u8 (cell h (a2.add 4)) fun n4 =>
 xI .u8 (cell h (a2.add 5)) fun n5 =>
 xI .u8 (cell h (a2.add 6)) fun n6 =>
 C41 x0 600 h fun n7 h0 =>
 both (xI .u8 (cell h0 (a2.add 1)) fun n8 => xI .u8 (cell h0 (a2.add 2)) fun n9 => xI .u8 (cell h0 (a2.add 3)) fun n10 => xI .u8 (cell h0 (a2.add 4)) fun n11 => xI .u8 (cell h0 (a2.add 5)) fun n12 => xI .u8 (cell h0 (a2.add 6)) fun n13 => Only (.agg ⟨[.int .u8 n1, .int .u8 n2, .int .u8 n3, .int .u8 n4, .int .u8 n5, .int .u8 n6]⟩) h0 (.agg ⟨[.int .u8 n8, .int .u8 n9, .int .u8 n10, .int .u8 n11, .int .u8 n12, .int .u8 n13]⟩) h0) <|
 both (xI .u32 (cell h0 (a1.add 7)) fun n14 => Only (.int .u32 n0) h0 (.int .u32 n14) h0) <|
 both (xM (cell h0 (a0.add 7)) fun m1 => Only (.map m0) h0 (.map m1) h0) <|
 nw h0 (.cells ⟨[.int .u8 n1, .int .u8 n2, .int .u8 n3, .int .u8 n4, .int .u8 n5, .int .u8 n6, .int .i64 n7, .int .i64 0, .int .u32 0, .slice none 0 0]⟩ 88) fun b0 h1 =>
 both (xI .u32 (cell h1 (a1.add 7)) fun n15 => Only (.int .u32 n0) h1 (.int .u32 n15) h1) <|
 both (xM (cell h1 (a0.add 7)) fun m2 => Only (.map m0) h1 (.map m2) h1) <|
 muK Try.prog 74 (.map m0) (.int .u32 n0) (.pointer (some (bk b0))) h1 fun h2 =>
 Kr x8 h2
noncomputable def N48_j1_t : Xf := pieceT [(0, .c (.ptr)), (4, .c (.ptr)), (8, .c (.slice))] (codeAt B48 [1, 1, 1, 1]) fun x h Q => N48_j1 x.1 x.2.1 x.2.2 h (fun o0 h' => Q .ret (Sg.env [(6, .c (.slice))] o0) h')
theorem N48_j1_ok : Sound Try.prog Try.f48.ntmps N48_j1_t (codeAt B48 [1, 1, 1, 1]) := by
 refine piece_sound (fun e => match e with | .ret => [6] | _ => []) ?_
 intro x h Q hb
 refine den_sound hE hm _ (.two (.ord [0, 1, 2, 3, 4, 5, 6, 7, 8, 9, 10, 11, 12]) .leaf) _ _ _ (⟨trivial, annOk_leaf⟩) ?_
 refine cast ?_ hb
 kernel_rfl
def N48 (x0 : Option Addr) (x1_0 x1_1 x1_2 x1_3 x1_4 x1_5 x1_6 x1_7 x1_8 x1_9 x1_10 x1_11 x1_12 x1_13 x1_14 : Int) (x2 : Bool) (h : Hp) (K : Sl → Hp → Prop) : Prop :=
 nw h (.cells ⟨[.int .i64 x1_0, .int .u8 x1_1, .int .u8 x1_2, .int .u8 x1_3, .int .u8 x1_4, .int .u8 x1_5, .int .u8 x1_6, .int .u32 x1_7, .int .u8 x1_8, .int .u8 x1_9, .int .u8 x1_10, .int .u8 x1_11, .int .u8 x1_12, .int .u8 x1_13, .int .u32 x1_14]⟩ 42) fun b0 h0 =>
 nn x0 fun a0 =>
 xM (cell h0 (a0.add 7)) fun m0 =>
 xI .u32 (cell h0 ((bk b0).add 7)) fun n0 =>
 xMap h0 m0 fun es0 _ =>
 keyAt (.int .u32) (.int .u32 n0) es0 fun r0 =>
 xP (some (rval r0 (.pointer none))) fun p0 =>
 peq h0 p0 none fun b1 =>
 bif (!b1) then
 C38 p0 h0 fun b2 h1 =>
 N48_j0 x0 x2 (some (bk b0)) p0 ⟨none, 0, 0⟩ (!b2) h1
 (fun s0 h2 =>
 N48_j1 x0 (some (bk b0)) s0 h2
 (fun s1 h3 =>
 K s1 h3))
 (fun s2 h4 =>
 K s2 h4)
 else
 N48_j0 x0 x2 (some (bk b0)) p0 ⟨none, 0, 0⟩ false h0
 (fun s3 h5 =>
 N48_j1 x0 (some (bk b0)) s3 h5
 (fun s4 h6 =>
 K s4 h6))
 (fun s5 h7 =>
 K s5 h7)
theorem S48 {x0 : Option Addr} {x1_0 x1_1 x1_2 x1_3 x1_4 x1_5 x1_6 x1_7 x1_8 x1_9 x1_10 x1_11 x1_12 x1_13 x1_14 : Int} {x2 : Bool} {h : Hp} {K : Sl → Hp → Prop} (hn : N48 x0 x1_0 x1_1 x1_2 x1_3 x1_4 x1_5 x1_6 x1_7 x1_8 x1_9 x1_10 x1_11 x1_12 x1_13 x1_14 x2 h K) : C48 x0 x1_0 x1_1 x1_2 x1_3 x1_4 x1_5 x1_6 x1_7 x1_8 x1_9 x1_10 x1_11 x1_12 x1_13 x1_14 x2 h K := by
 refine calls_of_D Try.func48 (c := B48) rfl (by kernel_rfl) ?_
 refine den_sound hE hm _ (.two .leaf (.two (.ord [0, 1, 2, 3, 4, 5, 6, 7]) (.two .leaf (.two (.one (.two .leaf (.xf N48_j0_t))) (.xf N48_j1_t))))) _ _ _ (⟨annOk_leaf, ⟨trivial, ⟨annOk_leaf, ⟨⟨annOk_leaf, N48_j0_ok⟩, N48_j1_ok⟩⟩⟩⟩) ?_
 refine cast ?_ hn
 kernel_rfl
end Go.Proofs.Ytkfccpabigikkaa

set_option linter.unusedVariables false
set_option maxRecDepth 100000
namespace Go.Proofs.Ytkfccpabigikkaa
open Go Go.Hw
noncomputable def B18 : Code := match Try.f18.body with | some c => c | none => .skip
def N18_j2 (x0 x5 : Option Addr) (x9 : Bool) (x10 : Sl) (x50 : Bool) (h : Hp) (Kn : Sl → Hp → Prop) : Prop :=
 bif x50 then
 nn x5 fun a0 =>
 xI .i64 (cell h a0) fun n0 =>
 xI .u8 (cell h (a0.add 1)) fun n1 =>
 xI .u8 (cell h (a0.add 2)) fun n2 =>
 xI .u8 (cell h (a0.add 3)) fun n3 =>
 xI .u8 (cell h (a0.add 4)) fun n4 =>
 xI .u8 (cell h (a0.add 5)) fun n5 =>
 xI .u8 (cell h (a0.add 6)) fun n6 =>
 xI .u32 (cell h (a0.add 7)) fun n7 =>
 xI .u8 (cell h (a0.add 8)) fun n8 =>
 xI .u8 (cell h (a0.add 9)) fun n9 =>
 xI .u8 (cell h (a0.add 10)) fun n10 =>
 xI .u8 (cell h (a0.add 11)) fun n11 =>
 xI .u8 (cell h (a0.add 12)) fun n12 =>
 xI .u8 (cell h (a0.add 13)) fun n13 =>
 xI .u32 (cell h (a0.add 14)) fun n14 =>
 C48 x0 n0 n1 n2 n3 n4 n5 n6 n7 n8 n9 n10 n11 n12 n13 n14 x9 h fun s0 h0 =>
 Kn s0 h0
 else
 Kn x10 h
noncomputable def N18_j2_t : Xf := pieceT [(0, .c (.ptr)), (5, .c (.ptr)), (9, .c (.bool)), (10, .c (.slice)), (50, .c (.bool))] (codeAt B18 [1, 1, 1, 1, 1, 0, 1]) fun x h Q => N18_j2 x.1 x.2.1 x.2.2.1 x.2.2.2.1 x.2.2.2.2 h (fun o0 h' => Q .normal (Sg.env [(10, .c (.slice))] o0) h')
theorem N18_j2_ok : Sound Try.prog Try.f18.ntmps N18_j2_t (codeAt B18 [1, 1, 1, 1, 1, 0, 1]) := by
 refine piece_sound (fun e => match e with | .normal => [10] | _ => []) ?_
 intro x h Q hb
 refine den_sound hE hm _ .leaf _ _ _ (annOk_leaf) ?_
 refine cast ?_ hb
 kernel_rfl
def N18_j3 (x0 x5 : Option Addr) (x9 : Bool) (x10 : Sl) (h : Hp) (Kr : Sl → Hp → Prop) : Prop :=
 bif x9 then
 nn x0 fun a0 =>
 xI .u8 (cell h a0) fun n0 =>
 xI .u8 (cell h (a0.add 1)) fun n1 =>
 xI .u8 (cell h (a0.add 2)) fun n2 =>
 xI .u8 (cell h (a0.add 3)) fun n3 =>
 xI .u8 (cell h (a0.add 4)) fun n4 =>
 xI .u8 (cell h (a0.add 5)) fun n5 =>
 nn x5 fun a1 =>
 xI .i64 (cell h a1) fun n6 =>
 xI .u8 (cell h (a1.add 1)) fun n7 =>
 xI .u8 (cell h (a1.add 2)) fun n8 =>
 xI .u8 (cell h (a1.add 3)) fun n9 =>
 xI .u8 (cell h (a1.add 4)) fun n10 =>
 xI .u8 (cell h (a1.add 5)) fun n11 =>
 xI .u8 (cell h (a1.add 6)) fun n12 =>
 xI .u32 (cell h (a1.add 7)) fun n13 =>
 xI .u8 (cell h (a1.add 8)) fun n14 =>
 xI .u8 (cell h (a1.add 9)) fun n15 =>
 xI .u8 (cell h (a1.add 10)) fun n16 =>
 xI .u8 (cell h (a1.add 11)) fun n17 =>
 xI .u8 (cell h (a1.add 12)) fun n18 =>
 xI .u8 (cell h (a1.add 13)) fun n19 =>
 xI .u32 (cell h (a1.add 14)) fun n20 =>
 C50 n0 n1 n2 n3 n4 n5 n6 n7 n8 n9 n10 n11 n12 n13 n14 n15 n16 n17 n18 n19 n20 h fun n21 n22 n23 n24 n25 n26 n27 n28 n29 n30 n31 n32 n33 n34 n35 h0 =>
 C49 n21 n22 n23 n24 n25 n26 n27 n28 n29 n30 n31 n32 n33 n34 n35 h0 fun s0 n36 h1 =>
 nn x5 fun a2 =>
 xI .u8 (cell h1 (a2.add 1)) fun n37 =>
 xI .u8 (cell h1 (a2.add 2)) fun n38 =>
 xI .u8 (cell h1 (a2.add 3)) fun n39 =>
 xI .u8 (cell h1 (a2.add 4)) fun n40 =>
 xI .u8 (cell h1 (a2.add 5)) fun n41 =>
 xI .u8 (cell h1 (a2.add 6)) fun n42 =>
 nw h1 (.cells ⟨[.int .u8 n37, .int .u8 n38, .int .u8 n39, .int .u8 n40, .int .u8 n41, .int .u8 n42, .int .i64 2054, .slice s0.p s0.n s0.c]⟩ 59) fun b0 h2 =>
 apK Try.prog 59 x10 (.slice (some (bk b0)) 1 1) h2 fun s1 h3 =>
 Kr s1 h3
 else
 Kr x10 h
noncomputable def N18_j3_t : Xf := pieceT [(0, .c (.ptr)), (5, .c (.ptr)), (9, .c (.bool)), (10, .c (.slice))] (codeAt B18 [1, 1, 1, 1, 1, 1]) fun x h Q => N18_j3 x.1 x.2.1 x.2.2.1 x.2.2.2 h (fun o0 h' => Q .ret (Sg.env [(8, .c (.slice))] o0) h')
theorem N18_j3_ok : Sound Try.prog Try.f18.ntmps N18_j3_t (codeAt B18 [1, 1, 1, 1, 1, 1]) := by
 refine piece_sound (fun e => match e with | .ret => [8] | _ => []) ?_
 intro x h Q hb
 refine den_sound hE hm _ (.two (.two .leaf (.two (.two (.ord [0, 1, 2, 3, 4, 5, 6, 7, 8, 9, 10, 11]) .leaf) .leaf)) .leaf) _ _ _ (⟨⟨annOk_leaf, ⟨⟨trivial, annOk_leaf⟩, annOk_leaf⟩⟩, annOk_leaf⟩) ?_
 refine cast ?_ hb
 kernel_rfl
def N18_j1 (x0 : Option Addr) (x2 : Int) (x5 : Option Addr) (x9 : Bool) (h : Hp) (Kr : Sl → Hp → Prop) : Prop :=
 nn x5 fun a0 =>
 xI .u32 (cell h (a0.add 7)) fun n0 =>
 C47 n0 h fun b0 h0 =>
 bif b0 then
 nn x5 fun a1 =>
 xI .u32 (cell h0 (a1.add 7)) fun n1 =>
 N18_j2 x0 x5 x9 ⟨none, 0, 0⟩ (n1 != x2) h0
 (fun s0 h1 =>
 N18_j3 x0 x5 x9 s0 h1
 (fun s1 h2 =>
 Kr s1 h2))
 else
 N18_j2 x0 x5 x9 ⟨none, 0, 0⟩ false h0
 (fun s2 h3 =>
 N18_j3 x0 x5 x9 s2 h3
 (fun s3 h4 =>
 Kr s3 h4))
noncomputable def N18_j1_t : Xf := pieceT [(0, .c (.ptr)), (2, .c (.int .u32)), (5, .c (.ptr)), (9, .c (.bool))] (codeAt B18 [1, 1, 1, 1]) fun x h Q => N18_j1 x.1 x.2.1 x.2.2.1 x.2.2.2 h (fun o0 h' => Q .ret (Sg.env [(8, .c (.slice))] o0) h')
theorem N18_j1_ok : Sound Try.prog Try.f18.ntmps N18_j1_t (codeAt B18 [1, 1, 1, 1]) := by
 refine piece_sound (fun e => match e with | .ret => [8] | _ => []) ?_
 intro x h Q hb
 refine den_sound hE hm _ (.two .leaf (.two (.two .leaf (.xf N18_j2_t)) (.xf N18_j3_t))) _ _ _ (⟨annOk_leaf, ⟨⟨annOk_leaf, N18_j2_ok⟩, N18_j3_ok⟩⟩) ?_
 refine cast ?_ hb
 kernel_rfl
def N18_j0 (x0 : Option Addr) (x2 : Int) (x5 : Option Addr) (h : Hp) (Kr : Sl → Hp → Prop) : Prop :=
 bif (x2 != 0) then
 nn x5 fun a0 =>
 xI .i64 (cell h a0) fun n0 =>
 bif (n0 == 1) then
 nn x5 fun a1 =>
 xI .u32 (cell h (a1.add 14)) fun n1 =>
 N18_j1 x0 x2 x5 (n1 == x2) h
 (fun s0 h0 =>
 Kr s0 h0)
 else
 N18_j1 x0 x2 x5 false h
 (fun s1 h1 =>
 Kr s1 h1)
 else
 N18_j1 x0 x2 x5 false h
 (fun s2 h2 =>
 Kr s2 h2)
noncomputable def N18_j0_t : Xf := pieceT [(0, .c (.ptr)), (2, .c (.int .u32)), (5, .c (.ptr))] (codeAt B18 [1, 1, 1]) fun x h Q => N18_j0 x.1 x.2.1 x.2.2 h (fun o0 h' => Q .ret (Sg.env [(8, .c (.slice))] o0) h')
theorem N18_j0_ok : Sound Try.prog Try.f18.ntmps N18_j0_t (codeAt B18 [1, 1, 1]) := by
 refine piece_sound (fun e => match e with | .ret => [8] | _ => []) ?_
 intro x h Q hb
 refine den_sound hE hm _ (.two .leaf (.xf N18_j1_t)) _ _ _ (⟨annOk_leaf, N18_j1_ok⟩) ?_
 refine cast ?_ hb
 kernel_rfl
def N18 (x0 : Option Addr) (x1_0 x1_1 x1_2 x1_3 x1_4 x1_5 x1_6 x1_7 x1_8 x1_9 x1_10 x1_11 x1_12 x1_13 x1_14 x2 x3 : Int) (h : Hp) (K : Sl → Hp → Prop) : Prop :=
 nw h (.cells ⟨[.int .i64 x1_0, .int .u8 x1_1, .int .u8 x1_2, .int .u8 x1_3, .int .u8 x1_4, .int .u8 x1_5, .int .u8 x1_6, .int .u32 x1_7, .int .u8 x1_8, .int .u8 x1_9, .int .u8 x1_10, .int .u8 x1_11, .int .u8 x1_12, .int .u8 x1_13, .int .u32 x1_14]⟩ 42) fun b0 h0 =>
 C37 x0 x3 h0 fun h1 =>
 xI .i64 (cell h1 (bk b0)) fun n0 =>
 bif (n0 != 1) then
 xI .i64 (cell h1 (bk b0)) fun n1 =>
 bif (n1 != 2) then
 K ⟨none, 0, 0⟩ h1
 else
 xI .u8 (cell h1 ((bk b0).add 1)) fun n2 =>
 xI .u8 (cell h1 ((bk b0).add 2)) fun n3 =>
 xI .u8 (cell h1 ((bk b0).add 3)) fun n4 =>
 xI .u8 (cell h1 ((bk b0).add 4)) fun n5 =>
 xI .u8 (cell h1 ((bk b0).add 5)) fun n6 =>
 xI .u8 (cell h1 ((bk b0).add 6)) fun n7 =>
 C46 n2 n3 n4 n5 n6 n7 h1 fun b1 h2 =>
 bif b1 then
 K ⟨none, 0, 0⟩ h2
 else
 N18_j0 x0 x2 (some (bk b0)) h2
 (fun s0 h3 =>
 K s0 h3)
 else
 xI .u8 (cell h1 ((bk b0).add 1)) fun n8 =>
 xI .u8 (cell h1 ((bk b0).add 2)) fun n9 =>
 xI .u8 (cell h1 ((bk b0).add 3)) fun n10 =>
 xI .u8 (cell h1 ((bk b0).add 4)) fun n11 =>
 xI .u8 (cell h1 ((bk b0).add 5)) fun n12 =>
 xI .u8 (cell h1 ((bk b0).add 6)) fun n13 =>
 C46 n8 n9 n10 n11 n12 n13 h1 fun b2 h4 =>
 bif b2 then
 K ⟨none, 0, 0⟩ h4
 else
 N18_j0 x0 x2 (some (bk b0)) h4
 (fun s1 h5 =>
 K s1 h5)
theorem S18 {x0 : Option Addr} {x1_0 x1_1 x1_2 x1_3 x1_4 x1_5 x1_6 x1_7 x1_8 x1_9 x1_10 x1_11 x1_12 x1_13 x1_14 x2 x3 : Int} {h : Hp} {K : Sl → Hp → Prop} (hn : N18 x0 x1_0 x1_1 x1_2 x1_3 x1_4 x1_5 x1_6 x1_7 x1_8 x1_9 x1_10 x1_11 x1_12 x1_13 x1_14 x2 x3 h K) : C18 x0 x1_0 x1_1 x1_2 x1_3 x1_4 x1_5 x1_6 x1_7 x1_8 x1_9 x1_10 x1_11 x1_12 x1_13 x1_14 x2 x3 h K := by
 refine calls_of_D Try.func18 (c := B18) rfl (by kernel_rfl) ?_
 refine den_sound hE hm _ (.two .leaf (.two .leaf (.two .leaf (.xf N18_j0_t)))) _ _ _ (⟨annOk_leaf, ⟨annOk_leaf, ⟨annOk_leaf, N18_j0_ok⟩⟩⟩) ?_
 refine cast ?_ hn
 kernel_rfl
end Go.Proofs.Ytkfccpabigikkaa

set_option linter.unusedVariables false
set_option maxRecDepth 100000
namespace Go.Proofs.Ytkfccpabigikkaa
open Go Go.Hw
noncomputable def B19 : Code := match Try.f19.body with | some c => c | none => .skip
def N19_j1 (x0 : Option Addr) (x5 : Sl) (x7 : Int) (x8 : Option Addr) (x13 : Sl) (x14 x15 : Int) (x54 : Bool) (h : Hp) (Kn : Sl → Hp → Prop) : Prop :=
 bif x54 then
 nn x0 fun a0 =>
 xM (cell h (a0.add 7)) fun m0 =>
 mdK Try.prog 74 (.map m0) (.int .u32 x7) h fun h0 =>
 Kn x5 h0
 else
 nn x8 fun a1 =>
 xI .i64 (cell h (a1.add 7)) fun n0 =>
 nn x8 fun a2 =>
 st h (a2.add 7) (.int .i64 (IntKind.wrap .i64 (n0 + 1))) fun h1 =>
 C41 x0 10 h1 fun n1 h2 =>
 nn x8 fun a3 =>
 st h2 (a3.add 6) (.int .i64 n1) fun h3 =>
 C42 x0 x7 x8 h3 fun n2 n3 n4 n5 n6 n7 n8 s0 h4 =>
 nw h4 (.cells ⟨[.int .u8 n2, .int .u8 n3, .int .u8 n4, .int .u8 n5, .int .u8 n6, .int .u8 n7, .int .i64 n8, .slice s0.p s0.n s0.c]⟩ 59) fun b0 h5 =>
 apK Try.prog 59 x5 (.slice (some (bk b0)) 1 1) h5 fun s1 h6 =>
 Kn s1 h6
noncomputable def N19_j1_t : Xf := pieceT [(0, .c (.ptr)), (5, .c (.slice)), (7, .c (.int .u32)), (8, .c (.ptr)), (13, .c (.slice)), (14, .c (.int .i64)), (15, .c (.int .i64)), (54, .c (.bool))] (codeAt B19 [1, 1, 1, 0, 1, 0, 0, 1, 1, 0, 0, 1, 1, 0, 1, 1, 1]) fun x h Q => N19_j1 x.1 x.2.1 x.2.2.1 x.2.2.2.1 x.2.2.2.2.1 x.2.2.2.2.2.1 x.2.2.2.2.2.2.1 x.2.2.2.2.2.2.2 h (fun o0 h' => Q .normal (Sg.env [(5, .c (.slice))] o0) h')
theorem N19_j1_ok : Sound Try.prog Try.f19.ntmps N19_j1_t (codeAt B19 [1, 1, 1, 0, 1, 0, 0, 1, 1, 0, 0, 1, 1, 0, 1, 1, 1]) := by
 refine piece_sound (fun e => match e with | .normal => [5] | _ => []) ?_
 intro x h Q hb
 refine den_sound hE hm _ .leaf _ _ _ (annOk_leaf) ?_
 refine cast ?_ hb
 kernel_rfl
def N19_l0_b (x0 : Option Addr) (x13 : Sl) (x14 : Int) (Φ : Sl → Int → Hp → Prop) (x5 : Sl) (x15 : Int) (h : Hp) (K0 : Sl → Hp → Prop) : Prop :=
 bif (decide (x15 < x14)) then
 idx x15 x13.n <|
 nn x13.p fun a0 =>
 xI .u32 (cell h (a0.add (x15.toNat * 1))) fun n0 =>
 nn x0 fun a1 =>
 xM (cell h (a1.add 7)) fun m0 =>
 xMap h m0 fun es0 _ =>
 keyAt (.int .u32) (.int .u32 n0) es0 fun r0 =>
 xP (some (rval r0 (.pointer none))) fun p0 =>
 nn p0 fun a2 =>
 xI .i64 (cell h (a2.add 6)) fun n1 =>
 nn x0 fun a3 =>
 xI .i64 (cell h (a3.add 8)) fun n2 =>
 bif (decide (n1 > n2)) then
 Φ x5 (IntKind.wrap .i64 (x15 + 1)) h
 else
 C38 p0 h fun b0 h0 =>
 bif b0 then
 N19_j1 x0 x5 n0 p0 x13 x14 x15 true h0
 (fun s0 h1 =>
 Φ s0 (IntKind.wrap .i64 (x15 + 1)) h1)
 else
 nn p0 fun a4 =>
 xI .i64 (cell h0 (a4.add 7)) fun n3 =>
 N19_j1 x0 x5 n0 p0 x13 x14 x15 (decide (n3 ≥ 3)) h0
 (fun s1 h2 =>
 Φ s1 (IntKind.wrap .i64 (x15 + 1)) h2)
 else
 K0 x5 h
def N19_l0_B (x0 : Option Addr) (x13 : Sl) (x14 : Int) (K0 : Sl → Hp → Prop) (s : Sg.T [(5, .c (.slice)), (15, .c (.int .i64))]) (h : Hp) (Φ : Sg.T [(5, .c (.slice)), (15, .c (.int .i64))] → Hp → Prop) : Prop :=
 N19_l0_b x0 x13 x14 (fun x5 x15 h => Φ (x5, x15) h) s.1 s.2 h K0
def N19_l0 (x0 : Option Addr) (x13 : Sl) (x14 : Int) (x5 : Sl) (x15 : Int) (h : Hp) (K0 : Sl → Hp → Prop) : Prop :=
 loopP (N19_l0_B x0 x13 x14 K0) (x5, x15) h
noncomputable def N19_l0_t : Xf := loopT [(0, .c (.ptr)), (13, .c (.slice)), (14, .c (.int .i64))] [(5, .c (.slice)), (15, .c (.int .i64))] (codeAt B19 [1, 1, 1, 0, 1, 0, 0]) fun F Q => N19_l0_B F.1 F.2.1 F.2.2 (fun o0 h' => Q (.exit 0) (Sg.env [(5, .c (.slice))] o0) h')
theorem N19_l0_ok : Sound Try.prog Try.f19.ntmps N19_l0_t (codeAt B19 [1, 1, 1, 0, 1, 0]) := by
 refine loop_sound (fun e => match e with | .exit 0 => [5] | _ => []) (by kernel_rfl) ?_
 intro F Q s h Φ hb
 refine den_sound hE hm _ (.two .leaf (.two .leaf (.two (.one (.two .leaf (.two .leaf (.one (.two (.ord [0, 1, 2, 3, 4, 5, 6, 7, 8, 9]) (.two .leaf (.two .leaf (.xf N19_j1_t)))))))) .leaf))) _ _ _ (⟨annOk_leaf, ⟨annOk_leaf, ⟨⟨annOk_leaf, ⟨annOk_leaf, ⟨trivial, ⟨annOk_leaf, ⟨annOk_leaf, N19_j1_ok⟩⟩⟩⟩⟩, annOk_leaf⟩⟩⟩) ?_
 refine cast ?_ hb
 kernel_rfl
def N19 (x0 : Option Addr) (x1 : Int) (h : Hp) (K : Sl → Hp → Prop) : Prop :=
 C37 x0 x1 h fun h0 =>
 C51 x0 h0 fun s0 h1 =>
 N19_l0 x0 s0 ((s0.n : Nat) : Int) ⟨none, 0, 0⟩ 0 h1
 (fun s1 h2 =>
 K s1 h2)
theorem S19 {x0 : Option Addr} {x1 : Int} {h : Hp} {K : Sl → Hp → Prop} (hn : N19 x0 x1 h K) : C19 x0 x1 h K := by
 refine calls_of_D Try.func19 (c := B19) rfl (by kernel_rfl) ?_
 refine den_sound hE hm _ (.two .leaf (.two .leaf (.two .leaf (.two (.two .leaf (.one (.xf N19_l0_t))) .leaf)))) _ _ _ (⟨annOk_leaf, ⟨annOk_leaf, ⟨annOk_leaf, ⟨⟨annOk_leaf, N19_l0_ok⟩, annOk_leaf⟩⟩⟩⟩) ?_
 refine cast ?_ hn
 kernel_rfl
end Go.Proofs.Ytkfccpabigikkaa

/-
 The cache: what the program's calls do: Ask, On, Tick.
-/
set_option linter.unusedSimpArgs false
set_option linter.unusedVariables false
set_option maxRecDepth 4000
namespace Go.Proofs.Ytkfccpabigikkaa
open Go Go.Hw
def newC (c : Ca) (src ip : Int) (pk : List UInt8) : List Snd × Ca := match roomL c.most (delK keyE ip c.l) with
 | none => ([], { c with l := delK keyE ip c.l })
 | some l => ([questC c ⟨ip, mac0, behindC c 10, 1, src, pk⟩], { c with l := putL' ⟨ip, mac0, behindC c 10, 1, src, pk⟩ l })
def askC (c : Ca) (src ip : Int) (pk : List UInt8) : List Snd × Ca := match findK keyE ip c.l with
 | none => newC c src ip pk
 | some e => if e.tries ≠ 0 then ([], { c with l := updK keyE ip { e with src := src, pk := pk } c.l }) else if c.now < e.til then ([⟨e.mac, 2048, pk⟩], c) else newC c src ip pk
def learnC (c : Ca) (ip : Int) (mac : M6) (asks : Bool) : List Snd × Ca := match findK keyE ip c.l with
 | some e => (if e.tries ≠ 0 then [⟨mac, 2048, e.pk⟩] else [], { c with l := updK keyE ip ⟨ip, mac, behindC c 600, 0, 0, []⟩ c.l })
 | none => if asks then match roomL c.most c.l with
  | none => ([], c)
  | some l => ([], { c with l := putL' ⟨ip, mac, behindC c 600, 0, 0, []⟩ l }) else ([], c)
def asksC (op own di : Int) : Bool := decide (own ≠ 0) && (decide (op = 1) && decide (di = own))
def onC (c : Ca) (op : Int) (s : M6) (si di own : Int) : List Snd × Ca := if (op ≠ 1 ∧ op ≠ 2) ∨ s.a % 2 = 1 then ([], c) else
 let r := if isHost si && decide (si ≠ own) then learnC c si s (asksC op own di) else ([], c)
 (r.1 ++ if asksC op own di then [⟨s, 2054, arpL 2 c.own di s si⟩] else [], r.2)
def tickE (c : Ca) (e : NE) : NE := { e with tries := e.tries + 1, til := behindC c 10 }
def tickL (c : Ca) : List NE → List NE × List Snd
 | [] => ([], [])
 | e :: l => if c.now < e.til then (e :: (tickL c l).1, (tickL c l).2) else if e.tries = 0 ∨ 3 ≤ e.tries then tickL c l else (tickE c e :: (tickL c l).1, questC c (tickE c e) :: (tickL c l).2)
def tickC (c : Ca) : List Snd × Ca := ((tickL c c.l).2, { c with l := (tickL c c.l).1 })
theorem Ca.ok.tell {c : Ca} (h : c.ok) (now : Int) : (tellC c now).ok := ⟨h.own, h.most, h.srt, h.all, h.len, by have := h.now; simp only [tellC, maxT] at *; omega⟩
theorem behind_rng {c : Ca} (h : c.ok) {n : Int} (hn : 0 ≤ n) : 0 ≤ behindC c n ∧ behindC c n ≤ maxT := by have := h.now; simp only [behindC, maxT] at *; omega
theorem delK_srt {n : Int} {l : List NE} (h : l.Pairwise fun a b => a.ip < b.ip) : (delK keyE n l).Pairwise fun a b => a.ip < b.ip := h.filter _
theorem delK_len {n : Int} {l : List NE} : (delK keyE n l).length ≤ l.length := List.length_filter_le _ _
theorem delK_mem {n : Int} {l : List NE} {e : NE} (h : e ∈ delK keyE n l) : e ∈ l ∧ e.ip ≠ n := by
 have := List.mem_filter.1 h
 exact ⟨this.1, by simpa [keyE] using this.2⟩
theorem delK_lt {n : Int} {l : List NE} {e : NE} (h : e ∈ l) (hn : e.ip = n) : (delK keyE n l).length < l.length := by
 have : (delK keyE n l).length ≠ l.length := by
  intro q
  have := List.length_filter_eq_length_iff.1 q e h
  simp [keyE, hn] at this
 have := delK_len (n := n) (l := l)
 omega
theorem updK_srt {n : Int} {e : NE} {l : List NE} (h : l.Pairwise fun a b => a.ip < b.ip) (he : e.ip = n) : (updK keyE n e l).Pairwise fun a b => a.ip < b.ip := by
 have : ((updK keyE n e l).map NE.ip).Pairwise fun a b => a < b := by
  rw [show (updK keyE n e l).map NE.ip = l.map NE.ip from updK_keys (key := keyE) he]
  exact List.pairwise_map.2 h
 exact List.pairwise_map.1 this
theorem updK_mem {n : Int} {e x : NE} {l : List NE} (h : x ∈ updK keyE n e l) : x = e ∨ x ∈ l := by
 obtain ⟨y, hy, rfl⟩ := List.mem_map.1 h
 split
 ·exact .inl rfl
 ·exact .inr hy
theorem putL_mem {e x : NE} {l : List NE} (h : x ∈ putL' e l) : x = e ∨ x ∈ l := List.mem_cons.1 ((putL_perm e l).mem_iff.1 h)
theorem putL_len {e : NE} {l : List NE} : (putL' e l).length = l.length + 1 := (putL_perm e l).length_eq
theorem putL_srt {e : NE} : ∀ {l : List NE}, l.Pairwise (fun a b => a.ip < b.ip) → (∀ x ∈ l, x.ip ≠ e.ip) → (putL' e l).Pairwise fun a b => a.ip < b.ip := by
 intro l
 induction l with
 | nil => intro _ _; simp [putL']
 | cons p l ih =>
  intro h hne
  obtain ⟨h1, h2⟩ := List.pairwise_cons.1 h
  have hp := hne p List.mem_cons_self
  unfold putL'
  split
  ·rename_i hgt
   refine List.pairwise_cons.2 ⟨fun x hx => ?_, h⟩
   rcases List.mem_cons.1 hx with rfl | hx
   ·omega
   ·have := h1 x hx; omega
  ·rename_i hgt
   refine List.pairwise_cons.2 ⟨fun x hx => ?_, ih h2 fun x hx => hne x (List.mem_cons_of_mem _ hx)⟩
   rcases putL_mem hx with rfl | hx
   ·omega
   ·exact h1 x hx
theorem roomL_some {most : Int} {l l' : List NE} (h : roomL most l = some l') (hl : (l.length : Int) ≤ most) (hm : 1 ≤ most) : (l'.length : Int) < most ∧ (l' = l ∨ ∃ e ∈ l, l' = delK keyE e.ip l) := by
 unfold roomL at h
 split at h
 ·cases h; exact ⟨by assumption, .inl rfl⟩
 ·split at h
  ·cases h
  ·rename_i e he
   cases h
   rcases leastK_mem he with q | q
   ·cases q
   ·have := delK_lt q rfl
    exact ⟨by omega, .inr ⟨e, q, rfl⟩⟩
theorem Ca.ok.sub {c : Ca} (h : c.ok) {l : List NE} (hs : l.Pairwise fun a b => a.ip < b.ip) (hm : ∀ e ∈ l, e.ok) (hl : (l.length : Int) ≤ c.most) : ({ c with l := l } : Ca).ok := ⟨h.own, h.most, hs, hm, hl, h.now⟩
theorem Ca.ok.del {c : Ca} (h : c.ok) (n : Int) : ({ c with l := delK keyE n c.l } : Ca).ok := h.sub (delK_srt h.srt) (fun e he => h.all e (delK_mem he).1) (by have := delK_len (n := n) (l := c.l); have := h.len; omega)
theorem Ca.ok.room {c : Ca} (h : c.ok) {l : List NE} (hr : roomL c.most c.l = some l) : ({ c with l := l } : Ca).ok ∧ (l.length : Int) < c.most ∧ ∀ e ∈ l, e ∈ c.l := by
 obtain ⟨h1, h2⟩ := roomL_some hr h.len h.most.1
 rcases h2 with rfl | ⟨e, he, rfl⟩
 ·exact ⟨h.sub h.srt h.all h.len, h1, fun e he => he⟩
 ·exact ⟨h.del e.ip, h1, fun e he => (delK_mem he).1⟩
theorem Ca.ok.put {c : Ca} (h : c.ok) {e : NE} (he : e.ok) (hl : (c.l.length : Int) < c.most) (hn : ∀ x ∈ c.l, x.ip ≠ e.ip) : ({ c with l := putL' e c.l } : Ca).ok :=
 h.sub (putL_srt h.srt hn) (fun x hx => by rcases putL_mem hx with rfl | hx; exact he; exact h.all x hx) (by rw [putL_len]; omega)
theorem Ca.ok.upd {c : Ca} (h : c.ok) {e : NE} (he : e.ok) : ({ c with l := updK keyE e.ip e c.l } : Ca).ok :=
 h.sub (updK_srt h.srt rfl) (fun x hx => by rcases updK_mem hx with rfl | hx; exact he; exact h.all x hx) (by unfold updK; rw [List.length_map]; exact h.len)
theorem mac0_ok : mac0.ok := by unfold M6.ok mac0; decide
theorem newE_ok {c : Ca} (h : c.ok) {src ip : Int} {pk : List UInt8} (hs : 0 ≤ src ∧ src < 4294967296) (hi : 0 ≤ ip ∧ ip < 4294967296) (hp : pk.length ≤ 1099511627776) : (NE.mk ip mac0 (behindC c 10) 1 src pk).ok :=
 ⟨hi, mac0_ok, behind_rng h (by omega), by dsimp only; omega, hs, fun e => by simp at e, fun _ => rfl, hp⟩
theorem knownE_ok {c : Ca} (h : c.ok) {ip : Int} {mac : M6} (hm : mac.ok) (hi : 0 ≤ ip ∧ ip < 4294967296) : (NE.mk ip mac (behindC c 600) 0 0 []).ok :=
 ⟨hi, hm, behind_rng h (by omega), by dsimp only; omega, by dsimp only; omega, fun _ => ⟨rfl, rfl⟩, fun e => absurd rfl e, by simp⟩
theorem newC_ok {c : Ca} (h : c.ok) {src ip : Int} {pk : List UInt8} (hs : 0 ≤ src ∧ src < 4294967296) (hi : 0 ≤ ip ∧ ip < 4294967296) (hp : pk.length ≤ 1099511627776) : (newC c src ip pk).2.ok := by
 unfold newC
 have h1 := h.del ip
 cases hr : roomL c.most (delK keyE ip c.l) with
 | none => exact h1
 | some l =>
  obtain ⟨h2, h3, h4⟩ := h1.room (l := l) hr
  exact h2.put (newE_ok h hs hi hp) h3 (fun x hx => (delK_mem (h4 x hx)).2)
theorem askC_ok {c : Ca} (h : c.ok) {src ip : Int} {pk : List UInt8} (hs : 0 ≤ src ∧ src < 4294967296) (hi : 0 ≤ ip ∧ ip < 4294967296) (hp : pk.length ≤ 1099511627776) : (askC c src ip pk).2.ok := by
 unfold askC
 cases hf : findK keyE ip c.l with
 | none => exact newC_ok h hs hi hp
 | some e =>
  obtain ⟨h1, h2⟩ := findK_some hf
  have he := h.all e h1
  simp only []
  split
  ·rename_i ht
   have h2 : e.ip = ip := h2
   subst h2
   exact h.upd (e := { e with src := src, pk := pk }) ⟨he.ip, he.mac, he.til, he.tries, hs, fun q => absurd q ht, he.asked, hp⟩
  ·split
   ·exact h
   ·exact newC_ok h hs hi hp
theorem learnC_ok {c : Ca} (h : c.ok) {ip : Int} {mac : M6} {asks : Bool} (hm : mac.ok) (hi : 0 ≤ ip ∧ ip < 4294967296) : (learnC c ip mac asks).2.ok := by
 unfold learnC
 cases hf : findK keyE ip c.l with
 | some e => exact h.upd (knownE_ok h hm hi)
 | none =>
  simp only []
  split
  ·cases hr : roomL c.most c.l with
   | none => exact h
   | some l =>
    obtain ⟨h2, h3, h4⟩ := h.room hr
    exact h2.put (knownE_ok h hm hi) h3 (fun x hx => findK_none hf x (h4 x hx))
  ·exact h
theorem onC_ok {c : Ca} (h : c.ok) {op si di own : Int} {s : M6} (hm : s.ok) (hi : 0 ≤ si ∧ si < 4294967296) : (onC c op s si di own).2.ok := by
 unfold onC
 split
 ·exact h
 ·simp only []
  split
  ·exact learnC_ok h hm hi
  ·exact h
theorem tickL_mem {c : Ca} : ∀ {l : List NE} {x : NE}, x ∈ (tickL c l).1 → (x ∈ l) ∨ ∃ e ∈ l, x = tickE c e ∧ e.tries ≠ 0 ∧ e.tries < 3 := by
 intro l
 induction l with
 | nil => intro x h; cases h
 | cons e l ih =>
  intro x h
  rw [tickL] at h
  have up : (x ∈ l ∨ ∃ e ∈ l, x = tickE c e ∧ e.tries ≠ 0 ∧ e.tries < 3) → (x ∈ e :: l ∨ ∃ e' ∈ e :: l, x = tickE c e' ∧ e'.tries ≠ 0 ∧ e'.tries < 3) := by
   rintro (q | ⟨e', he, q⟩)
   ·exact .inl (List.mem_cons_of_mem _ q)
   ·exact .inr ⟨e', List.mem_cons_of_mem _ he, q⟩
  split at h
  ·rcases List.mem_cons.1 h with rfl | h
   ·exact .inl List.mem_cons_self
   ·exact up (ih h)
  ·split at h
   ·exact up (ih h)
   ·rename_i h1 h2
    rcases List.mem_cons.1 h with rfl | h
    ·exact .inr ⟨e, List.mem_cons_self, rfl, by omega, by omega⟩
    ·exact up (ih h)
theorem tickL_ips {c : Ca} : ∀ {l : List NE}, ((tickL c l).1.map NE.ip).Sublist (l.map NE.ip) := by
 intro l
 induction l with
 | nil => exact List.Sublist.refl _
 | cons e l ih =>
  rw [tickL]
  split
  ·exact ih.cons_cons _
  ·split
   ·exact ih.cons _
   ·exact ih.cons_cons _
theorem tickL_srt {c : Ca} {l : List NE} (h : l.Pairwise fun a b => a.ip < b.ip) : (tickL c l).1.Pairwise fun a b => a.ip < b.ip := by
 have h1 : (l.map NE.ip).Pairwise fun a b => a < b := List.pairwise_map.2 h
 exact List.pairwise_map.1 (h1.sublist tickL_ips)
theorem tickE_ok {c : Ca} (h : c.ok) {e : NE} (he : e.ok) (h1 : e.tries ≠ 0) (h2 : e.tries < 3) : (tickE c e).ok :=
 ⟨he.ip, he.mac, behind_rng h (by omega), by have := he.tries; simp only [tickE]; omega, he.src, fun q => by have := he.tries; simp only [tickE] at q; omega, fun _ => he.asked h1, he.pk⟩
theorem tickC_ok {c : Ca} (h : c.ok) : (tickC c).2.ok := by
 refine h.sub (tickL_srt h.srt) ?_ ?_
 ·intro x hx
  rcases tickL_mem hx with hx | ⟨e, he, rfl, h1, h2⟩
  ·exact h.all x hx
  ·exact tickE_ok h (h.all e he) h1 h2
 ·have := (tickL_ips (c := c) (l := c.l)).length_le
  simp only [List.length_map] at this
  have := h.len
  omega
theorem tickL_app {c : Ca} : ∀ {l m : List NE}, tickL c (l ++ m) = ((tickL c l).1 ++ (tickL c m).1, (tickL c l).2 ++ (tickL c m).2) := by
 intro l m
 induction l with
 | nil => rfl
 | cons e l ih =>
  simp only [List.cons_append, tickL, ih]
  split
  ·rfl
  ·split <;> rfl
theorem tickL_len {c : Ca} : ∀ {l : List NE}, (tickL c l).2.length ≤ l.length := by
 intro l
 induction l with
 | nil => exact Nat.le_refl _
 | cons e l ih =>
  rw [tickL]
  split
  ·exact Nat.le_succ_of_le ih
  ·split
   ·exact Nat.le_succ_of_le ih
   ·exact Nat.succ_le_succ ih
def sndC (x : Snd × Sl) : List Value := [.int .u8 x.1.dst.a, .int .u8 x.1.dst.b, .int .u8 x.1.dst.c, .int .u8 x.1.dst.d, .int .u8 x.1.dst.e, .int .u8 x.1.dst.f, .int .i64 x.1.kind, x.2.v]
def sndsA (s : Sl) (o : List Snd) : Asn := exs fun X : List (Snd × Sl) => star [Hw.own 59 8 s (X.flatMap sndC), star (X.map fun x => Hw.own 5 1 x.2 (bc x.1.data)), pur (X.map Prod.fst = o)]
theorem snd_a : Try.prog.cellsOf 59 = 8 := by kernel_rfl
theorem snd_z : (zc Try.prog 59).length = 8 := by kernel_rfl
theorem snd_b : Try.prog.bytesOf 59 ≤ 64 := by rw [show Try.prog.bytesOf 59 = 40 by kernel_rfl]; omega
theorem sndC_plain {x : Snd × Sl} : ∀ v ∈ sndC x, plain v = true := by
 intro v hv
 simp only [sndC, List.mem_cons, List.not_mem_nil, or_false] at hv
 rcases hv with rfl | rfl | rfl | rfl | rfl | rfl | rfl | rfl <;> rfl
theorem sndC_len (X : List (Snd × Sl)) : (X.flatMap sndC).length = X.length * 8 := by
 induction X with
 | nil => rfl
 | cons x l ih => show (sndC x ++ l.flatMap sndC).length = _; rw [List.length_append, ih]; simp [sndC]; omega
section
variable {L M : List Asn} {h : Hp} {s : Sl} {o : List Snd}
theorem snds_open (hs : Sat (L ++ [sndsA s o]) h) : ∃ X : List (Snd × Sl), Sat (L ++ [Hw.own 59 8 s (X.flatMap sndC), star (X.map fun x => Hw.own 5 1 x.2 (bc x.1.data))]) h ∧ X.map Prod.fst = o := by
 obtain ⟨X, hs⟩ := hs.exOut
 have hs : Sat (L ++ [star [Hw.own 59 8 s (X.flatMap sndC), star (X.map fun x => Hw.own 5 1 x.2 (bc x.1.data)), pur (X.map Prod.fst = o)]]) h := hs
 have hs := hs.open
 exact ⟨X, hs.sel [0, 1] (by decide) rfl, hs.pur 2 rfl⟩
theorem snds_shut {X : List (Snd × Sl)} (hs : Sat (L ++ [Hw.own 59 8 s (X.flatMap sndC), star (X.map fun x => Hw.own 5 1 x.2 (bc x.1.data))]) h) (hX : X.map Prod.fst = o) : Sat (L ++ [sndsA s o]) h := by
 have h1 : Sat (L ++ [Hw.own 59 8 s (X.flatMap sndC), star (X.map fun x => Hw.own 5 1 x.2 (bc x.1.data)), pur (X.map Prod.fst = o)]) h := hs.andPur hX
 have h2 := h1.close
 unfold sndsA
 exact h2.exIn X
theorem snds_n (hs : Sat (L ++ [sndsA s o]) h) : s.n = o.length := by
 obtain ⟨X, g, hX⟩ := snds_open hs
 have := (g.own 0 rfl).1
 rw [sndC_len] at this
 rw [← hX, List.length_map]; omega
theorem snds_nil (hs : Sat (L ++ M) h) : Sat (L ++ (M ++ [sndsA ⟨none, 0, 0⟩ []])) h := by
 have h1 : Sat ((L ++ M) ++ []) h := by rw [List.append_nil]; exact hs
 have h2 := h1.addNil 59 8
 have h3 : Sat (((L ++ M) ++ [Hw.own 59 8 ⟨none, 0, 0⟩ []]) ++ []) h := by rw [List.append_nil]; exact h2
 have h4 := h3.close
 exact Sat.asc (snds_shut (X := []) (by simpa using h4) rfl)
theorem snds_push {x : Snd} {d : Sl} {F : Sl → Hp → Prop} (hs : Sat (L ++ [sndsA s o, Hw.own 5 1 d (bc x.data)]) h) (ho : o.length ≤ 1000000)
  (hF : ∀ s' h', Sat (L ++ [sndsA s' (o ++ [x])]) h' → F s' h') : nw h (.cells ⟨sndC (x, d)⟩ 59) fun b h0 => apK Try.prog 59 s (.slice (some (bk b)) 1 1) h0 F := by
 have g1 : Sat ((L ++ [Hw.own 5 1 d (bc x.data)]) ++ [sndsA s o]) h := hs.part [1, 0] (by decide) rfl
 obtain ⟨X, g2, hX⟩ := snds_open g1
 have hn : s.n = o.length := snds_n g1
 refine g2.push 0 rfl (k := 1) (ns := sndC (x, d)) snd_a snd_z rfl sndC_plain ?_ ?_
 ·have := snd_b
  have : (s.n + 1) * 2 * Try.prog.bytesOf 59 ≤ (s.n + 1) * 2 * 64 := Nat.mul_le_mul_left _ snd_b
  omega
 ·intro s' h' g3 _
  have g4 : Sat ((L ++ [Hw.own 59 8 s' (X.flatMap sndC ++ sndC (x, d))]) ++ [star (X.map fun x => Hw.own 5 1 x.2 (bc x.1.data)), Hw.own 5 1 d (bc x.data)]) h' := (Sat.asc g3).part [1, 2, 0] (by decide) rfl
  have g5 := g4.into
  have e1 : (X.map fun x => Hw.own 5 1 x.2 (bc x.1.data)) ++ [Hw.own 5 1 d (bc x.data)] = (X ++ [(x, d)]).map fun x => Hw.own 5 1 x.2 (bc x.1.data) := by simp
  have e2 : X.flatMap sndC ++ sndC (x, d) = (X ++ [(x, d)]).flatMap sndC := by simp
  rw [e1, e2] at g5
  exact hF s' h' (snds_shut (X := X ++ [(x, d)]) (Sat.asc g5) (by rw [List.map_append, hX]; rfl))
theorem snds_one {x : Snd} {d : Sl} {F : Nat → Hp → Prop} (hs : Sat (L ++ [Hw.own 5 1 d (bc x.data)]) h) (hF : ∀ b h', Sat (L ++ [sndsA ⟨some (bk b), 1, 1⟩ [x]]) h' → F b h') : nw h (.cells ⟨sndC (x, d)⟩ 59) F := by
 intro b hb
 have g1 := hs.addOwn (T := 59) (sz := 8) (s := ⟨some (bk b), 1, 1⟩) (vs := sndC (x, d)) (Ext.new (o := .cells ⟨sndC (x, d)⟩ 59 (0, 0)) hb) ⟨rfl, Nat.le_refl _, rfl, sndC (x, d), upd_same, rfl, rfl⟩ (by
  intro b' hb'
  simp only [Option.some.injEq] at hb'
  have : b = b' := congrArg Addr.block hb'
  subst this; exact hb)
 have g2 : Sat ((L ++ [Hw.own 59 8 ⟨some (bk b), 1, 1⟩ (sndC (x, d))]) ++ [Hw.own 5 1 d (bc x.data)]) _ := g1.part [1, 0] (by decide) rfl
 have g3 := g2.close
 exact hF b _ (snds_shut (X := [(x, d)]) (by simpa using Sat.asc g3) rfl)
end
end Go.Proofs.Ytkfccpabigikkaa

/-
 The cache: the program's calls Ask, learn, On, Tick.
-/
set_option linter.unusedSimpArgs false
set_option linter.unusedVariables false
set_option maxRecDepth 4000
namespace Go.Proofs.Ytkfccpabigikkaa
open Go Go.Hw
section
variable {L : List Asn} {b : Nat} {c : Ca} {h : Hp}
theorem n_new2 {p : Sl} {pk : List UInt8} {src ip : Int} {K : Sl → Hp → Prop} (hs : Sat (L ++ [cacheA b c]) h) (ho : c.ok) (hp : ∀ h', Sat L h' → RdB h' p pk) (hpl : pk.length ≤ 1099511627776) (hsrc : 0 ≤ src ∧ src < 4294967296) (hip : 0 ≤ ip ∧ ip < 4294967296)
  (hK : ∀ s h', Sat (L ++ [cacheA b (newC c src ip pk).2, sndsA s (newC c src ip pk).1]) h' → K s h') : N12_j2 (some (bk b)) src ip p h K := by
 unfold N12_j2
 obtain ⟨m, g1⟩ := cache_open hs
 simp only [nn_some', add_bk]
 refine g1.lM 0 rfl rfl ?_
 have g2 : Sat ((L ++ [row b 76 (caC c m)]) ++ [pmA keyE entA .u32 m c.l]) h := Sat.csa g1
 refine pm_del g2 ho.nod mu_t mu_k ?_
 intro h1 g3
 have g4 : Sat (L ++ [cacheA b { c with l := delK keyE ip c.l }]) h1 := cache_shut (c := { c with l := delK keyE ip c.l }) (m := m) (Sat.asc g3)
 have ho1 := ho.del ip
 unfold newC at hK
 refine n_room g4 ho1 ?_ ?_
 ·intro hr h2 g5
  simp only [Bool.not_false, cond_true]
  have hr : roomL c.most (delK keyE ip c.l) = none := hr
  rw [hr] at hK
  exact hK _ _ (snds_nil g5)
 ·intro l hr h2 g5
  simp only [Bool.not_true, cond_false]
  have hr' : roomL c.most (delK keyE ip c.l) = some l := hr
  rw [hr'] at hK
  obtain ⟨ho2, hl2, hm2⟩ := ho1.room hr
  have g5 : Sat (L ++ [cacheA b { c with l := l }]) h2 := g5
  refine n_behind g5 ho2 (by omega) ?_
  refine c_bclone (hp h2 g5.left) (by omega) fun d h3 hd => ?_
  have hnip : ∀ x ∈ l, x.ip ≠ ip := fun x hx => (delK_mem (hm2 x hx)).2
  have g6 := g5.addNew hd
  have eb : behindC { c with l := l } 10 = behindC c 10 := rfl
  rw [eb]
  generalize hE : (⟨ip, mac0, behindC c 10, 1, src, pk⟩ : NE) = e at hK
  refine g6.nw ?_
  intro b1 h4 g7 _
  have g7 : Sat ((L ++ [cacheA b { c with l := l }]) ++ [row b1 88 (entC e d), Hw.own 5 1 d (bc e.pk)]) h4 := by
   subst hE
   have g7' : Sat (L ++ [cacheA b { c with l := l }, Hw.own 5 1 d (bc pk), row b1 88 [.int .u8 0, .int .u8 0, .int .u8 0, .int .u8 0, .int .u8 0, .int .u8 0, .int .i64 (behindC c 10), .int .i64 1, .int .u32 src, .slice d.p d.n d.c]]) h4 := g7
   exact g7'.part [0, 2, 1] (by decide) rfl
  have g8 : Sat ((L ++ [entA b1 e]) ++ [cacheA b { c with l := l }]) h4 := (Sat.asc (ent_shut g7)).part [1, 0] (by decide) rfl
  obtain ⟨m, g9⟩ := cache_open g8
  have hke : keyE e = ip := by subst hE; rfl
  have g10 : Sat ((L ++ [row b 76 (caC { c with l := l } m)]) ++ [pmA keyE entA .u32 m l, entA b1 e]) h4 := (Sat.asc g9).part [1, 2, 0] (by decide) rfl
  refine g9.lM 0 rfl rfl ?_
  have hfn : findK keyE (keyE e) l = none := findK_none_of fun x hx => by rw [hke]; exact hnip x hx
  rw [← hke]
  refine pm_newH g10 mu_t mu_k hfn ?_
  intro h5 g11
  have g12 := g11 (putL' e l) (putL_perm e l)
  have hei : e.ip = ip := hke
  rw [show keyE e = e.ip from rfl]
  have hnod : NodK keyE (putL' e l) := srt_nod (putL_srt ho2.srt (fun x hx => by rw [hei]; exact hnip x hx))
  have hfe : findK keyE e.ip (putL' e l) = some e := findK_of hnod ((putL_perm e l).mem_iff.2 List.mem_cons_self) rfl
  generalize hc2 : ({ c with l := putL' e l } : Ca) = c2 at hK
  have hl2' : c2.l = putL' e l := by rw [← hc2]
  have hoc2 : c2.own = c.own := by rw [← hc2]
  have g13 : Sat ((L ++ [pmH keyE entA .u32 m (putL' e l) e.ip b1]) ++ [row b 76 (caC c2 m), entA b1 e]) h5 := by
   rw [← hc2]
   exact (Sat.asc g12).part [1, 0, 2] (by decide) rfl
  have hsr : 0 ≤ e.src ∧ e.src < 4294967296 := by subst hE; exact hsrc
  have hir : 0 ≤ e.ip ∧ e.ip < 4294967296 := by rw [hei]; exact hip
  have hoc : c2.ok := by
   rw [← hc2]
   have := ho2.put (e := e) (by subst hE; exact newE_ok ho hsrc hip hpl) hl2 (fun x hx => by rw [hei]; exact hnip x hx)
   exact this
  refine n_quest g13 hoc hsr hir ?_
  intro s6 h6 g14
  have g15 : Sat ((L ++ [Hw.own 5 1 s6 (bc (questC c2 e).data)]) ++ [row b 76 (caC c2 m), pmH keyE entA .u32 m c2.l e.ip b1, entA b1 e]) h6 := by
   rw [hl2']
   exact (Sat.asc g14).part [3, 1, 0, 2] (by decide) rfl
  have g16 := cache_shut (n_back g15 (by rw [hl2']; exact hnod) (by rw [hl2']; exact hfe))
  have g17 : Sat ((L ++ [cacheA b c2]) ++ [Hw.own 5 1 s6 (bc (questC c2 e).data)]) h6 := (Sat.asc g16).part [1, 0] (by decide) rfl
  refine snds_one (x := questC c2 e) g17 ?_
  intro b2 h7 g18
  have hq : questC c2 e = questC c e := by rw [← hc2]; rfl
  rw [hq, ← hc2] at g18
  exact hK _ _ (Sat.asc g18)
theorem n_ask {p : Sl} {pk : List UInt8} {src ip now : Int} {K : Sl → Hp → Prop} (hs : Sat (L ++ [cacheA b c]) h) (ho : c.ok) (hp : ∀ h', Sat L h' → RdB h' p pk) (hpl : pk.length ≤ 1099511627776) (hsrc : 0 ≤ src ∧ src < 4294967296) (hip : 0 ≤ ip ∧ ip < 4294967296)
  (hK : ∀ s h', Sat (L ++ [cacheA b (askC (tellC c now) src ip pk).2, sndsA s (askC (tellC c now) src ip pk).1]) h' → K s h') : C12 (some (bk b)) src ip p now h K := by
 apply S12; unfold N12
 refine n_tell hs fun h1 g1 => ?_
 have ho1 := ho.tell now
 generalize tellC c now = c1 at hK g1 ho1
 obtain ⟨m, g2⟩ := cache_open g1
 simp only [nn_some', add_bk]
 refine g2.lM 0 rfl rfl ?_
 unfold askC at hK
 refine n_get g2 ho1 ?_ ?_
 ·intro hf r hr
  rw [hf] at hK
  rw [rval_kv hr]
  simp only [Option.getD_none, xP_some, peq_none, Option.isNone_none, Bool.not_true, cond_false, N12_j0, N12_j1]
  exact n_new2 g1 ho1 hp hpl hsrc hip hK
 ·intro e q hf g3 r hr
  rw [hf] at hK
  simp only at hK
  rw [rval_kv hr]
  simp only [Option.getD_some, xP_some, peq_none, Option.isNone_some, Bool.not_false, cond_true]
  obtain ⟨hem, hei⟩ := findK_some hf
  have hei : e.ip = ip := hei
  have heo := ho1.all e hem
  have g4 : Sat ((L ++ [row b 76 (caC c1 m), pmH keyE entA .u32 m c1.l ip q]) ++ [entA q e]) h1 := Sat.csa g3 (A := [_, _])
  refine n_known g4 ?_
  unfold N12_j0
  by_cases ht : e.tries = 0
  ·rw [show (e.tries == 0) = true by simp [ht], Bool.not_true, cond_false]
   simp only [peq_none, Option.isNone_some, Bool.not_false, cond_true, nn_some', add_bk]
   rw [if_neg (fun q => q ht)] at hK
   refine g2.lI 0 rfl rfl ?_
   obtain ⟨se, g5⟩ := ent_open g4
   refine g5.lI 0 rfl rfl ?_
   unfold N12_j1
   by_cases hnow : c1.now < e.til
   ·rw [if_pos hnow] at hK
    rw [decide_eq_true hnow, cond_true]
    simp only [nn_some', add_bk]
    refine g5.lI 0 rfl rfl ?_
    refine g5.lI 0 rfl rfl ?_
    refine g5.lI 0 rfl rfl ?_
    refine g5.lI 0 rfl rfl ?_
    refine g5.lI 0 rfl rfl ?_
    refine g5.lI 0 rfl rfl ?_
    refine c_bclone (hp h1 g1.left) (by omega) fun d h2 hd => ?_
    have g6 := g5.ext hd.1
    refine ⟨g6.lI 0 rfl rfl (g6.lI 0 rfl rfl (g6.lI 0 rfl rfl (g6.lI 0 rfl rfl (g6.lI 0 rfl rfl (g6.lI 0 rfl rfl ⟨rfl, rfl⟩))))), ?_⟩
    have g7 := g1.addNew hd
    have g8 : Sat ((L ++ [cacheA b c1]) ++ [Hw.own 5 1 d (bc pk)]) h2 := Sat.csa g7 (A := [_])
    refine snds_one (x := ⟨e.mac, 2048, pk⟩) g8 ?_
    intro b2 h3 g9
    exact hK _ _ (Sat.asc g9)
   ·rw [if_neg hnow] at hK
    rw [decide_eq_false hnow, cond_false]
    exact n_new2 g1 ho1 hp hpl hsrc hip hK
  ·rw [show (e.tries == 0) = false by simp [ht], Bool.not_false, cond_true]
   rw [if_pos ht] at hK
   refine c_bclone (hp h1 g1.left) (by omega) fun d h2 hd => ?_
   simp only [nn_some', add_bk]
   have g5 := g4.addNew hd
   have g6 : Sat ((L ++ [row b 76 (caC c1 m), pmH keyE entA .u32 m c1.l ip q, Hw.own 5 1 d (bc pk)]) ++ [entA q e]) h2 := (Sat.asc g5).part [0, 1, 3, 2] (by decide) rfl
   obtain ⟨se, g7⟩ := ent_open g6
   refine g7.st 0 rfl (by simp [entC]) rfl fun h3 g8 => ?_
   refine Sat.st g8 0 rfl (by simp [entC]) rfl fun h4 g9 => ?_
   have g10 : Sat ((L ++ [row b 76 (caC c1 m), pmH keyE entA .u32 m c1.l ip q]) ++ [row q 88 (entC { e with src := src, pk := pk } d), Hw.own 5 1 d (bc pk)]) h4 := (Sat.asc g9).part [0, 1, 3, 2] (by decide) rfl
   have g11 : Sat ((L ++ [row b 76 (caC c1 m)]) ++ [pmH keyE entA .u32 m c1.l ip q, entA q { e with src := src, pk := pk }]) h4 := Sat.mv (ent_shut (e := { e with src := src, pk := pk }) g10)
   have g12 := pm_in g11 ho1.nod hei
   have g13 : Sat (L ++ [cacheA b { c1 with l := updK keyE ip { e with src := src, pk := pk } c1.l }]) h4 := cache_shut (c := { c1 with l := updK keyE ip { e with src := src, pk := pk } c1.l }) (m := m) (Sat.asc g12)
   exact hK _ _ (snds_nil g13)
def arpC (op : Int) (s : M6) (si : Int) (d : M6) (di : Int) : List Value := [.int .i64 op, .int .u8 s.a, .int .u8 s.b, .int .u8 s.c, .int .u8 s.d, .int .u8 s.e, .int .u8 s.f, .int .u32 si, .int .u8 d.a, .int .u8 d.b, .int .u8 d.c, .int .u8 d.d, .int .u8 d.e, .int .u8 d.f, .int .u32 di]
theorem learn_end {z m : Nat} {X : Asn} {op si di : Int} {s6 d6 : M6} {out : Sl} {o : List Snd} {l' : List NE} {K : Sl → Hp → Prop} (hs : Sat (L ++ [row z 42 (arpC op s6 si d6 di), sndsA out o, row b 76 (caC c m), X]) h) (ho : c.ok)
  (hX : ∀ (L' : List Asn) (q : Nat) (h1 : Hp) (F : Hp → Prop), Sat (L' ++ [X, entA q ⟨si, s6, behindC c 600, 0, 0, []⟩]) h1 → (∀ h2, Sat (L' ++ [pmA keyE entA .u32 m l']) h2 → F h2) → Hw.muK Try.prog 74 (.map (some m)) (.int .u32 si) (.pointer (some (bk q))) h1 F)
  (hK : ∀ h', Sat (L ++ [sndsA out o, cacheA b { c with l := l' }]) h' → K out h') : N48_j1 (some (bk b)) (some (bk z)) out h K := by
 unfold N48_j1
 simp only [nn_some', add_bk]
 refine hs.lM 2 rfl rfl ?_
 refine hs.lI 0 rfl rfl ?_
 refine hs.lI 0 rfl rfl ?_
 refine hs.lI 0 rfl rfl ?_
 refine hs.lI 0 rfl rfl ?_
 refine hs.lI 0 rfl rfl ?_
 refine hs.lI 0 rfl rfl ?_
 refine hs.lI 0 rfl rfl ?_
 refine n_behind1 hs 2 rfl ho (by omega) ?_
 refine ⟨hs.lI 0 rfl rfl (hs.lI 0 rfl rfl (hs.lI 0 rfl rfl (hs.lI 0 rfl rfl (hs.lI 0 rfl rfl (hs.lI 0 rfl rfl ⟨rfl, rfl⟩))))), hs.lI 0 rfl rfl ⟨rfl, rfl⟩, hs.lM 2 rfl rfl ⟨rfl, rfl⟩, ?_⟩
 refine hs.nw ?_
 intro b1 h1 g3 _
 have g4 : Sat ((L ++ [row z 42 (arpC op s6 si d6 di), sndsA out o, row b 76 (caC c m), X]) ++ [row b1 88 (entC ⟨si, s6, behindC c 600, 0, 0, []⟩ ⟨none, 0, 0⟩)]) h1 := Sat.csa g3 (A := [_, _, _, _])
 have g6 : Sat ((L ++ [row z 42 (arpC op s6 si d6 di), sndsA out o, row b 76 (caC c m), X]) ++ [row b1 88 (entC ⟨si, s6, behindC c 600, 0, 0, []⟩ ⟨none, 0, 0⟩), Hw.own 5 1 ⟨none, 0, 0⟩ (bc (NE.mk si s6 (behindC c 600) 0 0 []).pk)]) h1 := g4.addNil 5 1
 have g7 := ent_shut g6
 have g8 : Sat (L ++ [row z 42 (arpC op s6 si d6 di), sndsA out o, row b 76 (caC c m), X, entA b1 ⟨si, s6, behindC c 600, 0, 0, []⟩]) h1 := Sat.asc g7
 refine ⟨g8.lI 0 rfl rfl ⟨rfl, rfl⟩, g8.lM 2 rfl rfl ⟨rfl, rfl⟩, ?_⟩
 have g9 : Sat ((L ++ [sndsA out o, row b 76 (caC c m)]) ++ [X, entA b1 ⟨si, s6, behindC c 600, 0, 0, []⟩]) h1 := g8.part [1, 2, 3, 4] (by decide) rfl
 refine hX _ _ _ _ g9 fun h2 g => ?_
 have g1 : Sat ((L ++ [sndsA out o]) ++ [row b 76 (caC { c with l := l' } m), pmA keyE entA .u32 m ({ c with l := l' } : Ca).l]) h2 := Sat.mv g
 exact hK h2 (Sat.asc (cache_shut g1))
theorem n_learn {op si di : Int} {s6 d6 : M6} {asks : Bool} {K : Sl → Hp → Prop} (hs : Sat (L ++ [cacheA b c]) h) (ho : c.ok) (hm : s6.ok) (hi : 0 ≤ si ∧ si < 4294967296)
  (hK : ∀ s h', Sat (L ++ [cacheA b (learnC c si s6 asks).2, sndsA s (learnC c si s6 asks).1]) h' → K s h') : C48 (some (bk b)) op s6.a s6.b s6.c s6.d s6.e s6.f si d6.a d6.b d6.c d6.d d6.e d6.f di asks h K := by
 apply S48; unfold N48
 refine hs.nw ?_
 intro z h1 g1 _
 have g1 : Sat (L ++ [cacheA b c, row z 42 (arpC op s6 si d6 di)]) h1 := g1
 have g2 : Sat ((L ++ [row z 42 (arpC op s6 si d6 di)]) ++ [cacheA b c]) h1 := g1.part [1, 0] (by decide) rfl
 obtain ⟨m, g3⟩ := cache_open g2
 simp only [nn_some', add_bk]
 refine g3.lM 0 rfl rfl ?_
 refine g1.lI 1 rfl rfl ?_
 unfold learnC at hK
 refine n_get g3 ho ?_ ?_
 ·intro hf r hr
  rw [hf] at hK
  simp only at hK
  rw [rval_kv hr]
  simp only [Option.getD_none, xP_some, peq_none, Option.isNone_none, Bool.not_true, cond_false, N48_j0, cond_true]
  cases asks with
  | false =>
   simp only [Bool.not_false, cond_true]
   rw [if_neg (by decide)] at hK
   have g4 : Sat (L ++ [cacheA b c]) h1 := g1.sel [0] (by decide) rfl
   exact hK _ _ (snds_nil g4)
  | true =>
   simp only [Bool.not_true, cond_false]
   rw [if_pos rfl] at hK
   refine n_room g2 ho ?_ ?_
   ·intro hr h2 g4
    rw [hr] at hK
    simp only [Bool.not_false, cond_true]
    have g5 : Sat (L ++ [cacheA b c]) h2 := (Sat.asc g4).sel [1] (by decide) rfl
    exact hK _ _ (snds_nil g5)
   ·intro l hr h2 g4
    rw [hr] at hK
    simp only [Bool.not_true, cond_false]
    obtain ⟨ho2, hl2, hm2⟩ := ho.room hr
    have g5 := snds_nil g4
    have g6 : Sat (L ++ [row z 42 (arpC op s6 si d6 di), sndsA ⟨none, 0, 0⟩ [], cacheA b { c with l := l }]) h2 := (Sat.asc g5).sel [0, 2, 1] (by decide) rfl
    have g6 : Sat ((L ++ [row z 42 (arpC op s6 si d6 di), sndsA ⟨none, 0, 0⟩ []]) ++ [cacheA b { c with l := l }]) h2 := Sat.csa g6 (A := [_, _])
    obtain ⟨m, g6⟩ := cache_open g6
    refine learn_end (c := { c with l := l }) (l' := putL' ⟨si, s6, behindC c 600, 0, 0, []⟩ l) (Sat.asc g6) ho2 ?_ fun h3 g7 => ?_
    ·intro L' q h4 F g hF
     refine pm_new g mu_t mu_k (findK_none_of fun x hx => findK_none hf x (hm2 x hx)) fun h5 g' => hF h5 (g' _ (putL_perm _ l))
    ·exact hK _ _ (g7.sel [1, 0] (by decide) rfl)
 ·intro e q hf g4 r hr
  rw [hf] at hK
  simp only at hK
  rw [rval_kv hr]
  simp only [Option.getD_some, xP_some, peq_none, Option.isNone_some, Bool.not_false, cond_true]
  have g5 : Sat ((L ++ [row z 42 (arpC op s6 si d6 di), row b 76 (caC c m), pmH keyE entA .u32 m c.l si q]) ++ [entA q e]) h1 := Sat.mv g4
  refine n_known g5 ?_
  unfold N48_j0
  by_cases ht : e.tries = 0
  ·rw [show (e.tries == 0) = true by simp [ht], Bool.not_true, cond_false]
   rw [if_neg (fun q => q ht)] at hK
   simp only [peq_none, Option.isNone_some, cond_false]
   have g6 := snds_nil g2
   have g7 : Sat ((L ++ [row z 42 (arpC op s6 si d6 di), sndsA ⟨none, 0, 0⟩ []]) ++ [cacheA b c]) h1 := (Sat.asc g6).part [0, 2, 1] (by decide) rfl
   obtain ⟨m, g7⟩ := cache_open g7
   refine learn_end (l' := updK keyE si ⟨si, s6, behindC c 600, 0, 0, []⟩ c.l) (Sat.asc g7) ho ?_ fun h3 g8 => ?_
   ·intro L' q h4 F g hF
    exact pm_put g ho.nod mu_t mu_k hf hF
   ·exact hK _ _ (g8.sel [1, 0] (by decide) rfl)
  ·rw [show (e.tries == 0) = false by simp [ht], Bool.not_false, cond_true]
   rw [if_pos ht] at hK
   simp only [nn_some', add_bk]
   refine g1.lI 1 rfl rfl ?_
   refine g1.lI 1 rfl rfl ?_
   refine g1.lI 1 rfl rfl ?_
   refine g1.lI 1 rfl rfl ?_
   refine g1.lI 1 rfl rfl ?_
   refine g1.lI 1 rfl rfl ?_
   obtain ⟨se, g6⟩ := ent_open g5
   refine g6.lL 0 rfl rfl ?_
   -- the packet goes out: in its place the entry has none
   have g7 := snds_nil g6
   have g8 : Sat ((L ++ [row z 42 (arpC op s6 si d6 di), row b 76 (caC c m), pmH keyE entA .u32 m c.l si q]) ++ [sndsA ⟨none, 0, 0⟩ [], Hw.own 5 1 se (bc e.pk)]) h1 := (Sat.asc g7).part [0, 1, 2, 5, 4] (by decide) rfl
   refine snds_push (x := ⟨s6, 2048, e.pk⟩) g8 (by simp) ?_
   intro out h2 g9
   have g10 : Sat (L ++ [row z 42 (arpC op s6 si d6 di), sndsA out [⟨s6, 2048, e.pk⟩], row b 76 (caC c m), pmH keyE entA .u32 m c.l si q]) h2 := (Sat.asc g9).sel [0, 3, 1, 2] (by decide) rfl
   refine learn_end (l' := updK keyE si ⟨si, s6, behindC c 600, 0, 0, []⟩ c.l) g10 ho ?_ fun h3 g11 => ?_
   ·intro L' q' h4 F g hF
    exact pm_putH (key := keyE) (obj := entA) (a := ⟨si, s6, behindC c 600, 0, 0, []⟩) (q0 := q) g ho.nod mu_t mu_k hF
   ·exact hK _ _ (g11.sel [1, 0] (by decide) rfl)
theorem on_end {z : Nat} {op si di : Int} {s6 d6 : M6} {asks : Bool} {out : Sl} {o : List Snd} {K : Sl → Hp → Prop} (hs : Sat (L ++ [row z 42 (arpC op s6 si d6 di), cacheA b c, sndsA out o]) h) (ho : c.ok) (hm : s6.ok) (hi : 0 ≤ si ∧ si < 4294967296) (hd : 0 ≤ di ∧ di < 4294967296) (hol : o.length ≤ 1000)
  (hK : ∀ s h', Sat (L ++ [cacheA b c, sndsA s (o ++ if asks then [⟨s6, 2054, arpL 2 c.own di s6 si⟩] else [])]) h' → K s h') : N18_j3 (some (bk b)) (some (bk z)) asks out h K := by
 unfold N18_j3
 cases asks with
 | false =>
  rw [cond_false]
  rw [if_neg (by decide), List.append_nil] at hK
  exact hK _ _ (hs.sel [1, 2] (by decide) rfl)
 | true =>
  rw [cond_true]
  rw [if_pos rfl] at hK
  have g1 : Sat ((L ++ [row z 42 (arpC op s6 si d6 di), sndsA out o]) ++ [cacheA b c]) h := hs.part [0, 2, 1] (by decide) rfl
  obtain ⟨m, g2⟩ := cache_open g1
  simp only [nn_some', add_bk]
  refine g2.lI 0 rfl rfl ?_
  refine g2.lI 0 rfl rfl ?_
  refine g2.lI 0 rfl rfl ?_
  refine g2.lI 0 rfl rfl ?_
  refine g2.lI 0 rfl rfl ?_
  refine g2.lI 0 rfl rfl ?_
  refine hs.lI 0 rfl rfl ?_
  refine hs.lI 0 rfl rfl ?_
  refine hs.lI 0 rfl rfl ?_
  refine hs.lI 0 rfl rfl ?_
  refine hs.lI 0 rfl rfl ?_
  refine hs.lI 0 rfl rfl ?_
  refine hs.lI 0 rfl rfl ?_
  refine hs.lI 0 rfl rfl ?_
  refine hs.lI 0 rfl rfl ?_
  refine hs.lI 0 rfl rfl ?_
  refine hs.lI 0 rfl rfl ?_
  refine hs.lI 0 rfl rfl ?_
  refine hs.lI 0 rfl rfl ?_
  refine hs.lI 0 rfl rfl ?_
  refine hs.lI 0 rfl rfl ?_
  refine c_atell (m := c.own) (sm := s6) (dm := d6) fun h1 he1 => ?_
  refine c_aenc (op := 2) (s := c.own) (d := s6) (.inr rfl) ho.own hm hd hi fun h2 x hx => ?_
  have g3 := (hs.ext he1).addNew hx
  have g3 : Sat (L ++ [row z 42 (arpC op s6 si d6 di), cacheA b c, sndsA out o, Hw.own 5 1 x (bc (arpL 2 c.own di s6 si))]) h2 := g3
  refine g3.lI 0 rfl rfl ?_
  refine g3.lI 0 rfl rfl ?_
  refine g3.lI 0 rfl rfl ?_
  refine g3.lI 0 rfl rfl ?_
  refine g3.lI 0 rfl rfl ?_
  refine g3.lI 0 rfl rfl ?_
  have g4 : Sat ((L ++ [cacheA b c]) ++ [sndsA out o, Hw.own 5 1 x (bc (arpL 2 c.own di s6 si))]) h2 := g3.part [1, 2, 3] (by decide) rfl
  refine snds_push (x := ⟨s6, 2054, arpL 2 c.own di s6 si⟩) g4 (by omega) fun s' h3 g5 => ?_
  exact hK _ _ (Sat.asc g5)
theorem learn_n {c : Ca} {si : Int} {s6 : M6} {asks : Bool} : (learnC c si s6 asks).1.length ≤ 1 := by
 unfold learnC
 split
 ·dsimp only; split <;> simp
 ·split
  ·split <;> simp
  ·simp
theorem learn_own {c : Ca} {si : Int} {s6 : M6} {asks : Bool} : (learnC c si s6 asks).2.own = c.own := by
 unfold learnC
 split
 ·rfl
 ·split
  ·split <;> rfl
  ·rfl
theorem on_mid {z : Nat} {op si di own : Int} {s6 d6 : M6} {asks : Bool} {K : Sl → Hp → Prop} (hs : Sat (L ++ [cacheA b c, row z 42 (arpC op s6 si d6 di)]) h) (ho : c.ok) (hm : s6.ok) (hi : 0 ≤ si ∧ si < 4294967296) (hd : 0 ≤ di ∧ di < 4294967296)
  (hK : ∀ s h', Sat (L ++ [cacheA b (if isHost si && decide (si ≠ own) then learnC c si s6 asks else ([], c)).2, sndsA s ((if isHost si && decide (si ≠ own) then learnC c si s6 asks else ([], c)).1 ++ if asks then [⟨s6, 2054, arpL 2 c.own di s6 si⟩] else [])]) h' → K s h') : N18_j1 (some (bk b)) own (some (bk z)) asks h K := by
 unfold N18_j1
 simp only [nn_some', add_bk]
 refine hs.lI 1 rfl rfl ?_
 refine c_isHost ?_
 have no : N18_j2 (some (bk b)) (some (bk z)) asks ⟨none, 0, 0⟩ false h (fun s2 h3 => N18_j3 (some (bk b)) (some (bk z)) asks s2 h3 fun s3 h4 => K s3 h4) ∨ (isHost si && decide (si ≠ own)) = true := by
  by_cases hq : (isHost si && decide (si ≠ own)) = true
  ·exact .inr hq
  ·left
   unfold N18_j2
   rw [cond_false]
   have g1 := snds_nil hs
   have g2 : Sat (L ++ [row z 42 (arpC op s6 si d6 di), cacheA b c, sndsA ⟨none, 0, 0⟩ []]) h := g1.sel [1, 0, 2] (by decide) rfl
   refine on_end g2 ho hm hi hd (by simp) fun s h' g => ?_
   rw [if_neg hq] at hK
   exact hK _ _ g
 cases hh : isHost si with
 | false =>
  rw [cond_false]
  rcases no with no | no
  ·exact no
  ·rw [hh] at no; cases no
 | true =>
  rw [cond_true]
  refine hs.lI 1 rfl rfl ?_
  by_cases hso : si = own
  ·rw [show (si != own) = false by simp [hso]]
   rcases no with no | no
   ·exact no
   ·simp [hso] at no
  ·rw [show (si != own) = true by simp [hso]]
   rw [if_pos (by simp [hh, hso])] at hK
   unfold N18_j2
   rw [cond_true]
   simp only [nn_some', add_bk]
   refine hs.lI 1 rfl rfl ?_
   refine hs.lI 1 rfl rfl ?_
   refine hs.lI 1 rfl rfl ?_
   refine hs.lI 1 rfl rfl ?_
   refine hs.lI 1 rfl rfl ?_
   refine hs.lI 1 rfl rfl ?_
   refine hs.lI 1 rfl rfl ?_
   refine hs.lI 1 rfl rfl ?_
   refine hs.lI 1 rfl rfl ?_
   refine hs.lI 1 rfl rfl ?_
   refine hs.lI 1 rfl rfl ?_
   refine hs.lI 1 rfl rfl ?_
   refine hs.lI 1 rfl rfl ?_
   refine hs.lI 1 rfl rfl ?_
   refine hs.lI 1 rfl rfl ?_
   have g1 : Sat ((L ++ [row z 42 (arpC op s6 si d6 di)]) ++ [cacheA b c]) h := hs.part [1, 0] (by decide) rfl
   refine n_learn (s6 := s6) (d6 := d6) g1 ho hm hi fun s1 h1 g2 => ?_
   have g3 : Sat (L ++ [row z 42 (arpC op s6 si d6 di), cacheA b (learnC c si s6 asks).2, sndsA s1 (learnC c si s6 asks).1]) h1 := Sat.asc g2
   refine on_end g3 (learnC_ok ho hm hi) hm hi hd (by have := learn_n (c := c) (si := si) (s6 := s6) (asks := asks); omega) fun s h' g => ?_
   rw [learn_own] at g
   exact hK _ _ g
theorem n_on {op si di own now : Int} {s6 d6 : M6} {K : Sl → Hp → Prop} (hs : Sat (L ++ [cacheA b c]) h) (ho : c.ok) (hm : s6.ok) (hi : 0 ≤ si ∧ si < 4294967296) (hd : 0 ≤ di ∧ di < 4294967296)
  (hK : ∀ s h', Sat (L ++ [cacheA b (onC (tellC c now) op s6 si di own).2, sndsA s (onC (tellC c now) op s6 si di own).1]) h' → K s h') : C18 (some (bk b)) op s6.a s6.b s6.c s6.d s6.e s6.f si d6.a d6.b d6.c d6.d d6.e d6.f di own now h K := by
 apply S18; unfold N18
 refine hs.nw ?_
 intro z h1 g1 _
 have g1 : Sat (L ++ [cacheA b c, row z 42 (arpC op s6 si d6 di)]) h1 := g1
 have g2 : Sat ((L ++ [row z 42 (arpC op s6 si d6 di)]) ++ [cacheA b c]) h1 := g1.part [1, 0] (by decide) rfl
 refine n_tell g2 fun h2 g3 => ?_
 have ho1 := ho.tell now
 generalize tellC c now = c1 at hK g3 ho1
 have g4 : Sat (L ++ [cacheA b c1, row z 42 (arpC op s6 si d6 di)]) h2 := (Sat.asc g3).sel [1, 0] (by decide) rfl
 have none_ : ((op ≠ 1 ∧ op ≠ 2) ∨ s6.a % 2 = 1) → ∀ {h3}, Sat (L ++ [cacheA b c1, row z 42 (arpC op s6 si d6 di)]) h3 → K ⟨none, 0, 0⟩ h3 := by
  intro q h3 g
  unfold onC at hK
  rw [if_pos q] at hK
  have g5 : Sat (L ++ [cacheA b c1]) h3 := g.sel [0] (by decide) rfl
  exact hK _ _ (snds_nil g5)
 have j0 : (op = 1 ∨ op = 2) → s6.a % 2 ≠ 1 → ∀ {h3}, Sat (L ++ [cacheA b c1, row z 42 (arpC op s6 si d6 di)]) h3 → N18_j0 (some (bk b)) own (some (bk z)) h3 K := by
  intro q1 q2 h3 g
  unfold onC at hK
  rw [if_neg (by omega)] at hK
  simp only at hK
  unfold N18_j0
  by_cases ho0 : own = 0
  ·rw [show (own != 0) = false by simp [ho0], cond_false]
   have ha : asksC op own di = false := by unfold asksC; simp [ho0]
   rw [ha] at hK
   exact on_mid g ho1 hm hi hd hK
  ·rw [show (own != 0) = true by simp [ho0], cond_true]
   simp only [nn_some', add_bk]
   refine Sat.lI g 1 (k := 0) rfl rfl ?_
   by_cases hop : op = 1
   ·rw [show (op == 1) = true by simp [hop], cond_true]
    refine g.lI 1 rfl rfl ?_
    have ha : asksC op own di = (di == own) := by unfold asksC; simp [ho0, hop, BEq.beq]
    rw [ha] at hK
    exact on_mid g ho1 hm hi hd hK
   ·rw [show (op == 1) = false by simp [hop], cond_false]
    have ha : asksC op own di = false := by unfold asksC; simp [hop]
    rw [ha] at hK
    exact on_mid g ho1 hm hi hd hK
 have grp : (op = 1 ∨ op = 2) → ∀ {h3}, Sat (L ++ [cacheA b c1, row z 42 (arpC op s6 si d6 di)]) h3 → C46 s6.a s6.b s6.c s6.d s6.e s6.f h3 fun b1 h2 => bif b1 then K ⟨none, 0, 0⟩ h2 else N18_j0 (some (bk b)) own (some (bk z)) h2 fun s0 h3 => K s0 h3 := by
  intro q1 h3 g
  refine c_group hm.1.1 hm.1.2 fun h4 he4 => ?_
  have g5 := g.ext he4
  by_cases hg : s6.a % 2 = 1
  ·rw [show (s6.a % 2 == 1) = true by simp [hg], cond_true]
   exact none_ (.inr hg) g5
  ·rw [show (s6.a % 2 == 1) = false by simp [hg], cond_false]
   exact j0 q1 hg g5
 simp only [add_bk]
 refine g4.lI 1 (k := 0) rfl rfl ?_
 by_cases h1' : op = 1
 ·rw [show (op != 1) = false by simp [h1'], cond_false]
  refine g4.lI 1 rfl rfl ?_
  refine g4.lI 1 rfl rfl ?_
  refine g4.lI 1 rfl rfl ?_
  refine g4.lI 1 rfl rfl ?_
  refine g4.lI 1 rfl rfl ?_
  refine g4.lI 1 rfl rfl ?_
  exact grp (.inl h1') g4
 ·rw [show (op != 1) = true by simp [h1'], cond_true]
  refine g4.lI 1 (k := 0) rfl rfl ?_
  by_cases h2' : op = 2
  ·rw [show (op != 2) = false by simp [h2'], cond_false]
   refine g4.lI 1 rfl rfl ?_
   refine g4.lI 1 rfl rfl ?_
   refine g4.lI 1 rfl rfl ?_
   refine g4.lI 1 rfl rfl ?_
   refine g4.lI 1 rfl rfl ?_
   refine g4.lI 1 rfl rfl ?_
   exact grp (.inr h2') g4
  ·rw [show (op != 2) = true by simp [h2'], cond_true]
   exact none_ (.inl ⟨h1', h2'⟩) g4
theorem n_tick {now : Int} {K : Sl → Hp → Prop} (hs : Sat (L ++ [cacheA b c]) h) (ho : c.ok)
  (hK : ∀ s h', Sat (L ++ [cacheA b (tickC (tellC c now)).2, sndsA s (tickC (tellC c now)).1]) h' → K s h') : C19 (some (bk b)) now h K := by
 apply S19; unfold N19
 refine n_tell hs fun h1 g1 => ?_
 have ho1 := ho.tell now
 generalize tellC c now = c1 at hK g1 ho1
 refine n_sorted g1 ho1 fun s0 h2 g2 => ?_
 have g3 := snds_nil g2
 have sn : s0.n = c1.l.length := by have := (g2.own 1 rfl).1; simp [uz] at this; exact this.symm
 have hl64 := ho1.len
 have hm64 := ho1.most
 unfold N19_l0
 -- behind i addresses
 have stl : ∀ i, (tickL c1 (c1.l.take i)).1 ++ c1.l.drop i = (tickL c1 (c1.l.take i)).1 ++ c1.l.drop i := fun _ => rfl
 have mid_ok : ∀ i, i ≤ c1.l.length → ({ c1 with l := (tickL c1 (c1.l.take i)).1 ++ c1.l.drop i } : Ca).ok := by
  intro i hi
  refine ho1.sub ?_ ?_ ?_
  ·have h1 : (c1.l.map NE.ip).Pairwise fun a b => a < b := List.pairwise_map.2 ho1.srt
   have h2 : (((tickL c1 (c1.l.take i)).1 ++ c1.l.drop i).map NE.ip).Sublist (c1.l.map NE.ip) := by
    rw [List.map_append]
    conv => rhs; rw [← List.take_append_drop i c1.l, List.map_append]
    exact (tickL_ips).append (List.Sublist.refl _)
   exact List.pairwise_map.1 (h1.sublist h2)
  ·intro e he
   rcases List.mem_append.1 he with he | he
   ·rcases tickL_mem he with hx | ⟨e', he', rfl, q1, q2⟩
    ·exact ho1.all e (List.mem_of_mem_take hx)
    ·exact tickE_ok ho1 (ho1.all e' (List.mem_of_mem_take he')) q1 q2
   ·exact ho1.all e (List.mem_of_mem_drop he)
  ·have := (tickL_ips (c := c1) (l := c1.l.take i)).length_le
   simp only [List.length_map, List.length_take] at this
   simp only [List.length_append, List.length_drop]
   omega
 refine loopP_inv (fun (x : Sl × Int) hc => ∃ i : Nat, x.2 = i ∧ i ≤ c1.l.length ∧ Sat (L ++ [cacheA b { c1 with l := (tickL c1 (c1.l.take i)).1 ++ c1.l.drop i }, Hw.own 39 1 s0 (uz (c1.l.map NE.ip)), sndsA x.1 (tickL c1 (c1.l.take i)).2]) hc) (fun x _ => c1.l.length - x.2.toNat) ?_ ⟨0, rfl, Nat.zero_le _, g3⟩
 rintro ⟨acc, x⟩ hc ⟨i, hx, hi, g4⟩
 simp only at hx g4
 subst hx
 unfold N19_l0_B N19_l0_b
 dsimp only
 by_cases hil : i < c1.l.length
 ·rw [show decide ((i : Int) < ((s0.n : Nat) : Int)) = true from decide_eq_true (by omega), cond_true]
  have hpi : c1.l[i]? = some c1.l[i] := List.getElem?_eq_getElem hil
  have htk : c1.l.take (i + 1) = c1.l.take i ++ [c1.l[i]] := List.take_succ_eq_append_getElem hil
  have hdr : c1.l.drop i = c1.l[i] :: c1.l.drop (i + 1) := List.drop_eq_getElem_cons hil
  have hmo := mid_ok i hi
  rw [hdr] at g4 hmo
  generalize c1.l[i] = e at hpi htk hdr g4 hmo
  have hti := tickL_app (c := c1) (l := c1.l.take i) (m := [e])
  rw [← htk] at hti
  have hmem := List.mem_of_getElem? hpi
  have heo := ho1.all e hmem
  generalize hA : (tickL c1 (c1.l.take i)).1 = A at g4 hmo hti
  generalize hB : (tickL c1 (c1.l.take i)).2 = B at g4 hti
  have hBl : B.length ≤ 64 := by rw [← hB]; have := tickL_len (c := c1) (l := c1.l.take i); rw [List.length_take] at this; omega
  generalize hD : c1.l.drop (i + 1) = D at g4 hmo
  refine idx_of (by omega) (by omega) ?_
  simp only [Int.toNat_natCast, Nat.mul_one]
  refine g4.oI 1 rfl (n := e.ip) (by simp [uz, hpi]) ?_
  have g5 : Sat ((L ++ [Hw.own 39 1 s0 (uz (c1.l.map NE.ip)), sndsA acc B]) ++ [cacheA b { c1 with l := A ++ e :: D }]) hc := g4.part [1, 2, 0] (by decide) rfl
  obtain ⟨m, g6⟩ := cache_open g5
  simp only [nn_some', add_bk]
  refine g6.lM 0 rfl rfl ?_
  have hfe : findK keyE e.ip (A ++ e :: D) = some e := findK_of (srt_nod hmo.srt) (by simp) rfl
  refine n_get g6 hmo (fun hf => by rw [hfe] at hf; cases hf) ?_
  intro e' q hf g7 r hr'
  rw [hfe] at hf; cases hf
  rw [rval_kv hr']
  simp only [Option.getD_some, xP_some, nn_some', add_bk]
  have g8 : Sat ((L ++ [Hw.own 39 1 s0 (uz (c1.l.map NE.ip)), sndsA acc B, row b 76 (caC { c1 with l := A ++ e :: D } m), pmH keyE entA .u32 m (A ++ e :: D) e.ip q]) ++ [entA q e]) hc := Sat.mv g7
  obtain ⟨se, g9⟩ := ent_open g8
  refine g9.lI 0 rfl rfl ?_
  refine g6.lI 0 rfl rfl ?_
  have nx : IntKind.wrap .i64 ((i : Int) + 1) = ((i + 1 : Nat) : Int) := nat_succ64 (by omega)
  rw [nx]
  have next : ∀ {s' : Sl} {h' : Hp} {l' : List NE} {o' : List Snd}, Sat (L ++ [cacheA b { c1 with l := l' }, Hw.own 39 1 s0 (uz (c1.l.map NE.ip)), sndsA s' o']) h' → l' = (tickL c1 (c1.l.take (i + 1))).1 ++ D → o' = (tickL c1 (c1.l.take (i + 1))).2 →
    (∃ k : Nat, ((i + 1 : Nat) : Int) = k ∧ k ≤ c1.l.length ∧ Sat (L ++ [cacheA b { c1 with l := (tickL c1 (c1.l.take k)).1 ++ c1.l.drop k }, Hw.own 39 1 s0 (uz (c1.l.map NE.ip)), sndsA s' (tickL c1 (c1.l.take k)).2]) h') ∧ c1.l.length - (((i + 1 : Nat) : Int)).toNat < c1.l.length - ((i : Nat) : Int).toNat := by
   intro s' h' l' o' g hl ho'
   subst hl; subst ho'
   refine ⟨⟨i + 1, rfl, hil, ?_⟩, by simp only [Int.toNat_natCast]; omega⟩
   rw [hD]; exact g
  by_cases hnow : c1.now < e.til
  ·rw [decide_eq_true (show e.til > ({ c1 with l := A ++ e :: D } : Ca).now from hnow), cond_true]
   have ht : tickL c1 [e] = ([e], []) := by simp only [tickL]; rw [if_pos hnow]
   rw [ht] at hti
   exact next g4 (by rw [hti]; simp) (by rw [hti]; simp)
  ·rw [decide_eq_false (show ¬ e.til > ({ c1 with l := A ++ e :: D } : Ca).now from hnow), cond_false]
   refine n_known g8 ?_
   -- it goes
   have goes : (e.tries = 0 ∨ 3 ≤ e.tries) → N19_j1 (some (bk b)) acc e.ip (some (bk q)) s0 ((s0.n : Nat) : Int) (i : Int) true hc (fun s0' h1 => (∃ k : Nat, ((i + 1 : Nat) : Int) = k ∧ k ≤ c1.l.length ∧ Sat (L ++ [cacheA b { c1 with l := (tickL c1 (c1.l.take k)).1 ++ c1.l.drop k }, Hw.own 39 1 s0 (uz (c1.l.map NE.ip)), sndsA s0' (tickL c1 (c1.l.take k)).2]) h1) ∧ c1.l.length - (((i + 1 : Nat) : Int)).toNat < c1.l.length - ((i : Nat) : Int).toNat) := by
    intro hg
    have ht : tickL c1 [e] = ([], []) := by simp only [tickL]; rw [if_neg hnow, if_pos hg]
    rw [ht] at hti
    unfold N19_j1
    rw [cond_true]
    simp only [nn_some', add_bk]
    refine g6.lM 0 rfl rfl ?_
    have g10 : Sat ((L ++ [Hw.own 39 1 s0 (uz (c1.l.map NE.ip)), sndsA acc B, row b 76 (caC { c1 with l := A ++ e :: D } m)]) ++ [pmA keyE entA .u32 m (A ++ e :: D)]) hc := Sat.mv g6
    refine pm_del g10 (srt_nod hmo.srt) mu_t mu_k fun h3 g11 => ?_
    have g12 : Sat ((L ++ [Hw.own 39 1 s0 (uz (c1.l.map NE.ip)), sndsA acc B]) ++ [row b 76 (caC { c1 with l := delK keyE e.ip (A ++ e :: D) } m), pmA keyE entA .u32 m (delK keyE e.ip (A ++ e :: D))]) h3 := Sat.mv g11
    have g13 := cache_shut (c := { c1 with l := delK keyE e.ip (A ++ e :: D) }) g12
    have ed : delK keyE e.ip (A ++ e :: D) = A ++ D := by
     rw [← erase_delK (srt_nod hmo.srt) (j := A.length) (a := e) (by simp) rfl, List.eraseIdx_append_of_length_le (by omega)]
     simp
    rw [ed] at g13
    exact next ((Sat.asc g13).sel [2, 0, 1] (by decide) rfl) (by rw [hti]; simp) (by rw [hti]; simp)
   by_cases ht : e.tries = 0
   ·rw [show (e.tries == 0) = true by simp [ht], cond_true]
    exact goes (.inl ht)
   ·rw [show (e.tries == 0) = false by simp [ht], cond_false]
    refine g9.lI 0 rfl rfl ?_
    by_cases ht3 : e.tries ≥ 3
    ·rw [decide_eq_true ht3]
     exact goes (.inr ht3)
    ·rw [decide_eq_false ht3]
     have htt : tickL c1 [e] = ([tickE c1 e], [questC c1 (tickE c1 e)]) := by simp only [tickL]; rw [if_neg hnow, if_neg (by omega)]
     rw [htt] at hti
     unfold N19_j1
     rw [cond_false]
     simp only [nn_some', add_bk]
     refine g9.lI 0 rfl rfl ?_
     refine g9.st 0 rfl (by simp [entC]) rfl fun h3 g10 => ?_
     have g10 : Sat (L ++ [Hw.own 39 1 s0 (uz (c1.l.map NE.ip)), sndsA acc B, row b 76 (caC { c1 with l := A ++ e :: D } m), pmH keyE entA .u32 m (A ++ e :: D) e.ip q, row q 88 ((entC e se).set 7 (.int .i64 (IntKind.wrap .i64 (e.tries + 1)))), Hw.own 5 1 se (bc e.pk)]) h3 := Sat.asc g10
     refine n_behind1 g10 2 rfl hmo (by omega) ?_
     refine g10.st 4 rfl (by simp [entC]) rfl fun h4 g11 => ?_
     rw [wi64i (by have := heo.tries; omega) (by have := heo.tries; omega)] at g11
     have g12 : Sat ((L ++ [Hw.own 39 1 s0 (uz (c1.l.map NE.ip)), sndsA acc B, pmH keyE entA .u32 m (A ++ e :: D) e.ip q, row b 76 (caC { c1 with l := A ++ e :: D } m)]) ++ [row q 88 (entC (tickE c1 e) se), Hw.own 5 1 se (bc (tickE c1 e).pk)]) h4 := g11.part [0, 1, 3, 2, 4, 5] (by decide) rfl
     have g13 := ent_shut g12
     have g14 : Sat ((L ++ [Hw.own 39 1 s0 (uz (c1.l.map NE.ip)), sndsA acc B, pmH keyE entA .u32 m (A ++ e :: D) e.ip q]) ++ [row b 76 (caC { c1 with l := A ++ e :: D } m), entA q (tickE c1 e)]) h4 := Sat.mv g13
     refine n_quest (e := tickE c1 e) g14 hmo heo.src heo.ip fun s5 h5 g15 => ?_
     have g16 : Sat ((L ++ [Hw.own 39 1 s0 (uz (c1.l.map NE.ip)), pmH keyE entA .u32 m (A ++ e :: D) e.ip q, row b 76 (caC { c1 with l := A ++ e :: D } m), entA q (tickE c1 e)]) ++ [sndsA acc B, Hw.own 5 1 s5 (bc (questC c1 (tickE c1 e)).data)]) h5 := (Sat.asc g15).part [0, 2, 3, 4, 1, 5] (by decide) rfl
     refine snds_push (x := questC c1 (tickE c1 e)) g16 (by omega) fun s6 h6 g17 => ?_
     have g18 : Sat ((L ++ [Hw.own 39 1 s0 (uz (c1.l.map NE.ip)), sndsA s6 (B ++ [questC c1 (tickE c1 e)]), row b 76 (caC { c1 with l := A ++ e :: D } m)]) ++ [pmH keyE entA .u32 m (A ++ e :: D) e.ip q, entA q (tickE c1 e)]) h6 := (Sat.asc g17).part [0, 4, 2, 1, 3] (by decide) rfl
     have g19 := pm_in g18 (srt_nod hmo.srt) (show keyE (tickE c1 e) = e.ip from rfl)
     have eu : updK keyE e.ip (tickE c1 e) (A ++ e :: D) = A ++ tickE c1 e :: D := by
      rw [← set_updK (srt_nod hmo.srt) (j := A.length) (a := e) (by simp) rfl]
      simp
     rw [eu] at g19
     have g20 : Sat ((L ++ [Hw.own 39 1 s0 (uz (c1.l.map NE.ip)), sndsA s6 (B ++ [questC c1 (tickE c1 e)])]) ++ [row b 76 (caC { c1 with l := A ++ tickE c1 e :: D } m), pmA keyE entA .u32 m (A ++ tickE c1 e :: D)]) h6 := Sat.mv g19
     have g21 := cache_shut (c := { c1 with l := A ++ tickE c1 e :: D }) g20
     exact next ((Sat.asc g21).sel [2, 0, 1] (by decide) rfl) (by rw [hti]; simp) (by rw [hti])
 ·rw [show decide ((i : Int) < ((s0.n : Nat) : Int)) = false from decide_eq_false (by omega), cond_false]
  have : i = c1.l.length := by omega
  subst this
  rw [List.take_length, List.drop_length, List.append_nil] at g4
  exact hK _ _ (g4.sel [0, 2] (by decide) rfl)
end
end Go.Proofs.Ytkfccpabigikkaa

/-
 Rows of elements of several cells: one is read, a cell of one is written.
-/
set_option linter.unusedSimpArgs false
set_option linter.unusedVariables false
namespace Go.Hw
open Go
theorem flat_len {α β : Type} {f : α → List β} {w : Nat} (hw : ∀ x, (f x).length = w) : ∀ (l : List α), (l.flatMap f).length = l.length * w
 | [] => by simp
 | x :: l => by rw [List.flatMap_cons, List.length_append, hw, flat_len hw l, List.length_cons, Nat.add_mul]; omega
theorem flat_cut {α β : Type} {f : α → List β} {w : Nat} (hw : ∀ x, (f x).length = w) : ∀ {l : List α} {i : Nat} {x : α}, l[i]? = some x → l.flatMap f = (l.take i).flatMap f ++ f x ++ (l.drop (i + 1)).flatMap f ∧ ((l.take i).flatMap f).length = i * w := by
 intro l i x h
 have hi := lt_of_get h
 rw [List.getElem?_eq_getElem hi] at h
 refine ⟨?_, by rw [flat_len hw, List.length_take]; congr 1; omega⟩
 have e : l = l.take i ++ x :: l.drop (i + 1) := by
  rw [← Option.some.inj h]
  rw [← List.drop_eq_getElem_cons hi, List.take_append_drop]
 conv => lhs; rw [e]
 rw [List.flatMap_append, List.flatMap_cons, List.append_assoc]
theorem flat_get {α β : Type} {f : α → List β} {w : Nat} (hw : ∀ x, (f x).length = w) {l : List α} {i k : Nat} {x : α} {v : β} (h : l[i]? = some x) (hk : (f x)[k]? = some v) : (l.flatMap f)[i * w + k]? = some v := by
 obtain ⟨h1, h2⟩ := flat_cut hw h
 have hkl := lt_of_get hk
 rw [h1, List.getElem?_append_left (by rw [List.length_append]; omega), List.getElem?_append_right (by omega), h2, Nat.add_sub_cancel_left]
 exact hk
theorem flat_set {α β : Type} {f : α → List β} {w : Nat} (hw : ∀ x, (f x).length = w) {l : List α} {i k : Nat} {x x' : α} {v : β} (h : l[i]? = some x) (hk : k < w) (hx : f x' = (f x).set k v) : (l.flatMap f).set (i * w + k) v = (l.set i x').flatMap f := by
 obtain ⟨h1, h2⟩ := flat_cut hw h
 have hi := lt_of_get h
 have h3 : (l.set i x')[i]? = some x' := List.getElem?_set_self hi
 obtain ⟨h4, h5⟩ := flat_cut hw h3
 rw [h4, h1]
 have e1 : (l.set i x').take i = l.take i := by rw [List.take_set_of_le (Nat.le_refl _)]
 have e2 : (l.set i x').drop (i + 1) = l.drop (i + 1) := by rw [List.drop_set_of_lt (by omega)]
 rw [e1, e2, hx]
 rw [List.set_append_left _ _ (by rw [List.length_append, hw]; omega), List.set_append_right _ _ (by omega), h2, Nat.add_sub_cancel_left]
section
variable {α : Type} {L M : List Asn} {h : Hp} {T : TypeId} {w : Nat} {s : Sl} {f : α → List Value} {Q : List α}
theorem Sat.elem (hs : Sat (L ++ M) h) (j : Nat) (hj : M[j]? = some (Hw.own T w s (Q.flatMap f))) (hw : ∀ x, (f x).length = w) (h0 : 0 < w) {i : Nat} {x : α} (hi : Q[i]? = some x) {z : Int} (hz : z = i) {F : Addr → Prop}
  (hF : ∀ r, s.p = some (bk r) → (∀ {k : Nat} {v : Value}, (f x)[k]? = some v → cell h ⟨r, i * w + k, none⟩ = some v) → F (bk r)) : idx z s.n (nn s.p F) := by
 have ho := hs.own j hj
 have hn := ho.1
 rw [flat_len hw] at hn
 have hil := lt_of_get hi
 have hsn : s.n = Q.length := (Nat.eq_of_mul_eq_mul_right h0 hn).symm
 refine idx_of (by omega) (by omega) ?_
 obtain ⟨v, hv⟩ : ∃ v, (f x)[0]? = some v := get_of_lt (by rw [hw]; exact h0)
 obtain ⟨b, hp, _⟩ := ho.get (flat_get hw hi hv)
 rw [hp, nn_some']
 refine hF b hp fun {k v} hk => ?_
 obtain ⟨b', hp', hc⟩ := ho.get (flat_get hw hi hk)
 rw [hp] at hp'
 cases hp'
 exact hc
theorem Sat.elemN (hs : Sat (L ++ M) h) (j : Nat) (hj : M[j]? = some (Hw.own T w s (Q.flatMap f))) (hw : ∀ x, (f x).length = w) (h0 : 0 < w) : s.n = Q.length := by
 have hn := (hs.own j hj).1
 rw [flat_len hw] at hn
 exact (Nat.eq_of_mul_eq_mul_right h0 hn).symm
theorem Sat.stE (hs : Sat (L ++ M) h) (j : Nat) (hj : M[j]? = some (Hw.own T w s (Q.flatMap f))) (hw : ∀ x, (f x).length = w) {i k : Nat} {x x' : α} (hi : Q[i]? = some x) (hk : k < w) {v : Value} (hx : f x' = (f x).set k v) (hp : plain v = true) {r : Nat} (hr : s.p = some (bk r)) {F : Hp → Prop}
  (hF : ∀ h', Sat (L ++ M.set j (Hw.own T w s ((Q.set i x').flatMap f))) h' → F h') : Hw.st h ⟨r, i * w + k, none⟩ v F := by
 have hil := lt_of_get hi
 have hlt : i * w + k < (Q.flatMap f).length := by
  rw [flat_len hw]
  have : (i + 1) * w ≤ Q.length * w := Nat.mul_le_mul_right _ hil
  rw [Nat.add_mul] at this; omega
 have := hs.stO (v := v) (F := F) j hj hlt hp hr (by rw [flat_set hw hi hk hx]; exact hF)
 rw [add_bk] at this
 exact this
theorem Sat.stMid {A m B : List Value} {k : Nat} {v : Value} {r : Nat} {F : Hp → Prop} (hs : Sat (L ++ M) h) (j : Nat) (hj : M[j]? = some (Hw.own T w s (A ++ m ++ B))) (hk : k < m.length) (hp : plain v = true) (hr : s.p = some (bk r)) {o : Nat} (ho : o = A.length + k)
  (hF : ∀ h', Sat (L ++ M.set j (Hw.own T w s (A ++ m.set k v ++ B))) h' → F h') : Hw.st h ⟨r, o, none⟩ v F := by
 subst ho
 have e : (A ++ m ++ B).set (A.length + k) v = A ++ m.set k v ++ B := by
  rw [List.set_append_left _ _ (by rw [List.length_append]; omega), List.set_append_right _ _ (by omega), Nat.add_sub_cancel_left]
 have := hs.stO (v := v) (F := F) j hj (k := A.length + k) (by simp only [List.length_append]; omega) hp hr (by rw [e]; exact hF)
 rw [add_bk] at this
 exact this
end
structure RdE {α : Type} (h : Hp) (s : Sl) (f : α → List Value) (Q : List α) : Prop where
 n : s.n = Q.length
 r : Rdc h s.p (Q.flatMap f)
section
variable {α : Type} {h h' : Hp} {w : Nat} {s : Sl} {f : α → List Value} {Q : List α}
theorem RdE.ext (H : RdE h s f Q) (he : Ext none' h h') : RdE h' s f Q := ⟨H.n, H.r.ext he⟩
theorem add_zero (a : Addr) : a.add 0 = a := by cases a; simp [Addr.add]
theorem RdE.elem (H : RdE h s f Q) (hw : ∀ x, (f x).length = w) (h0 : 0 < w) {i : Nat} {x : α} (hi : Q[i]? = some x) {z : Int} (hz : z = i) {F : Addr → Prop}
  (hF : ∀ a, s.p = some a → (∀ {v : Value}, (f x)[0]? = some v → cell h (a.add (i * w)) = some v) → (∀ {k : Nat} {v : Value}, (f x)[k]? = some v → cell h ((a.add (i * w)).add k) = some v) → F a) : idx z s.n (nn s.p F) := by
 have hil := lt_of_get hi
 have hn := H.n
 refine idx_of (by omega) (by omega) ?_
 obtain ⟨v, hv⟩ : ∃ v, (f x)[0]? = some v := get_of_lt (by rw [hw]; exact h0)
 obtain ⟨a, hp, _⟩ := H.r _ _ (flat_get hw hi hv)
 rw [hp, nn_some']
 have rd : ∀ {k : Nat} {v : Value}, (f x)[k]? = some v → cell h ((a.add (i * w)).add k) = some v := by
  intro k v hk
  obtain ⟨a', hp', hc⟩ := H.r _ _ (flat_get hw hi hk)
  rw [hp] at hp'
  cases hp'
  rw [addadd]; exact hc
 exact hF a hp (fun hk => by have := rd hk; rw [add_zero] at this; exact this) rd
theorem Own.rde {T : TypeId} (ho : Own h T w s (Q.flatMap f)) (hw : ∀ x, (f x).length = w) (h0 : 0 < w) : RdE h s f Q := by
 refine ⟨?_, ho.rdc⟩
 have hn := ho.1
 rw [flat_len hw] at hn
 exact (Nat.eq_of_mul_eq_mul_right h0 hn).symm
end
end Go.Hw

set_option linter.unusedVariables false
set_option maxRecDepth 100000
namespace Go.Proofs.Ytkfccpabigikkaa
open Go Go.Hw
noncomputable def B8 : Code := match Try.f8.body with | some c => c | none => .skip
def N8 (x0_0 x0_1 x0_2 x0_3 x0_4 x0_5 x1 : Int) (h : Hp) (K : Option Addr → Hp → Prop) : Prop :=
 nw h (.cells ⟨[.int .u8 x0_0, .int .u8 x0_1, .int .u8 x0_2, .int .u8 x0_3, .int .u8 x0_4, .int .u8 x0_5]⟩ 24) fun b0 h0 =>
 bif (decide (x1 < 1)) then
 K none h0
 else
 bif (decide (x1 > 64)) then
 K none h0
 else
 xI .u8 (cell h0 (bk b0)) fun n0 =>
 xI .u8 (cell h0 ((bk b0).add 1)) fun n1 =>
 xI .u8 (cell h0 ((bk b0).add 2)) fun n2 =>
 xI .u8 (cell h0 ((bk b0).add 3)) fun n3 =>
 xI .u8 (cell h0 ((bk b0).add 4)) fun n4 =>
 xI .u8 (cell h0 ((bk b0).add 5)) fun n5 =>
 nw h0 (.cells ⟨[.int .u8 n0, .int .u8 n1, .int .u8 n2, .int .u8 n3, .int .u8 n4, .int .u8 n5, .int .i64 x1, .slice none 0 0, .int .i64 0]⟩ 79) fun b1 h1 =>
 K (some (bk b1)) h1
theorem S8 {x0_0 x0_1 x0_2 x0_3 x0_4 x0_5 x1 : Int} {h : Hp} {K : Option Addr → Hp → Prop} (hn : N8 x0_0 x0_1 x0_2 x0_3 x0_4 x0_5 x1 h K) : C8 x0_0 x0_1 x0_2 x0_3 x0_4 x0_5 x1 h K := by
 refine calls_of_D Try.func8 (c := B8) rfl (by kernel_rfl) ?_
 refine den_sound hE hm _ .leaf _ _ _ (annOk_leaf) ?_
 refine cast ?_ hn
 kernel_rfl
end Go.Proofs.Ytkfccpabigikkaa

set_option linter.unusedVariables false
set_option maxRecDepth 100000
namespace Go.Proofs.Ytkfccpabigikkaa
open Go Go.Hw
noncomputable def B52 : Code := match Try.f52.body with | some c => c | none => .skip
def N52 (x0 : Option Addr) (x1 : Int) (h : Hp) (K : Hp → Prop) : Prop :=
 nn x0 fun a0 =>
 xI .i64 (cell h (a0.add 8)) fun n0 =>
 nn x0 fun a1 =>
 st h (a1.add 8) (.int .i64 (mx n0 (mn x1 1125899906842624))) fun h0 =>
 K h0
theorem S52 {x0 : Option Addr} {x1 : Int} {h : Hp} {K : Hp → Prop} (hn : N52 x0 x1 h K) : C52 x0 x1 h K := by
 refine calls_of_D Try.func52 (c := B52) rfl (by kernel_rfl) ?_
 refine den_sound hE hm _ .leaf _ _ _ (annOk_leaf) ?_
 refine cast ?_ hn
 kernel_rfl
end Go.Proofs.Ytkfccpabigikkaa

set_option linter.unusedVariables false
set_option maxRecDepth 100000
namespace Go.Proofs.Ytkfccpabigikkaa
open Go Go.Hw
noncomputable def B57 : Code := match Try.f57.body with | some c => c | none => .skip
def N57 (x0 : Option Addr) (x1 : Int) (h : Hp) (K : Int → Hp → Prop) : Prop :=
 nn x0 fun a0 =>
 xI .i64 (cell h (a0.add 8)) fun n0 =>
 K (mn (IntKind.wrap .i64 (n0 + x1)) 1125899906842624) h
theorem S57 {x0 : Option Addr} {x1 : Int} {h : Hp} {K : Int → Hp → Prop} (hn : N57 x0 x1 h K) : C57 x0 x1 h K := by
 refine calls_of_D Try.func57 (c := B57) rfl (by kernel_rfl) ?_
 refine den_sound hE hm _ .leaf _ _ _ (annOk_leaf) ?_
 refine cast ?_ hn
 kernel_rfl
end Go.Proofs.Ytkfccpabigikkaa

set_option linter.unusedVariables false
set_option maxRecDepth 100000
namespace Go.Proofs.Ytkfccpabigikkaa
open Go Go.Hw
noncomputable def B53 : Code := match Try.f53.body with | some c => c | none => .skip
def N53_l0_b (x0 : Option Addr) (x1 : Int) (Φ : Int → Hp → Prop) (x5 : Int) (h : Hp) (K0 : Hp → Prop) (Kr : Int → Hp → Prop) : Prop :=
 nn x0 fun a0 =>
 xL (cell h (a0.add 7)) fun s0 =>
 bif (decide (x5 < ((s0.n : Nat) : Int))) then
 nn x0 fun a1 =>
 xL (cell h (a1.add 7)) fun s1 =>
 idx x5 s1.n <|
 nn s1.p fun a2 =>
 xI .u32 (cell h (a2.add (x5.toNat * 13))) fun n0 =>
 bif (n0 == x1) then
 Kr x5 h
 else
 Φ (IntKind.wrap .i64 (x5 + 1)) h
 else
 K0 h
def N53_l0_B (x0 : Option Addr) (x1 : Int) (K0 : Hp → Prop) (Kr : Int → Hp → Prop) (s : Sg.T [(5, .c (.int .i64))]) (h : Hp) (Φ : Sg.T [(5, .c (.int .i64))] → Hp → Prop) : Prop :=
 N53_l0_b x0 x1 (fun x5 h => Φ x5 h) s h K0 Kr
def N53_l0 (x0 : Option Addr) (x1 x5 : Int) (h : Hp) (K0 : Hp → Prop) (Kr : Int → Hp → Prop) : Prop :=
 loopP (N53_l0_B x0 x1 K0 Kr) x5 h
noncomputable def N53_l0_t : Xf := loopT [(0, .c (.ptr)), (1, .c (.int .u32))] [(5, .c (.int .i64))] (codeAt B53 [1, 0, 1, 0, 0]) fun F Q => N53_l0_B F.1 F.2 (fun h' => Q (.exit 0) (Sg.env [] ()) h') (fun o0 h' => Q .ret (Sg.env [(4, .c (.int .i64))] o0) h')
theorem N53_l0_ok : Sound Try.prog Try.f53.ntmps N53_l0_t (codeAt B53 [1, 0, 1, 0]) := by
 refine loop_sound (fun e => match e with | .exit 0 => [] | .ret => [4] | _ => []) (by kernel_rfl) ?_
 intro F Q s h Φ hb
 refine den_sound hE hm _ .leaf _ _ _ (annOk_leaf) ?_
 refine cast ?_ hb
 kernel_rfl
def N53 (x0 : Option Addr) (x1 : Int) (h : Hp) (K : Int → Hp → Prop) : Prop :=
 N53_l0 x0 x1 0 h
 (fun h0 =>
 K (-1) h0)
 (fun n0 h1 =>
 K n0 h1)
theorem S53 {x0 : Option Addr} {x1 : Int} {h : Hp} {K : Int → Hp → Prop} (hn : N53 x0 x1 h K) : C53 x0 x1 h K := by
 refine calls_of_D Try.func53 (c := B53) rfl (by kernel_rfl) ?_
 refine den_sound hE hm _ (.two .leaf (.two (.two .leaf (.one (.xf N53_l0_t))) .leaf)) _ _ _ (⟨annOk_leaf, ⟨⟨annOk_leaf, N53_l0_ok⟩, annOk_leaf⟩⟩) ?_
 refine cast ?_ hn
 kernel_rfl
end Go.Proofs.Ytkfccpabigikkaa

set_option linter.unusedVariables false
set_option maxRecDepth 100000
namespace Go.Proofs.Ytkfccpabigikkaa
open Go Go.Hw
noncomputable def B54 : Code := match Try.f54.body with | some c => c | none => .skip
def N54_l0_b (x0 : Sl) (Φ : Sl → Int → Hp → Prop) (x3 : Sl) (x4 : Int) (h : Hp) (K0 : Sl → Hp → Prop) : Prop :=
 bif (decide (x4 < ((x0.n : Nat) : Int))) then
 idx x4 x0.n <|
 nn x0.p fun a0 =>
 xI .u8 (cell h (a0.add (x4.toNat * 1))) fun n0 =>
 nw h (.cells ⟨[.int .u8 n0]⟩ 5) fun b0 h0 =>
 apK Try.prog 5 x3 (.slice (some (bk b0)) 1 1) h0 fun s0 h1 =>
 Φ s0 (IntKind.wrap .i64 (x4 + 1)) h1
 else
 K0 x3 h
def N54_l0_B (x0 : Sl) (K0 : Sl → Hp → Prop) (s : Sg.T [(3, .c (.slice)), (4, .c (.int .i64))]) (h : Hp) (Φ : Sg.T [(3, .c (.slice)), (4, .c (.int .i64))] → Hp → Prop) : Prop :=
 N54_l0_b x0 (fun x3 x4 h => Φ (x3, x4) h) s.1 s.2 h K0
def N54_l0 (x0 x3 : Sl) (x4 : Int) (h : Hp) (K0 : Sl → Hp → Prop) : Prop :=
 loopP (N54_l0_B x0 K0) (x3, x4) h
noncomputable def N54_l0_t : Xf := loopT [(0, .c (.slice))] [(3, .c (.slice)), (4, .c (.int .i64))] (codeAt B54 [1, 1, 0, 1, 0, 0]) fun F Q => N54_l0_B F (fun o0 h' => Q (.exit 0) (Sg.env [(3, .c (.slice))] o0) h')
theorem N54_l0_ok : Sound Try.prog Try.f54.ntmps N54_l0_t (codeAt B54 [1, 1, 0, 1, 0]) := by
 refine loop_sound (fun e => match e with | .exit 0 => [3] | _ => []) (by kernel_rfl) ?_
 intro F Q s h Φ hb
 refine den_sound hE hm _ .leaf _ _ _ (annOk_leaf) ?_
 refine cast ?_ hb
 kernel_rfl
def N54 (x0 : Sl) (h : Hp) (K : Sl → Hp → Prop) : Prop :=
 N54_l0 x0 ⟨none, 0, 0⟩ 0 h
 (fun s0 h0 =>
 K s0 h0)
theorem S54 {x0 : Sl} {h : Hp} {K : Sl → Hp → Prop} (hn : N54 x0 h K) : C54 x0 h K := by
 refine calls_of_D Try.func54 (c := B54) rfl (by kernel_rfl) ?_
 refine den_sound hE hm _ (.two .leaf (.two .leaf (.two (.two .leaf (.one (.xf N54_l0_t))) .leaf))) _ _ _ (⟨annOk_leaf, ⟨annOk_leaf, ⟨⟨annOk_leaf, N54_l0_ok⟩, annOk_leaf⟩⟩⟩) ?_
 refine cast ?_ hn
 kernel_rfl
end Go.Proofs.Ytkfccpabigikkaa

set_option linter.unusedVariables false
set_option maxRecDepth 100000
namespace Go.Proofs.Ytkfccpabigikkaa
open Go Go.Hw
noncomputable def B55 : Code := match Try.f55.body with | some c => c | none => .skip
def N55_l0_b (x0 : Option Addr) (x1 : Int) (Φ : Sl → Int → Hp → Prop) (x4 : Sl) (x5 : Int) (h : Hp) (K0 : Sl → Hp → Prop) : Prop :=
 nn x0 fun a0 =>
 xL (cell h (a0.add 7)) fun s0 =>
 bif (decide (x5 < ((s0.n : Nat) : Int))) then
 bif (x5 != x1) then
 nn x0 fun a1 =>
 xL (cell h (a1.add 7)) fun s1 =>
 idx x5 s1.n <|
 nn s1.p fun a2 =>
 xI .u32 (cell h (a2.add (x5.toNat * 13))) fun n0 =>
 xI .u8 (cell h ((a2.add (x5.toNat * 13)).add 1)) fun n1 =>
 xI .u8 (cell h ((a2.add (x5.toNat * 13)).add 2)) fun n2 =>
 xI .u8 (cell h ((a2.add (x5.toNat * 13)).add 3)) fun n3 =>
 xI .u8 (cell h ((a2.add (x5.toNat * 13)).add 4)) fun n4 =>
 xI .u8 (cell h ((a2.add (x5.toNat * 13)).add 5)) fun n5 =>
 xI .u8 (cell h ((a2.add (x5.toNat * 13)).add 6)) fun n6 =>
 xI .i64 (cell h ((a2.add (x5.toNat * 13)).add 7)) fun n7 =>
 xI .i64 (cell h ((a2.add (x5.toNat * 13)).add 8)) fun n8 =>
 xI .i64 (cell h ((a2.add (x5.toNat * 13)).add 9)) fun n9 =>
 xB (cell h ((a2.add (x5.toNat * 13)).add 10)) fun b0 =>
 xI .u32 (cell h ((a2.add (x5.toNat * 13)).add 11)) fun n10 =>
 xL (cell h ((a2.add (x5.toNat * 13)).add 12)) fun s2 =>
 nw h (.cells ⟨[.int .u32 n0, .int .u8 n1, .int .u8 n2, .int .u8 n3, .int .u8 n4, .int .u8 n5, .int .u8 n6, .int .i64 n7, .int .i64 n8, .int .i64 n9, .bool b0, .int .u32 n10, .slice s2.p s2.n s2.c]⟩ 105) fun b1 h0 =>
 apK Try.prog 105 x4 (.slice (some (bk b1)) 1 1) h0 fun s3 h1 =>
 Φ s3 (IntKind.wrap .i64 (x5 + 1)) h1
 else
 Φ x4 (IntKind.wrap .i64 (x5 + 1)) h
 else
 K0 x4 h
def N55_l0_B (x0 : Option Addr) (x1 : Int) (K0 : Sl → Hp → Prop) (s : Sg.T [(4, .c (.slice)), (5, .c (.int .i64))]) (h : Hp) (Φ : Sg.T [(4, .c (.slice)), (5, .c (.int .i64))] → Hp → Prop) : Prop :=
 N55_l0_b x0 x1 (fun x4 x5 h => Φ (x4, x5) h) s.1 s.2 h K0
def N55_l0 (x0 : Option Addr) (x1 : Int) (x4 : Sl) (x5 : Int) (h : Hp) (K0 : Sl → Hp → Prop) : Prop :=
 loopP (N55_l0_B x0 x1 K0) (x4, x5) h
noncomputable def N55_l0_t : Xf := loopT [(0, .c (.ptr)), (1, .c (.int .i64))] [(4, .c (.slice)), (5, .c (.int .i64))] (codeAt B55 [1, 0, 1, 0, 0]) fun F Q => N55_l0_B F.1 F.2 (fun o0 h' => Q (.exit 0) (Sg.env [(4, .c (.slice))] o0) h')
theorem N55_l0_ok : Sound Try.prog Try.f55.ntmps N55_l0_t (codeAt B55 [1, 0, 1, 0]) := by
 refine loop_sound (fun e => match e with | .exit 0 => [4] | _ => []) (by kernel_rfl) ?_
 intro F Q s h Φ hb
 refine den_sound hE hm _ .leaf _ _ _ (annOk_leaf) ?_
 refine cast ?_ hb
 kernel_rfl
def N55 (x0 : Option Addr) (x1 : Int) (h : Hp) (K : Hp → Prop) : Prop :=
 N55_l0 x0 x1 ⟨none, 0, 0⟩ 0 h
 (fun s0 h0 =>
 nn x0 fun a0 =>
 st h0 (a0.add 7) (.slice s0.p s0.n s0.c) fun h1 =>
 K h1)
theorem S55 {x0 : Option Addr} {x1 : Int} {h : Hp} {K : Hp → Prop} (hn : N55 x0 x1 h K) : C55 x0 x1 h K := by
 refine calls_of_D Try.func55 (c := B55) rfl (by kernel_rfl) ?_
 refine den_sound hE hm _ (.two .leaf (.two (.two .leaf (.one (.xf N55_l0_t))) .leaf)) _ _ _ (⟨annOk_leaf, ⟨⟨annOk_leaf, N55_l0_ok⟩, annOk_leaf⟩⟩) ?_
 refine cast ?_ hn
 kernel_rfl
end Go.Proofs.Ytkfccpabigikkaa

set_option linter.unusedVariables false
set_option maxRecDepth 100000
namespace Go.Proofs.Ytkfccpabigikkaa
open Go Go.Hw
noncomputable def B58 : Code := match Try.f58.body with | some c => c | none => .skip
def N58_j1 (x0 x3 : Option Addr) (x4 : Sl) (x5 : Bool) (x6 : Int) (x32 : Bool) (h : Hp) (Kn : Sl → Bool → Hp → Prop) : Prop :=
 bif x32 then
 nn x3 fun a0 =>
 xI .u32 (cell h a0) fun n0 =>
 xI .u8 (cell h (a0.add 1)) fun n1 =>
 xI .u8 (cell h (a0.add 2)) fun n2 =>
 xI .u8 (cell h (a0.add 3)) fun n3 =>
 xI .u8 (cell h (a0.add 4)) fun n4 =>
 xI .u8 (cell h (a0.add 5)) fun n5 =>
 xI .u8 (cell h (a0.add 6)) fun n6 =>
 xI .i64 (cell h (a0.add 7)) fun n7 =>
 xI .i64 (cell h (a0.add 8)) fun n8 =>
 xI .i64 (cell h (a0.add 9)) fun n9 =>
 xB (cell h (a0.add 10)) fun b0 =>
 xI .u32 (cell h (a0.add 11)) fun n10 =>
 xL (cell h (a0.add 12)) fun s0 =>
 nw h (.cells ⟨[.int .u32 n0, .int .u8 n1, .int .u8 n2, .int .u8 n3, .int .u8 n4, .int .u8 n5, .int .u8 n6, .int .i64 n7, .int .i64 n8, .int .i64 n9, .bool b0, .int .u32 n10, .slice s0.p s0.n s0.c]⟩ 105) fun b1 h0 =>
 apK Try.prog 105 x4 (.slice (some (bk b1)) 1 1) h0 fun s1 h1 =>
 Kn s1 true h1
 else
 Kn x4 x5 h
noncomputable def N58_j1_t : Xf := pieceT [(0, .c (.ptr)), (3, .c (.ptr)), (4, .c (.slice)), (5, .c (.bool)), (6, .c (.int .i64)), (32, .c (.bool))] (codeAt B58 [1, 1, 1, 0, 1, 0, 0, 1, 0, 0, 0, 1]) fun x h Q => N58_j1 x.1 x.2.1 x.2.2.1 x.2.2.2.1 x.2.2.2.2.1 x.2.2.2.2.2 h (fun o0 o1 h' => Q .normal (Sg.env [(4, .c (.slice)), (5, .c (.bool))] (o0, o1)) h')
theorem N58_j1_ok : Sound Try.prog Try.f58.ntmps N58_j1_t (codeAt B58 [1, 1, 1, 0, 1, 0, 0, 1, 0, 0, 0, 1]) := by
 refine piece_sound (fun e => match e with | .normal => [4, 5] | _ => []) ?_
 intro x h Q hb
 refine den_sound hE hm _ .leaf _ _ _ (annOk_leaf) ?_
 refine cast ?_ hb
 kernel_rfl
def N58_j2 (x0 x3 : Option Addr) (x4 : Sl) (x5 : Bool) (x6 : Int) (h : Hp) (Kn : Sl → Hp → Prop) : Prop :=
 nn x0 fun a0 =>
 xL (cell h (a0.add 7)) fun s0 =>
 idx x6 s0.n <|
 nn s0.p fun a1 =>
 xI .u32 (cell h (a1.add (x6.toNat * 13))) fun n0 =>
 xI .u8 (cell h ((a1.add (x6.toNat * 13)).add 1)) fun n1 =>
 xI .u8 (cell h ((a1.add (x6.toNat * 13)).add 2)) fun n2 =>
 xI .u8 (cell h ((a1.add (x6.toNat * 13)).add 3)) fun n3 =>
 xI .u8 (cell h ((a1.add (x6.toNat * 13)).add 4)) fun n4 =>
 xI .u8 (cell h ((a1.add (x6.toNat * 13)).add 5)) fun n5 =>
 xI .u8 (cell h ((a1.add (x6.toNat * 13)).add 6)) fun n6 =>
 xI .i64 (cell h ((a1.add (x6.toNat * 13)).add 7)) fun n7 =>
 xI .i64 (cell h ((a1.add (x6.toNat * 13)).add 8)) fun n8 =>
 xI .i64 (cell h ((a1.add (x6.toNat * 13)).add 9)) fun n9 =>
 xB (cell h ((a1.add (x6.toNat * 13)).add 10)) fun b0 =>
 xI .u32 (cell h ((a1.add (x6.toNat * 13)).add 11)) fun n10 =>
 xL (cell h ((a1.add (x6.toNat * 13)).add 12)) fun s1 =>
 nw h (.cells ⟨[.int .u32 n0, .int .u8 n1, .int .u8 n2, .int .u8 n3, .int .u8 n4, .int .u8 n5, .int .u8 n6, .int .i64 n7, .int .i64 n8, .int .i64 n9, .bool b0, .int .u32 n10, .slice s1.p s1.n s1.c]⟩ 105) fun b1 h0 =>
 apK Try.prog 105 x4 (.slice (some (bk b1)) 1 1) h0 fun s2 h1 =>
 Kn s2 h1
noncomputable def N58_j2_t : Xf := pieceT [(0, .c (.ptr)), (3, .c (.ptr)), (4, .c (.slice)), (5, .c (.bool)), (6, .c (.int .i64))] (codeAt B58 [1, 1, 1, 0, 1, 0, 0, 1, 0, 0, 1]) fun x h Q => N58_j2 x.1 x.2.1 x.2.2.1 x.2.2.2.1 x.2.2.2.2 h (fun o0 h' => Q .normal (Sg.env [(4, .c (.slice))] o0) h')
theorem N58_j2_ok : Sound Try.prog Try.f58.ntmps N58_j2_t (codeAt B58 [1, 1, 1, 0, 1, 0, 0, 1, 0, 0, 1]) := by
 refine piece_sound (fun e => match e with | .normal => [4] | _ => []) ?_
 intro x h Q hb
 refine den_sound hE hm _ .leaf _ _ _ (annOk_leaf) ?_
 refine cast ?_ hb
 kernel_rfl
def N58_l0_b (x0 x3 : Option Addr) (Φ : Sl → Bool → Int → Hp → Prop) (x4 : Sl) (x5 : Bool) (x6 : Int) (h : Hp) (K0 : Sl → Bool → Hp → Prop) : Prop :=
 nn x0 fun a0 =>
 xL (cell h (a0.add 7)) fun s0 =>
 bif (decide (x6 < ((s0.n : Nat) : Int))) then
 bif (!x5) then
 nn x0 fun a1 =>
 xL (cell h (a1.add 7)) fun s1 =>
 idx x6 s1.n <|
 nn s1.p fun a2 =>
 xI .u32 (cell h (a2.add (x6.toNat * 13))) fun n0 =>
 nn x3 fun a3 =>
 xI .u32 (cell h a3) fun n1 =>
 N58_j1 x0 x3 x4 x5 x6 (decide (n0 > n1)) h
 (fun s2 b0 h0 =>
 N58_j2 x0 x3 s2 b0 x6 h0
 (fun s3 h1 =>
 Φ s3 b0 (IntKind.wrap .i64 (x6 + 1)) h1))
 else
 N58_j1 x0 x3 x4 x5 x6 false h
 (fun s4 b1 h2 =>
 N58_j2 x0 x3 s4 b1 x6 h2
 (fun s5 h3 =>
 Φ s5 b1 (IntKind.wrap .i64 (x6 + 1)) h3))
 else
 K0 x4 x5 h
def N58_l0_B (x0 x3 : Option Addr) (K0 : Sl → Bool → Hp → Prop) (s : Sg.T [(4, .c (.slice)), (5, .c (.bool)), (6, .c (.int .i64))]) (h : Hp) (Φ : Sg.T [(4, .c (.slice)), (5, .c (.bool)), (6, .c (.int .i64))] → Hp → Prop) : Prop :=
 N58_l0_b x0 x3 (fun x4 x5 x6 h => Φ (x4, x5, x6) h) s.1 s.2.1 s.2.2 h K0
def N58_l0 (x0 x3 : Option Addr) (x4 : Sl) (x5 : Bool) (x6 : Int) (h : Hp) (K0 : Sl → Bool → Hp → Prop) : Prop :=
 loopP (N58_l0_B x0 x3 K0) (x4, x5, x6) h
noncomputable def N58_l0_t : Xf := loopT [(0, .c (.ptr)), (3, .c (.ptr))] [(4, .c (.slice)), (5, .c (.bool)), (6, .c (.int .i64))] (codeAt B58 [1, 1, 1, 0, 1, 0, 0]) fun F Q => N58_l0_B F.1 F.2 (fun o0 o1 h' => Q (.exit 0) (Sg.env [(4, .c (.slice)), (5, .c (.bool))] (o0, o1)) h')
theorem N58_l0_ok : Sound Try.prog Try.f58.ntmps N58_l0_t (codeAt B58 [1, 1, 1, 0, 1, 0]) := by
 refine loop_sound (fun e => match e with | .exit 0 => [4, 5] | _ => []) (by kernel_rfl) ?_
 intro F Q s h Φ hb
 refine den_sound hE hm _ (.two .leaf (.two (.one (.two (.two (.ord [0, 1, 2, 3, 4, 5, 6, 7, 8, 9, 10, 11, 12, 13, 14, 15, 16]) (.xf N58_j1_t)) (.xf N58_j2_t))) .leaf)) _ _ _ (⟨annOk_leaf, ⟨⟨⟨trivial, N58_j1_ok⟩, N58_j2_ok⟩, annOk_leaf⟩⟩) ?_
 refine cast ?_ hb
 kernel_rfl
def N58_j3 (x0 : Option Addr) (x4 : Sl) (h : Hp) (Kn : Hp → Prop) : Prop :=
 nn x0 fun a0 =>
 st h (a0.add 7) (.slice x4.p x4.n x4.c) fun h0 =>
 Kn h0
noncomputable def N58_j3_t : Xf := pieceT [(0, .c (.ptr)), (4, .c (.slice))] (codeAt B58 [1, 1, 1, 1, 1]) fun x h Q => N58_j3 x.1 x.2 h (fun h' => Q .normal (Sg.env [] ()) h')
theorem N58_j3_ok : Sound Try.prog Try.f58.ntmps N58_j3_t (codeAt B58 [1, 1, 1, 1, 1]) := by
 refine piece_sound (fun e => match e with | .normal => [] | _ => []) ?_
 intro x h Q hb
 refine den_sound hE hm _ .leaf _ _ _ (annOk_leaf) ?_
 refine cast ?_ hb
 kernel_rfl
def N58 (x0 : Option Addr) (x1_0 x1_1 x1_2 x1_3 x1_4 x1_5 x1_6 x1_7 x1_8 x1_9 : Int) (x1_10 : Bool) (x1_11 : Int) (x1_12 : Sl) (h : Hp) (K : Hp → Prop) : Prop :=
 nw h (.cells ⟨[.int .u32 x1_0, .int .u8 x1_1, .int .u8 x1_2, .int .u8 x1_3, .int .u8 x1_4, .int .u8 x1_5, .int .u8 x1_6, .int .i64 x1_7, .int .i64 x1_8, .int .i64 x1_9, .bool x1_10, .int .u32 x1_11, .slice x1_12.p x1_12.n x1_12.c]⟩ 105) fun b0 h0 =>
 N58_l0 x0 (some (bk b0)) ⟨none, 0, 0⟩ false 0 h0
 (fun s0 b1 h1 =>
 bif (!b1) then
 xI .u32 (cell h1 (bk b0)) fun n0 =>
 xI .u8 (cell h1 ((bk b0).add 1)) fun n1 =>
 xI .u8 (cell h1 ((bk b0).add 2)) fun n2 =>
 xI .u8 (cell h1 ((bk b0).add 3)) fun n3 =>
 xI .u8 (cell h1 ((bk b0).add 4)) fun n4 =>
 xI .u8 (cell h1 ((bk b0).add 5)) fun n5 =>
 xI .u8 (cell h1 ((bk b0).add 6)) fun n6 =>
 xI .i64 (cell h1 ((bk b0).add 7)) fun n7 =>
 xI .i64 (cell h1 ((bk b0).add 8)) fun n8 =>
 xI .i64 (cell h1 ((bk b0).add 9)) fun n9 =>
 xB (cell h1 ((bk b0).add 10)) fun b2 =>
 xI .u32 (cell h1 ((bk b0).add 11)) fun n10 =>
 xL (cell h1 ((bk b0).add 12)) fun s1 =>
 nw h1 (.cells ⟨[.int .u32 n0, .int .u8 n1, .int .u8 n2, .int .u8 n3, .int .u8 n4, .int .u8 n5, .int .u8 n6, .int .i64 n7, .int .i64 n8, .int .i64 n9, .bool b2, .int .u32 n10, .slice s1.p s1.n s1.c]⟩ 105) fun b3 h2 =>
 apK Try.prog 105 s0 (.slice (some (bk b3)) 1 1) h2 fun s2 h3 =>
 N58_j3 x0 s2 h3
 (fun h4 =>
 K h4)
 else
 N58_j3 x0 s0 h1
 (fun h5 =>
 K h5))
theorem S58 {x0 : Option Addr} {x1_0 x1_1 x1_2 x1_3 x1_4 x1_5 x1_6 x1_7 x1_8 x1_9 : Int} {x1_10 : Bool} {x1_11 : Int} {x1_12 : Sl} {h : Hp} {K : Hp → Prop} (hn : N58 x0 x1_0 x1_1 x1_2 x1_3 x1_4 x1_5 x1_6 x1_7 x1_8 x1_9 x1_10 x1_11 x1_12 h K) : C58 x0 x1_0 x1_1 x1_2 x1_3 x1_4 x1_5 x1_6 x1_7 x1_8 x1_9 x1_10 x1_11 x1_12 h K := by
 refine calls_of_D Try.func58 (c := B58) rfl (by kernel_rfl) ?_
 refine den_sound hE hm _ (.two .leaf (.two .leaf (.two .leaf (.two (.two .leaf (.one (.xf N58_l0_t))) (.two .leaf (.xf N58_j3_t)))))) _ _ _ (⟨annOk_leaf, ⟨annOk_leaf, ⟨annOk_leaf, ⟨⟨annOk_leaf, N58_l0_ok⟩, ⟨annOk_leaf, N58_j3_ok⟩⟩⟩⟩⟩) ?_
 refine cast ?_ hn
 kernel_rfl
end Go.Proofs.Ytkfccpabigikkaa

set_option linter.unusedVariables false
set_option maxRecDepth 100000
namespace Go.Proofs.Ytkfccpabigikkaa
open Go Go.Hw
noncomputable def B56 : Code := match Try.f56.body with | some c => c | none => .skip
def N56_l0_b (x0 : Option Addr) (Φ : Int → Int → Hp → Prop) (x3 x4 : Int) (h : Hp) (K0 : Int → Hp → Prop) : Prop :=
 nn x0 fun a0 =>
 xL (cell h (a0.add 7)) fun s0 =>
 bif (decide (x4 < ((s0.n : Nat) : Int))) then
 nn x0 fun a1 =>
 xL (cell h (a1.add 7)) fun s1 =>
 idx x4 s1.n <|
 nn s1.p fun a2 =>
 xI .i64 (cell h ((a2.add (x4.toNat * 13)).add 7)) fun n0 =>
 bif (n0 == 2) then
 bif (decide (x3 < 0)) then
 Φ x4 (IntKind.wrap .i64 (x4 + 1)) h
 else
 nn x0 fun a3 =>
 xL (cell h (a3.add 7)) fun s2 =>
 idx x4 s2.n <|
 nn s2.p fun a4 =>
 xI .i64 (cell h ((a4.add (x4.toNat * 13)).add 8)) fun n1 =>
 nn x0 fun a5 =>
 xL (cell h (a5.add 7)) fun s3 =>
 idx x3 s3.n <|
 nn s3.p fun a6 =>
 xI .i64 (cell h ((a6.add (x3.toNat * 13)).add 8)) fun n2 =>
 bif (decide (n1 < n2)) then
 Φ x4 (IntKind.wrap .i64 (x4 + 1)) h
 else
 Φ x3 (IntKind.wrap .i64 (x4 + 1)) h
 else
 Φ x3 (IntKind.wrap .i64 (x4 + 1)) h
 else
 K0 x3 h
def N56_l0_B (x0 : Option Addr) (K0 : Int → Hp → Prop) (s : Sg.T [(3, .c (.int .i64)), (4, .c (.int .i64))]) (h : Hp) (Φ : Sg.T [(3, .c (.int .i64)), (4, .c (.int .i64))] → Hp → Prop) : Prop :=
 N56_l0_b x0 (fun x3 x4 h => Φ (x3, x4) h) s.1 s.2 h K0
def N56_l0 (x0 : Option Addr) (x3 x4 : Int) (h : Hp) (K0 : Int → Hp → Prop) : Prop :=
 loopP (N56_l0_B x0 K0) (x3, x4) h
noncomputable def N56_l0_t : Xf := loopT [(0, .c (.ptr))] [(3, .c (.int .i64)), (4, .c (.int .i64))] (codeAt B56 [1, 1, 1, 0, 1, 0, 0]) fun F Q => N56_l0_B F (fun o0 h' => Q (.exit 0) (Sg.env [(3, .c (.int .i64))] o0) h')
theorem N56_l0_ok : Sound Try.prog Try.f56.ntmps N56_l0_t (codeAt B56 [1, 1, 1, 0, 1, 0]) := by
 refine loop_sound (fun e => match e with | .exit 0 => [3] | _ => []) (by kernel_rfl) ?_
 intro F Q s h Φ hb
 refine den_sound hE hm _ (.two .leaf (.two (.one (.two (.ord [0, 1, 2, 3, 4, 5, 6, 7, 8, 9, 10, 11, 12, 13, 14, 15, 16, 17, 18, 19, 20, 21, 22, 23, 24, 25, 26, 27, 28, 29, 30, 31, 32, 33, 34]) .leaf)) .leaf)) _ _ _ (⟨annOk_leaf, ⟨⟨trivial, annOk_leaf⟩, annOk_leaf⟩⟩) ?_
 refine cast ?_ hb
 kernel_rfl
def N56 (x0 : Option Addr) (h : Hp) (K : Bool → Hp → Prop) : Prop :=
 nn x0 fun a0 =>
 xL (cell h (a0.add 7)) fun s0 =>
 nn x0 fun a1 =>
 xI .i64 (cell h (a1.add 6)) fun n0 =>
 bif (decide (((s0.n : Nat) : Int) < n0)) then
 K true h
 else
 N56_l0 x0 (-1) 0 h
 (fun n1 h0 =>
 bif (decide (n1 < 0)) then
 K false h0
 else
 C55 x0 n1 h0 fun h1 =>
 K true h1)
theorem S56 {x0 : Option Addr} {h : Hp} {K : Bool → Hp → Prop} (hn : N56 x0 h K) : C56 x0 h K := by
 refine calls_of_D Try.func56 (c := B56) rfl (by kernel_rfl) ?_
 refine den_sound hE hm _ (.two .leaf (.two (.two (.ord [0, 1, 2, 3, 4, 5, 6, 7, 8, 9]) .leaf) (.two .leaf (.two (.two .leaf (.one (.xf N56_l0_t))) .leaf)))) _ _ _ (⟨annOk_leaf, ⟨⟨trivial, annOk_leaf⟩, ⟨annOk_leaf, ⟨⟨annOk_leaf, N56_l0_ok⟩, annOk_leaf⟩⟩⟩⟩) ?_
 refine cast ?_ hn
 kernel_rfl
end Go.Proofs.Ytkfccpabigikkaa

set_option linter.unusedVariables false
set_option maxRecDepth 100000
namespace Go.Proofs.Ytkfccpabigikkaa
open Go Go.Hw
noncomputable def B59 : Code := match Try.f59.body with | some c => c | none => .skip
def N59 (x0 : Option Addr) (x1_0 x1_1 x1_2 x1_3 x1_4 x1_5 x1_6 x1_7 x1_8 x1_9 : Int) (x1_10 : Bool) (x1_11 : Int) (x1_12 : Sl) (h : Hp) (K : Int → Int → Int → Int → Int → Int → Int → Sl → Hp → Prop) : Prop :=
 nw h (.cells ⟨[.int .u32 x1_0, .int .u8 x1_1, .int .u8 x1_2, .int .u8 x1_3, .int .u8 x1_4, .int .u8 x1_5, .int .u8 x1_6, .int .i64 x1_7, .int .i64 x1_8, .int .i64 x1_9, .bool x1_10, .int .u32 x1_11, .slice x1_12.p x1_12.n x1_12.c]⟩ 105) fun b0 h0 =>
 nw h0 (.cells ⟨[.int .u8 0, .int .u8 0, .int .u8 0, .int .u8 0, .int .u8 0, .int .u8 0, .int .i64 0, .slice none 0 0]⟩ 59) fun b1 h1 =>
 nn x0 fun a0 =>
 xI .u8 (cell h1 a0) fun n0 =>
 xI .u8 (cell h1 (a0.add 1)) fun n1 =>
 xI .u8 (cell h1 (a0.add 2)) fun n2 =>
 xI .u8 (cell h1 (a0.add 3)) fun n3 =>
 xI .u8 (cell h1 (a0.add 4)) fun n4 =>
 xI .u8 (cell h1 (a0.add 5)) fun n5 =>
 xI .u32 (cell h1 ((bk b0).add 11)) fun n6 =>
 xI .u32 (cell h1 (bk b0)) fun n7 =>
 C24 n0 n1 n2 n3 n4 n5 n6 n7 h1 fun n8 n9 n10 n11 n12 n13 n14 n15 n16 n17 n18 n19 n20 n21 n22 h2 =>
 C63 n8 n9 n10 n11 n12 n13 n14 n15 n16 n17 n18 n19 n20 n21 n22 h2 fun s0 n23 h3 =>
 C72 h3 fun n24 n25 n26 n27 n28 n29 h4 =>
 st h4 (bk b1) (.int .u8 n24) fun h5 =>
 st h5 ((bk b1).add 1) (.int .u8 n25) fun h6 =>
 st h6 ((bk b1).add 2) (.int .u8 n26) fun h7 =>
 st h7 ((bk b1).add 3) (.int .u8 n27) fun h8 =>
 st h8 ((bk b1).add 4) (.int .u8 n28) fun h9 =>
 st h9 ((bk b1).add 5) (.int .u8 n29) fun h10 =>
 st h10 ((bk b1).add 6) (.int .i64 2054) fun h11 =>
 st h11 ((bk b1).add 7) (.slice s0.p s0.n s0.c) fun h12 =>
 xI .u8 (cell h12 (bk b1)) fun n30 =>
 xI .u8 (cell h12 ((bk b1).add 1)) fun n31 =>
 xI .u8 (cell h12 ((bk b1).add 2)) fun n32 =>
 xI .u8 (cell h12 ((bk b1).add 3)) fun n33 =>
 xI .u8 (cell h12 ((bk b1).add 4)) fun n34 =>
 xI .u8 (cell h12 ((bk b1).add 5)) fun n35 =>
 xI .i64 (cell h12 ((bk b1).add 6)) fun n36 =>
 xL (cell h12 ((bk b1).add 7)) fun s1 =>
 K n30 n31 n32 n33 n34 n35 n36 s1 h12
theorem S59 {x0 : Option Addr} {x1_0 x1_1 x1_2 x1_3 x1_4 x1_5 x1_6 x1_7 x1_8 x1_9 : Int} {x1_10 : Bool} {x1_11 : Int} {x1_12 : Sl} {h : Hp} {K : Int → Int → Int → Int → Int → Int → Int → Sl → Hp → Prop} (hn : N59 x0 x1_0 x1_1 x1_2 x1_3 x1_4 x1_5 x1_6 x1_7 x1_8 x1_9 x1_10 x1_11 x1_12 h K) : C59 x0 x1_0 x1_1 x1_2 x1_3 x1_4 x1_5 x1_6 x1_7 x1_8 x1_9 x1_10 x1_11 x1_12 h K := by
 refine calls_of_M Try.func59 (c := B59) rfl (by kernel_rfl) ?_
 refine den_sound hE hm _ (.two .leaf (.two (.ord [0, 1, 2, 3, 4, 5, 6, 7, 8, 9, 10, 11, 12, 13, 14, 15]) .leaf)) _ _ _ (⟨annOk_leaf, ⟨trivial, annOk_leaf⟩⟩) ?_
 refine cast ?_ hn
 kernel_rfl
end Go.Proofs.Ytkfccpabigikkaa

set_option linter.unusedVariables false
set_option maxRecDepth 100000
namespace Go.Proofs.Ytkfccpabigikkaa
open Go Go.Hw
noncomputable def B32 : Code := match Try.f32.body with | some c => c | none => .skip
def N32 (x0 : Option Addr) (h : Hp) (K : Hp → Prop) : Prop :=
 nn x0 fun a0 =>
 st h (a0.add 7) (.slice none 0 0) fun h0 =>
 K h0
theorem S32 {x0 : Option Addr} {h : Hp} {K : Hp → Prop} (hn : N32 x0 h K) : C32 x0 h K := by
 refine calls_of_D Try.func32 (c := B32) rfl (by kernel_rfl) ?_
 refine den_sound hE hm _ .leaf _ _ _ (annOk_leaf) ?_
 refine cast ?_ hn
 kernel_rfl
end Go.Proofs.Ytkfccpabigikkaa

set_option linter.unusedVariables false
set_option maxRecDepth 100000
namespace Go.Proofs.Ytkfccpabigikkaa
open Go Go.Hw
noncomputable def B35 : Code := match Try.f35.body with | some c => c | none => .skip
def N35_l0_b (x0 : Option Addr) (Φ : Int → Int → Hp → Prop) (x4 x5 : Int) (h : Hp) (K0 : Int → Hp → Prop) : Prop :=
 nn x0 fun a0 =>
 xL (cell h (a0.add 7)) fun s0 =>
 bif (decide (x5 < ((s0.n : Nat) : Int))) then
 nn x0 fun a1 =>
 xL (cell h (a1.add 7)) fun s1 =>
 idx x5 s1.n <|
 nn s1.p fun a2 =>
 xI .i64 (cell h ((a2.add (x5.toNat * 13)).add 8)) fun n0 =>
 Φ (mn x4 n0) (IntKind.wrap .i64 (x5 + 1)) h
 else
 K0 x4 h
def N35_l0_B (x0 : Option Addr) (K0 : Int → Hp → Prop) (s : Sg.T [(4, .c (.int .i64)), (5, .c (.int .i64))]) (h : Hp) (Φ : Sg.T [(4, .c (.int .i64)), (5, .c (.int .i64))] → Hp → Prop) : Prop :=
 N35_l0_b x0 (fun x4 x5 h => Φ (x4, x5) h) s.1 s.2 h K0
def N35_l0 (x0 : Option Addr) (x4 x5 : Int) (h : Hp) (K0 : Int → Hp → Prop) : Prop :=
 loopP (N35_l0_B x0 K0) (x4, x5) h
noncomputable def N35_l0_t : Xf := loopT [(0, .c (.ptr))] [(4, .c (.int .i64)), (5, .c (.int .i64))] (codeAt B35 [1, 1, 1, 0, 1, 0, 0]) fun F Q => N35_l0_B F (fun o0 h' => Q (.exit 0) (Sg.env [(4, .c (.int .i64))] o0) h')
theorem N35_l0_ok : Sound Try.prog Try.f35.ntmps N35_l0_t (codeAt B35 [1, 1, 1, 0, 1, 0]) := by
 refine loop_sound (fun e => match e with | .exit 0 => [4] | _ => []) (by kernel_rfl) ?_
 intro F Q s h Φ hb
 refine den_sound hE hm _ .leaf _ _ _ (annOk_leaf) ?_
 refine cast ?_ hb
 kernel_rfl
def N35 (x0 : Option Addr) (h : Hp) (K : Int → Bool → Hp → Prop) : Prop :=
 nn x0 fun a0 =>
 xL (cell h (a0.add 7)) fun s0 =>
 bif (((s0.n : Nat) : Int) == 0) then
 K 0 false h
 else
 nn x0 fun a1 =>
 xL (cell h (a1.add 7)) fun s1 =>
 idx 0 s1.n <|
 nn s1.p fun a2 =>
 xI .i64 (cell h ((a2.add ((0 : Int).toNat * 13)).add 8)) fun n0 =>
 N35_l0 x0 n0 0 h
 (fun n1 h0 =>
 K n1 true h0)
theorem S35 {x0 : Option Addr} {h : Hp} {K : Int → Bool → Hp → Prop} (hn : N35 x0 h K) : C35 x0 h K := by
 refine calls_of_D Try.func35 (c := B35) rfl (by kernel_rfl) ?_
 refine den_sound hE hm _ (.two .leaf (.two .leaf (.two .leaf (.two (.two .leaf (.one (.xf N35_l0_t))) .leaf)))) _ _ _ (⟨annOk_leaf, ⟨annOk_leaf, ⟨annOk_leaf, ⟨⟨annOk_leaf, N35_l0_ok⟩, annOk_leaf⟩⟩⟩⟩) ?_
 refine cast ?_ hn
 kernel_rfl
end Go.Proofs.Ytkfccpabigikkaa

set_option linter.unusedVariables false
set_option maxRecDepth 100000
namespace Go.Proofs.Ytkfccpabigikkaa
open Go Go.Hw
noncomputable def B33 : Code := match Try.f33.body with | some c => c | none => .skip
def N33_l0_b (x0 : Option Addr) (Φ : Sl → Int → Hp → Prop) (x3 : Sl) (x4 : Int) (h : Hp) (K0 : Sl → Hp → Prop) : Prop :=
 nn x0 fun a0 =>
 xL (cell h (a0.add 7)) fun s0 =>
 bif (decide (x4 < ((s0.n : Nat) : Int))) then
 nn x0 fun a1 =>
 xL (cell h (a1.add 7)) fun s1 =>
 idx x4 s1.n <|
 nn s1.p fun a2 =>
 xI .u32 (cell h (a2.add (x4.toNat * 13))) fun n0 =>
 xI .u8 (cell h ((a2.add (x4.toNat * 13)).add 1)) fun n1 =>
 xI .u8 (cell h ((a2.add (x4.toNat * 13)).add 2)) fun n2 =>
 xI .u8 (cell h ((a2.add (x4.toNat * 13)).add 3)) fun n3 =>
 xI .u8 (cell h ((a2.add (x4.toNat * 13)).add 4)) fun n4 =>
 xI .u8 (cell h ((a2.add (x4.toNat * 13)).add 5)) fun n5 =>
 xI .u8 (cell h ((a2.add (x4.toNat * 13)).add 6)) fun n6 =>
 xI .i64 (cell h ((a2.add (x4.toNat * 13)).add 7)) fun n7 =>
 xI .i64 (cell h ((a2.add (x4.toNat * 13)).add 8)) fun n8 =>
 xI .i64 (cell h ((a2.add (x4.toNat * 13)).add 9)) fun n9 =>
 xB (cell h ((a2.add (x4.toNat * 13)).add 10)) fun b0 =>
 nw h (.cells ⟨[.int .u32 n0, .int .u8 n1, .int .u8 n2, .int .u8 n3, .int .u8 n4, .int .u8 n5, .int .u8 n6, .int .i64 n7, .int .i64 n8, .int .i64 n9, .bool b0]⟩ 68) fun b1 h0 =>
 apK Try.prog 68 x3 (.slice (some (bk b1)) 1 1) h0 fun s2 h1 =>
 Φ s2 (IntKind.wrap .i64 (x4 + 1)) h1
 else
 K0 x3 h
def N33_l0_B (x0 : Option Addr) (K0 : Sl → Hp → Prop) (s : Sg.T [(3, .c (.slice)), (4, .c (.int .i64))]) (h : Hp) (Φ : Sg.T [(3, .c (.slice)), (4, .c (.int .i64))] → Hp → Prop) : Prop :=
 N33_l0_b x0 (fun x3 x4 h => Φ (x3, x4) h) s.1 s.2 h K0
def N33_l0 (x0 : Option Addr) (x3 : Sl) (x4 : Int) (h : Hp) (K0 : Sl → Hp → Prop) : Prop :=
 loopP (N33_l0_B x0 K0) (x3, x4) h
noncomputable def N33_l0_t : Xf := loopT [(0, .c (.ptr))] [(3, .c (.slice)), (4, .c (.int .i64))] (codeAt B33 [1, 1, 0, 1, 0, 0]) fun F Q => N33_l0_B F (fun o0 h' => Q (.exit 0) (Sg.env [(3, .c (.slice))] o0) h')
theorem N33_l0_ok : Sound Try.prog Try.f33.ntmps N33_l0_t (codeAt B33 [1, 1, 0, 1, 0]) := by
 refine loop_sound (fun e => match e with | .exit 0 => [3] | _ => []) (by kernel_rfl) ?_
 intro F Q s h Φ hb
 refine den_sound hE hm _ .leaf _ _ _ (annOk_leaf) ?_
 refine cast ?_ hb
 kernel_rfl
def N33 (x0 : Option Addr) (h : Hp) (K : Sl → Hp → Prop) : Prop :=
 N33_l0 x0 ⟨none, 0, 0⟩ 0 h
 (fun s0 h0 =>
 K s0 h0)
theorem S33 {x0 : Option Addr} {h : Hp} {K : Sl → Hp → Prop} (hn : N33 x0 h K) : C33 x0 h K := by
 refine calls_of_D Try.func33 (c := B33) rfl (by kernel_rfl) ?_
 refine den_sound hE hm _ (.two .leaf (.two .leaf (.two (.two .leaf (.one (.xf N33_l0_t))) .leaf))) _ _ _ (⟨annOk_leaf, ⟨annOk_leaf, ⟨⟨annOk_leaf, N33_l0_ok⟩, annOk_leaf⟩⟩⟩) ?_
 refine cast ?_ hn
 kernel_rfl
end Go.Proofs.Ytkfccpabigikkaa

/-
 The document's cache in memory; its small functions.
-/
set_option linter.unusedSimpArgs false
set_option linter.unusedVariables false
set_option maxRecDepth 4000
namespace Go.Proofs.Ytkfccpabigikkaa
open Go Go.Hw
abbrev RQ := NE × Sl
def rentC (x : RQ) : List Value := [.int .u32 x.1.ip, .int .u8 x.1.mac.a, .int .u8 x.1.mac.b, .int .u8 x.1.mac.c, .int .u8 x.1.mac.d, .int .u8 x.1.mac.e, .int .u8 x.1.mac.f, .int .i64 (if x.1.tries = 0 then 2 else 1), .int .i64 x.1.til, .int .i64 x.1.tries, .bool (decide (x.1.tries ≠ 0)), .int .u32 x.1.src, x.2.v]
theorem rentC_len (x : RQ) : (rentC x).length = 13 := rfl
theorem rentC_plain {x : RQ} : ∀ v ∈ rentC x, plain v = true := by
 intro v hv
 simp only [rentC, List.mem_cons, List.not_mem_nil, or_false] at hv
 rcases hv with rfl | rfl | rfl | rfl | rfl | rfl | rfl | rfl | rfl | rfl | rfl | rfl | rfl <;> rfl
def refC (c : Ca) (s : Sl) : List Value := [.int .u8 c.own.a, .int .u8 c.own.b, .int .u8 c.own.c, .int .u8 c.own.d, .int .u8 c.own.e, .int .u8 c.own.f, .int .i64 c.most, s.v, .int .i64 c.now]
def rdat (x : RQ) : Asn := Hw.own 5 1 x.2 (bc x.1.pk)
def refA (b : Nat) (c : Ca) : Asn := exs fun x : Sl × List RQ => star [row b 79 (refC c x.1), Hw.own 105 13 x.1 (x.2.flatMap rentC), star (x.2.map rdat), pur (x.2.map Prod.fst = c.l)]
theorem re_a : Try.prog.cellsOf 105 = 13 := by kernel_rfl
theorem re_z : (zc Try.prog 105).length = 13 := by kernel_rfl
theorem re_b : Try.prog.bytesOf 105 ≤ 128 := by rw [show Try.prog.bytesOf 105 = 80 by kernel_rfl]; omega
section
variable {L : List Asn} {b : Nat} {c : Ca} {h : Hp}
theorem ref_open (hs : Sat (L ++ [refA b c]) h) : ∃ (s : Sl) (Q : List RQ), Sat (L ++ [row b 79 (refC c s), Hw.own 105 13 s (Q.flatMap rentC), star (Q.map rdat)]) h ∧ Q.map Prod.fst = c.l := by
 obtain ⟨⟨s, Q⟩, hs⟩ := hs.exOut
 have hs : Sat (L ++ [star [row b 79 (refC c s), Hw.own 105 13 s (Q.flatMap rentC), star (Q.map rdat), pur (Q.map Prod.fst = c.l)]]) h := hs
 have hs := hs.open
 exact ⟨s, Q, hs.sel [0, 1, 2] (by decide) rfl, hs.pur 3 rfl⟩
theorem ref_shut {s : Sl} {Q : List RQ} (hs : Sat (L ++ [row b 79 (refC c s), Hw.own 105 13 s (Q.flatMap rentC), star (Q.map rdat)]) h) (hQ : Q.map Prod.fst = c.l) : Sat (L ++ [refA b c]) h := by
 have h1 : Sat (L ++ [row b 79 (refC c s), Hw.own 105 13 s (Q.flatMap rentC), star (Q.map rdat), pur (Q.map Prod.fst = c.l)]) h := hs.andPur hQ
 have h2 := h1.close
 unfold refA
 exact h2.exIn (s, Q)
theorem r_new {M : List Asn} {own : M6} {most : Int} {K : Option Addr → Hp → Prop} (hs : Sat (L ++ M) h)
  (hnone : most < 1 ∨ 64 < most → ∀ h', Sat (L ++ M) h' → K none h') (hK : 1 ≤ most ∧ most ≤ 64 → ∀ b h', Sat (L ++ (M ++ [refA b ⟨own, most, [], 0⟩])) h' → K (some (bk b)) h') : C8 own.a own.b own.c own.d own.e own.f most h K := by
 apply S8; unfold N8
 have hs0 : Sat ((L ++ M) ++ []) h := by rw [List.append_nil]; exact hs
 refine hs0.nw ?_
 intro b0 h0 g1 _
 simp only [List.nil_append] at g1
 by_cases h1 : most < 1
 ·rw [decide_eq_true h1, cond_true]
  exact hnone (.inl h1) h0 g1.left
 ·rw [decide_eq_false h1, cond_false]
  by_cases h2 : most > 64
  ·rw [decide_eq_true h2, cond_true]
   exact hnone (.inr h2) h0 g1.left
  ·rw [decide_eq_false h2, cond_false]
   have hs := g1
   repeat (first | (refine Sat.st hs 0 rfl (by simp) rfl ?_; intro _ hs; simp only [List.set_cons_zero, List.set_cons_succ] at hs) | (refine Sat.lI hs 0 rfl rfl ?_) | (refine Sat.lL hs 0 rfl rfl ?_) | (refine Sat.lP hs 0 rfl rfl ?_) | (refine Sat.lB hs 0 rfl rfl ?_) | (refine Sat.lS hs 0 rfl rfl ?_) | (refine Sat.lM hs 0 rfl rfl ?_) | (refine Sat.lA hs 0 rfl rfl ?_) | (simp only [nn_some', add_bk]))
   refine Sat.nw g1 ?_
   intro b2 h3 g3 _
   have g4 : Sat ((L ++ M) ++ [row b2 79 (refC ⟨own, most, [], 0⟩ ⟨none, 0, 0⟩)]) h3 := g3.sel [1] (by decide) rfl
   have g5 := g4.addNil 105 13
   have g6 : Sat (((L ++ M) ++ [row b2 79 (refC ⟨own, most, [], 0⟩ ⟨none, 0, 0⟩), Hw.own 105 13 ⟨none, 0, 0⟩ []]) ++ []) h3 := by rw [List.append_nil]; exact g5
   have g7 := ref_shut (c := ⟨own, most, [], 0⟩) (Q := []) (s := ⟨none, 0, 0⟩) (Sat.asc g6.close) rfl
   exact hK (by omega) b2 h3 (Sat.asc g7)
theorem r_tell {now : Int} {K : Hp → Prop} (hs : Sat (L ++ [refA b c]) h) (hK : ∀ h', Sat (L ++ [refA b (tellC c now)]) h' → K h') : C52 (some (bk b)) now h K := by
 apply S52; unfold N52
 obtain ⟨s, Q, hs, hQ⟩ := ref_open hs
 simp only [nn_some', add_bk]
 refine hs.lI 0 rfl rfl ?_
 refine hs.st 0 rfl (by simp [refC]) rfl ?_
 intro h1 hs1
 rw [mx_eq, mn_eq] at hs1
 exact hK _ (ref_shut (s := s) (Q := Q) (c := tellC c now) hs1 hQ)
theorem r_behind {M : List Asn} {s : Sl} {n : Int} {K : Int → Hp → Prop} (hs : Sat (L ++ M) h) (j : Nat) (hj : M[j]? = some (row b 79 (refC c s))) (ho : c.ok) (hn : 0 ≤ n ∧ n ≤ 1000) (hK : K (behindC c n) h) : C57 (some (bk b)) n h K := by
 apply S57; unfold N57
 simp only [nn_some', add_bk]
 refine hs.lI j hj rfl ?_
 have := ho.now
 rw [mn_eq, wi64i (by omega) (by simp only [maxT] at this; omega)]
 exact hK
theorem c_copied {p : Sl} {l : List UInt8} {K : Sl → Hp → Prop} (hr : RdB h p l) (hl : l.length ≤ 1099511627776) (hK : ∀ s' h', NewO h h' 5 1 s' (bc l) → K s' h') : C54 p h K := by
 apply S54; unfold N54 N54_l0
 have hs0 : Sat ([] ++ [Hw.was h, Hw.own 5 1 ⟨none, 0, 0⟩ (bc [])]) h := (Sat.start (h := h)).addNil 5 1
 have hn := hr.n
 refine loopP_inv (fun (z : Sl × Int) hc => ∃ i : Nat, z.2 = i ∧ i ≤ l.length ∧ Sat ([] ++ [Hw.was h, Hw.own 5 1 z.1 (bc (l.take i))]) hc) (fun z _ => l.length - z.2.toNat) ?_ ⟨0, rfl, Nat.zero_le _, hs0⟩
 rintro ⟨acc, z⟩ hc ⟨i, hz, hi, hs⟩
 simp only at hz hs
 subst hz
 unfold N54_l0_B N54_l0_b
 dsimp only
 by_cases hlt : i < l.length
 ·rw [show decide ((i : Int) < ((p.n : Nat) : Int)) = true from decide_eq_true (by omega), cond_true]
  refine (hr.ext (hs.was 0 rfl)).at rfl hlt ?_
  have an := (hs.own 1 rfl).1
  simp only [bc_len, List.length_take] at an
  refine hs.push 1 rfl (k := 1) y_a y_zl rfl (by intro v hv; simp at hv; subst hv; rfl) (by rw [y_b]; omega) ?_
  intro acc' h6 hs6 _
  rw [nat_succ64 (by omega)]
  refine ⟨⟨i + 1, rfl, hlt, ?_⟩, by first | omega | (dsimp only; omega)⟩
  rw [List.take_succ_eq_append_getElem hlt, bc_app]
  exact hs6
 ·rw [show decide ((i : Int) < ((p.n : Nat) : Int)) = false from decide_eq_false (by omega), cond_false]
  have : i = l.length := by omega
  subst this
  rw [List.take_length] at hs
  exact hK _ _ (hs.newO 0 1 rfl rfl (by decide))
theorem r_at {ip : Int} {s : Sl} {Q : List RQ} {K : Int → Hp → Prop} (hs : Sat (L ++ [row b 79 (refC c s), Hw.own 105 13 s (Q.flatMap rentC), star (Q.map rdat)]) h) (hl : Q.length ≤ 1000)
  (h0 : findK keyE ip (Q.map Prod.fst) = none → K (-1) h) (h1 : ∀ (i : Nat) (x : RQ), Q[i]? = some x → x.1.ip = ip → (NodK keyE (Q.map Prod.fst) → findK keyE ip (Q.map Prod.fst) = some x.1) → K i h) : C53 (some (bk b)) ip h K := by
 apply S53; unfold N53 N53_l0
 have sn := hs.elemN 1 rfl rentC_len (by decide)
 refine loopP_inv (fun (z : Int) hc => hc = h ∧ ∃ i : Nat, z = i ∧ i ≤ Q.length ∧ ∀ x ∈ Q.take i, x.1.ip ≠ ip) (fun z _ => Q.length - z.toNat) ?_ ⟨rfl, 0, rfl, Nat.zero_le _, by simp⟩
 rintro z hc ⟨rfl, i, rfl, hi, hne⟩
 unfold N53_l0_B N53_l0_b
 dsimp only
 simp only [nn_some', add_bk]
 refine hs.lL 0 rfl rfl ?_
 by_cases hlt : i < Q.length
 ·rw [show decide ((i : Int) < ((s.n : Nat) : Int)) = true from decide_eq_true (by omega), cond_true]
  refine hs.lL 0 rfl rfl ?_
  have hx : Q[i]? = some Q[i] := List.getElem?_eq_getElem hlt
  have htk : Q.take (i + 1) = Q.take i ++ [Q[i]] := List.take_succ_eq_append_getElem hlt
  generalize Q[i] = x at hx htk
  refine hs.elem 1 rfl rentC_len (by decide) hx rfl ?_
  intro r hr rd
  simp only [add_bk, Int.toNat_natCast]
  refine xI_of (rd (k := 0) rfl) ?_
  by_cases he : x.1.ip = ip
  ·rw [show (x.1.ip == ip) = true by simp [he], cond_true]
   exact h1 i x hx he fun hn => findK_of hn (List.mem_map.2 ⟨x, List.mem_of_getElem? hx, rfl⟩) he
  ·rw [show (x.1.ip == ip) = false by simp [he], cond_false]
   rw [nat_succ64 (by omega)]
   refine ⟨⟨by trivial, i + 1, rfl, hlt, ?_⟩, by simp only [Int.toNat_natCast]; omega⟩
   intro y hy
   rw [htk] at hy
   rcases List.mem_append.1 hy with hy | hy
   ·exact hne y hy
   ·simp at hy; rw [hy]; exact he
 ·rw [show decide ((i : Int) < ((s.n : Nat) : Int)) = false from decide_eq_false (by omega), cond_false]
  refine h0 (findK_none_of fun a ha => ?_)
  obtain ⟨x, hx, rfl⟩ := List.mem_map.1 ha
  rw [List.take_of_length_le (by omega)] at hne
  exact hne x hx
theorem star_erase {α : Type} {L : List Asn} {Q : List α} {f : α → Asn} {h : Hp} {i : Nat} {x : α} (hs : Sat (L ++ [star (Q.map f)]) h) (hi : Q[i]? = some x) : Sat (L ++ [star ((Q.eraseIdx i).map f)]) h := by
 have := hs.out i (A := f x) (by rw [List.getElem?_map, hi]; rfl)
 have := this.sel [0] (by decide) (M' := [star ((Q.map f).eraseIdx i)]) rfl
 rw [map_erase]; exact this
theorem r_drop {s : Sl} {Q : List RQ} {i : Nat} {x : RQ} {K : Hp → Prop} (hs : Sat (L ++ [row b 79 (refC c s), Hw.own 105 13 s (Q.flatMap rentC), star (Q.map rdat)]) h) (hl : Q.length ≤ 1000) (hi : Q[i]? = some x)
  (hK : ∀ s' h', Sat (L ++ [row b 79 (refC c s'), Hw.own 105 13 s' ((Q.eraseIdx i).flatMap rentC), star ((Q.eraseIdx i).map rdat)]) h' → K h') : C55 (some (bk b)) (i : Int) h K := by
 apply S55; unfold N55 N55_l0
 have sn := hs.elemN 1 rfl rentC_len (by decide)
 have hil := lt_of_get hi
 have g0 : Sat (L ++ [row b 79 (refC c s), Hw.own 105 13 s (Q.flatMap rentC), star (Q.map rdat), Hw.own 105 13 ⟨none, 0, 0⟩ (((Q.take 0).eraseIdx i).flatMap rentC)]) h := by
  have := hs.addNil 105 13
  simpa using this
 refine loopP_inv (fun (z : Sl × Int) hc => ∃ k : Nat, z.2 = k ∧ k ≤ Q.length ∧ Sat (L ++ [row b 79 (refC c s), Hw.own 105 13 s (Q.flatMap rentC), star (Q.map rdat), Hw.own 105 13 z.1 (((Q.take k).eraseIdx i).flatMap rentC)]) hc) (fun z _ => Q.length - z.2.toNat) ?_ ⟨0, rfl, Nat.zero_le _, g0⟩
 rintro ⟨acc, z⟩ hc ⟨k, hz, hk, g1⟩
 simp only at hz g1
 subst hz
 unfold N55_l0_B N55_l0_b
 dsimp only
 simp only [nn_some', add_bk]
 refine g1.lL 0 rfl rfl ?_
 have nx : k < Q.length → IntKind.wrap .i64 ((k : Int) + 1) = ((k + 1 : Nat) : Int) := fun _ => nat_succ64 (by omega)
 by_cases hlt : k < Q.length
 ·rw [show decide ((k : Int) < ((s.n : Nat) : Int)) = true from decide_eq_true (by omega), cond_true, nx hlt]
  have hx : Q[k]? = some Q[k] := List.getElem?_eq_getElem hlt
  have htk : Q.take (k + 1) = Q.take k ++ [Q[k]] := List.take_succ_eq_append_getElem hlt
  generalize Q[k] = y at hx htk
  by_cases hki : k = i
  ·subst hki
   rw [show ((k : Int) != (k : Int)) = false by simp, cond_false]
   refine ⟨⟨k + 1, rfl, hlt, ?_⟩, by simp only [Int.toNat_natCast]; omega⟩
   rw [htk, List.eraseIdx_append_of_length_le (by rw [List.length_take]; omega)]
   have e : (Q.take k).eraseIdx k = Q.take k := List.eraseIdx_of_length_le (by rw [List.length_take]; omega)
   rw [e] at g1
   have e2 : [y].eraseIdx (k - (Q.take k).length) = [] := by rw [List.length_take, show k - min k Q.length = 0 by omega]; rfl
   rw [e2, List.append_nil]
   exact g1
  ·rw [show ((k : Int) != (i : Int)) = true by simp; omega, cond_true]
   refine g1.lL 0 rfl rfl ?_
   refine g1.elem 1 rfl rentC_len (by decide) hx rfl ?_
   intro r hr rd
   simp only [add_bk, Int.toNat_natCast]
   simp only [add_mk]
   refine xI_of (rd (k := 0) rfl) ?_
   refine xI_of (rd rfl) ?_
   refine xI_of (rd rfl) ?_
   refine xI_of (rd rfl) ?_
   refine xI_of (rd rfl) ?_
   refine xI_of (rd rfl) ?_
   refine xI_of (rd rfl) ?_
   refine xI_of (rd rfl) ?_
   refine xI_of (rd rfl) ?_
   refine xI_of (rd rfl) ?_
   refine xB_of (rd rfl) ?_
   refine xI_of (rd rfl) ?_
   refine xL_of (s := y.2) (rd rfl) ?_
   have an := g1.elemN 3 rfl rentC_len (by decide)
   have an2 : ((Q.take k).eraseIdx i).length ≤ 1000 := by
    have := List.length_eraseIdx_le (Q.take k) i
    rw [List.length_take] at this; omega
   refine g1.push 3 rfl (k := 1) (ns := rentC y) re_a re_z rfl rentC_plain ?_ ?_
   ·have : (acc.n + 1) * 2 * Try.prog.bytesOf 105 ≤ (acc.n + 1) * 2 * 128 := Nat.mul_le_mul_left _ re_b
    omega
   ·intro acc' h2 g2 _
    refine ⟨⟨k + 1, rfl, hlt, ?_⟩, by omega⟩
    have e3 : ((Q.take (k + 1)).eraseIdx i).flatMap rentC = ((Q.take k).eraseIdx i).flatMap rentC ++ rentC y := by
     rw [htk]
     rcases Nat.lt_or_ge i k with hik | hik
     ·rw [List.eraseIdx_append_of_lt_length (by rw [List.length_take]; omega), List.flatMap_append]; simp
     ·rw [List.eraseIdx_append_of_length_le (by rw [List.length_take]; omega)]
      have e4 : [y].eraseIdx (i - (Q.take k).length) = [y] := List.eraseIdx_of_length_le (by rw [List.length_take, List.length_singleton]; omega)
      have e5 : (Q.take k).eraseIdx i = Q.take k := List.eraseIdx_of_length_le (by rw [List.length_take]; omega)
      rw [e4, e5, List.flatMap_append]; simp
    rw [e3]
    exact g2
 ·rw [show decide ((k : Int) < ((s.n : Nat) : Int)) = false from decide_eq_false (by omega), cond_false]
  have : k = Q.length := by omega
  subst this
  rw [List.take_length] at g1
  refine g1.st 0 rfl (by simp [refC]) rfl ?_
  intro h2 g2
  have g3 : Sat ((L ++ [row b 79 (refC c acc), Hw.own 105 13 acc ((Q.eraseIdx i).flatMap rentC)]) ++ [star (Q.map rdat)]) h2 := g2.part [0, 3, 2] (by decide) rfl
  exact hK acc h2 (Sat.asc (star_erase g3 hi))
def putQ (e : RQ) : List RQ → List RQ
 | [] => [e]
 | x :: l => if x.1.ip > e.1.ip then e :: x :: l else x :: putQ e l
theorem putQ_perm (e : RQ) : ∀ l : List RQ, (putQ e l).Perm (e :: l)
 | [] => List.Perm.refl _
 | p :: l => by
  unfold putQ
  split
  ·exact List.Perm.refl _
  ·exact ((putQ_perm e l).cons p).trans (List.Perm.swap _ _ _)
theorem putQ_fst (e : RQ) : ∀ l : List RQ, (putQ e l).map Prod.fst = putL' e.1 (l.map Prod.fst)
 | [] => rfl
 | x :: l => by
  simp only [putQ, List.map_cons, putL']
  split
  ·rfl
  ·simp only [List.map_cons, putQ_fst e l]
def putB (e : RQ) : Bool → List RQ → List RQ
 | true, l => l
 | false, l => putQ e l
theorem r_put {e : RQ} {s : Sl} {Q : List RQ} {K : Hp → Prop} (hs : Sat (L ++ [row b 79 (refC c s), Hw.own 105 13 s (Q.flatMap rentC), star (Q.map rdat), rdat e]) h) (hl : Q.length ≤ 1000)
  (hK : ∀ s' h', Sat (L ++ [row b 79 (refC c s'), Hw.own 105 13 s' ((putQ e Q).flatMap rentC), star ((putQ e Q).map rdat)]) h' → K h') :
  C58 (some (bk b)) e.1.ip e.1.mac.a e.1.mac.b e.1.mac.c e.1.mac.d e.1.mac.e e.1.mac.f (if e.1.tries = 0 then 2 else 1) e.1.til e.1.tries (decide (e.1.tries ≠ 0)) e.1.src e.2 h K := by
 apply S58; unfold N58 N58_l0
 have sn := hs.elemN 1 rfl rentC_len (by decide)
 refine hs.nw ?_
 intro z h0 g0 _
 have g0 : Sat (L ++ [row b 79 (refC c s), Hw.own 105 13 s (Q.flatMap rentC), star (Q.map rdat), rdat e, row z 105 (rentC e)]) h0 := g0
 have g0 : Sat (L ++ [row b 79 (refC c s), Hw.own 105 13 s (Q.flatMap rentC), star (Q.map rdat), rdat e, row z 105 (rentC e), Hw.own 105 13 ⟨none, 0, 0⟩ (([] : List RQ).flatMap rentC)]) h0 := g0.addNil 105 13
 -- behind k entries: a row A, and what it will be
 refine loopP_inv (fun (y : Sl × Bool × Int) hc => ∃ (k : Nat) (A : List RQ), y.2.2 = k ∧ k ≤ Q.length ∧ A ++ putB e y.2.1 (Q.drop k) = putQ e Q ∧ Sat (L ++ [row b 79 (refC c s), Hw.own 105 13 s (Q.flatMap rentC), star (Q.map rdat), rdat e, row z 105 (rentC e), Hw.own 105 13 y.1 (A.flatMap rentC)]) hc) (fun y _ => Q.length - y.2.2.toNat) ?_ ⟨0, [], rfl, Nat.zero_le _, rfl, g0⟩
 rintro ⟨acc, done, y⟩ hc ⟨k, A, hy, hk, hA, g1⟩
 simp only at hy g1 hA
 subst hy
 unfold N58_l0_B N58_l0_b
 dsimp only
 simp only [nn_some', add_bk]
 refine g1.lL 0 rfl rfl ?_
 have hlen := congrArg List.length hA
 have hput : (putQ e Q).length = Q.length + 1 := (putQ_perm e Q).length_eq
 rw [List.length_append, hput] at hlen
 have an := g1.elemN 5 rfl rentC_len (by decide)
 have room : ∀ (n : Nat), n ≤ 2000 → (n + 1) * 2 * Try.prog.bytesOf 105 ≤ 2 ^ 48 := fun n hn => by
  have : (n + 1) * 2 * Try.prog.bytesOf 105 ≤ (n + 1) * 2 * 128 := Nat.mul_le_mul_left _ re_b
  omega
 -- the entry itself is laid
 have lay : ∀ {acc : Sl} {A : List RQ} {hc : Hp} {F : Sl → Hp → Prop}, A.length ≤ 2000 → Sat (L ++ [row b 79 (refC c s), Hw.own 105 13 s (Q.flatMap rentC), star (Q.map rdat), rdat e, row z 105 (rentC e), Hw.own 105 13 acc (A.flatMap rentC)]) hc →
   (∀ acc' h', Sat (L ++ [row b 79 (refC c s), Hw.own 105 13 s (Q.flatMap rentC), star (Q.map rdat), rdat e, row z 105 (rentC e), Hw.own 105 13 acc' ((A ++ [e]).flatMap rentC)]) h' → F acc' h') →
   nw hc (.cells ⟨rentC e⟩ 105) fun b1 h0 => apK Try.prog 105 acc (.slice (some (bk b1)) 1 1) h0 F := by
  intro acc A hc F hAl g hF
  have an := g.elemN 5 rfl rentC_len (by decide)
  refine g.push 5 rfl (k := 1) (ns := rentC e) re_a re_z rfl rentC_plain (room _ (by omega)) ?_
  intro acc' h' g' _
  refine hF acc' h' ?_
  have e1 : (A ++ [e]).flatMap rentC = A.flatMap rentC ++ rentC e := by rw [List.flatMap_append]; simp
  rw [e1]; exact g'
 by_cases hlt : k < Q.length
 ·rw [show decide ((k : Int) < ((s.n : Nat) : Int)) = true from decide_eq_true (by omega), cond_true]
  have hx : Q[k]? = some Q[k] := List.getElem?_eq_getElem hlt
  have hdr : Q.drop k = Q[k] :: Q.drop (k + 1) := List.drop_eq_getElem_cons hlt
  generalize Q[k] = x at hx hdr
  rw [hdr] at hA hlen
  have nx : IntKind.wrap .i64 ((k : Int) + 1) = ((k + 1 : Nat) : Int) := nat_succ64 (by omega)
  rw [nx]
  -- the entry of the place is laid
  have j2 : ∀ {acc : Sl} {A' : List RQ} {d : Bool} {hc : Hp}, A'.length ≤ 2000 → A' ++ x :: putB e d (Q.drop (k + 1)) = putQ e Q → Sat (L ++ [row b 79 (refC c s), Hw.own 105 13 s (Q.flatMap rentC), star (Q.map rdat), rdat e, row z 105 (rentC e), Hw.own 105 13 acc (A'.flatMap rentC)]) hc →
    N58_j2 (some (bk b)) (some (bk z)) acc d (k : Int) hc (fun s3 h1 => (∃ (k' : Nat) (A : List RQ), ((k + 1 : Nat) : Int) = k' ∧ k' ≤ Q.length ∧ A ++ putB e d (Q.drop k') = putQ e Q ∧ Sat (L ++ [row b 79 (refC c s), Hw.own 105 13 s (Q.flatMap rentC), star (Q.map rdat), rdat e, row z 105 (rentC e), Hw.own 105 13 s3 (A.flatMap rentC)]) h1) ∧ Q.length - (((k + 1 : Nat) : Int)).toNat < Q.length - ((k : Nat) : Int).toNat) := by
   intro acc A' d hc hAl hA' g
   unfold N58_j2
   simp only [nn_some', add_bk]
   refine g.lL 0 rfl rfl ?_
   refine g.elem 1 rfl rentC_len (by decide) hx rfl ?_
   intro r hr rd
   simp only [add_bk, Int.toNat_natCast]
   simp only [add_mk]
   refine xI_of (rd (k := 0) rfl) ?_
   refine xI_of (rd rfl) ?_
   refine xI_of (rd rfl) ?_
   refine xI_of (rd rfl) ?_
   refine xI_of (rd rfl) ?_
   refine xI_of (rd rfl) ?_
   refine xI_of (rd rfl) ?_
   refine xI_of (rd rfl) ?_
   refine xI_of (rd rfl) ?_
   refine xI_of (rd rfl) ?_
   refine xB_of (rd rfl) ?_
   refine xI_of (rd rfl) ?_
   refine xL_of (s := x.2) (rd rfl) ?_
   have an := g.elemN 5 rfl rentC_len (by decide)
   refine g.push 5 rfl (k := 1) (ns := rentC x) re_a re_z rfl rentC_plain (room _ (by omega)) ?_
   intro acc' h' g' _
   refine ⟨⟨k + 1, A' ++ [x], rfl, hlt, by rw [List.append_assoc]; exact hA', ?_⟩, by omega⟩
   have e1 : (A' ++ [x]).flatMap rentC = A'.flatMap rentC ++ rentC x := by rw [List.flatMap_append]; simp
   rw [e1]; exact g'
  cases done with
  | true =>
   simp only [Bool.not_true, cond_false, N58_j1]
   exact j2 (by simp only [putB, List.length_cons] at hlen; omega) hA g1
  | false =>
   simp only [Bool.not_false, cond_true]
   refine g1.lL 0 rfl rfl ?_
   refine g1.elem 1 rfl rentC_len (by decide) hx rfl ?_
   intro r hr rd
   simp only [add_bk, Int.toNat_natCast]
   refine xI_of (rd (k := 0) rfl) ?_
   refine g1.lI 4 (k := 0) rfl rfl ?_
   simp only [putB, putQ] at hA hlen
   have hAl : A.length ≤ 1500 := by
    split at hlen
    ·simp only [List.length_cons] at hlen; omega
    ·simp only [List.length_cons] at hlen; omega
   unfold N58_j1
   by_cases hgt : x.1.ip > e.1.ip
   ·rw [if_pos hgt] at hA
    rw [decide_eq_true hgt, cond_true]
    simp only [nn_some', add_bk]
    refine g1.lI 4 (k := 0) rfl rfl ?_
    refine g1.lI 4 rfl rfl ?_
    refine g1.lI 4 rfl rfl ?_
    refine g1.lI 4 rfl rfl ?_
    refine g1.lI 4 rfl rfl ?_
    refine g1.lI 4 rfl rfl ?_
    refine g1.lI 4 rfl rfl ?_
    refine g1.lI 4 rfl rfl ?_
    refine g1.lI 4 rfl rfl ?_
    refine g1.lI 4 rfl rfl ?_
    refine g1.lB 4 rfl rfl ?_
    refine g1.lI 4 rfl rfl ?_
    refine g1.lL 4 rfl rfl ?_
    refine lay (by omega) g1 fun acc' h' g' => ?_
    exact j2 (d := true) (by simp; omega) (by simp only [putB, List.append_assoc, List.singleton_append]; exact hA) g'
   ·rw [if_neg hgt] at hA
    rw [decide_eq_false hgt, cond_false]
    exact j2 (d := false) (by omega) (by simp only [putB]; exact hA) g1
 ·rw [show decide ((k : Int) < ((s.n : Nat) : Int)) = false from decide_eq_false (by omega), cond_false]
  rw [List.drop_of_length_le (by omega)] at hA
  have fin : ∀ {acc : Sl} {hc : Hp}, Sat (L ++ [row b 79 (refC c s), Hw.own 105 13 s (Q.flatMap rentC), star (Q.map rdat), rdat e, row z 105 (rentC e), Hw.own 105 13 acc ((putQ e Q).flatMap rentC)]) hc → N58_j3 (some (bk b)) acc hc K := by
   intro acc hc g
   unfold N58_j3
   simp only [nn_some', add_bk]
   refine g.st 0 rfl (by simp [refC]) rfl ?_
   intro h2 g2
   have g3 : Sat ((L ++ [row b 79 (refC c acc), Hw.own 105 13 acc ((putQ e Q).flatMap rentC)]) ++ [star (Q.map rdat), rdat e]) h2 := g2.part [0, 5, 2, 3] (by decide) rfl
   have g4 := g3.into
   have e1 : Q.map rdat ++ [rdat e] = (Q ++ [e]).map rdat := by simp
   rw [e1] at g4
   have g5 := g4.starPerm (((List.perm_append_singleton e Q).trans (putQ_perm e Q).symm).map rdat)
   exact hK acc h2 (Sat.asc g5)
  cases done with
  | true =>
   simp only [Bool.not_true, cond_false]
   simp only [putB, List.append_nil] at hA
   rw [hA] at g1
   exact fin g1
  | false =>
   simp only [Bool.not_false, cond_true]
   simp only [putB, putQ] at hA
   refine g1.lI 4 (k := 0) rfl rfl ?_
   refine g1.lI 4 rfl rfl ?_
   refine g1.lI 4 rfl rfl ?_
   refine g1.lI 4 rfl rfl ?_
   refine g1.lI 4 rfl rfl ?_
   refine g1.lI 4 rfl rfl ?_
   refine g1.lI 4 rfl rfl ?_
   refine g1.lI 4 rfl rfl ?_
   refine g1.lI 4 rfl rfl ?_
   refine g1.lI 4 rfl rfl ?_
   refine g1.lB 4 rfl rfl ?_
   refine g1.lI 4 rfl rfl ?_
   refine g1.lL 4 rfl rfl ?_
   have hAl : A.length ≤ 2000 := by have := congrArg List.length hA; rw [List.length_append, hput] at this; simp at this; omega
   refine lay hAl g1 fun acc' h' g' => ?_
   rw [hA] at g'
   exact fin g'
theorem r_room {K : Bool → Hp → Prop} (hs : Sat (L ++ [refA b c]) h) (ho : c.ok) (hnone : roomL c.most c.l = none → ∀ h', Sat (L ++ [refA b c]) h' → K false h') (hK : ∀ l, roomL c.most c.l = some l → ∀ h', Sat (L ++ [refA b { c with l := l }]) h' → K true h') : C56 (some (bk b)) h K := by
 apply S56; unfold N56
 have hs' := hs
 obtain ⟨s, Q, g, hQ⟩ := ref_open hs
 have sn := g.elemN 1 rfl rentC_len (by decide)
 have hql : Q.length = c.l.length := by rw [← hQ, List.length_map]
 have hl64 := ho.len
 have hm64 := ho.most
 simp only [nn_some', add_bk]
 refine g.lL 0 rfl rfl ?_
 refine g.lI 0 rfl rfl ?_
 unfold roomL at hnone hK
 by_cases hlt : (c.l.length : Int) < c.most
 ·rw [if_pos hlt] at hK
  rw [show decide (((s.n : Nat) : Int) < c.most) = true from decide_eq_true (by omega), cond_true]
  exact hK _ rfl h hs'
 ·rw [if_neg hlt] at hK hnone
  rw [show decide (((s.n : Nat) : Int) < c.most) = false from decide_eq_false (by omega), cond_false]
  unfold N56_l0
  refine loopP_inv (fun (x : Int × Int) hc => hc = h ∧ ∃ (i : Nat) (o : Option NE), x.2 = i ∧ i ≤ Q.length ∧ ((o = none ∧ x.1 = -1) ∨ ∃ (k : Nat) (y : RQ), Q[k]? = some y ∧ o = some y.1 ∧ x.1 = k) ∧ leastK o (c.l.drop i) = leastK none c.l) (fun x _ => Q.length - x.2.toNat) ?_ ⟨rfl, 0, none, rfl, Nat.zero_le _, .inl ⟨rfl, rfl⟩, rfl⟩
  rintro ⟨at_, x⟩ hc ⟨rfl, i, o, hx, hi, ho1, hr⟩
  simp only at hx ho1
  subst hx
  unfold N56_l0_B N56_l0_b
  dsimp only
  rw [nn_some', add_bk]
  refine g.lL 0 rfl rfl ?_
  by_cases hil : i < Q.length
  ·rw [show decide ((i : Int) < ((s.n : Nat) : Int)) = true from decide_eq_true (by omega), cond_true, nn_some', add_bk]
   refine g.lL 0 rfl rfl ?_
   have hyi : Q[i]? = some Q[i] := List.getElem?_eq_getElem hil
   have hci : c.l[i]? = some Q[i].1 := by rw [← hQ, List.getElem?_map, hyi]; rfl
   have hil' : i < c.l.length := by omega
   have hdr : c.l.drop i = Q[i].1 :: c.l.drop (i + 1) := by
    rw [List.drop_eq_getElem_cons hil']
    rw [List.getElem?_eq_getElem hil'] at hci
    rw [Option.some.inj hci]
   rw [hdr] at hr
   generalize Q[i] = y at hyi hr hci
   have nx : IntKind.wrap .i64 ((i : Int) + 1) = ((i + 1 : Nat) : Int) := nat_succ64 (by omega)
   rw [nx]
   refine g.elem 1 rfl rentC_len (by decide) hyi rfl ?_
   intro r hr' rd
   rw [add_bk, add_mk, Int.toNat_natCast]
   refine xI_of (rd rfl) ?_
   have step : ∀ {a : Int} {o' : Option NE}, ((o' = none ∧ a = -1) ∨ ∃ (k : Nat) (y : RQ), Q[k]? = some y ∧ o' = some y.1 ∧ a = k) → leastK o' (c.l.drop (i + 1)) = leastK none c.l → (hc = hc ∧ ∃ (i' : Nat) (o : Option NE), ((i + 1 : Nat) : Int) = i' ∧ i' ≤ Q.length ∧ ((o = none ∧ a = -1) ∨ ∃ (k : Nat) (y : RQ), Q[k]? = some y ∧ o = some y.1 ∧ a = k) ∧ leastK o (c.l.drop i') = leastK none c.l) ∧ Q.length - (((i + 1 : Nat) : Int)).toNat < Q.length - ((i : Nat) : Int).toNat := by
    intro a o' q1 q2
    exact ⟨⟨rfl, i + 1, o', rfl, hil, q1, q2⟩, by simp only [Int.toNat_natCast]; omega⟩
   by_cases hk : y.1.tries = 0
   ·rw [show ((if y.1.tries = 0 then (2 : Int) else 1) == 2) = true by rw [if_pos hk]; rfl, cond_true]
    rcases ho1 with ⟨rfl, rfl⟩ | ⟨k, w, hw, rfl, rfl⟩
    ·rw [show decide ((-1 : Int) < 0) = true from rfl, cond_true]
     rw [leastK, if_pos hk] at hr
     exact step (.inr ⟨i, y, hyi, rfl, rfl⟩) hr
    ·rw [show decide ((k : Int) < 0) = false from decide_eq_false (by omega), cond_false, nn_some', add_bk]
     refine g.lL 0 rfl rfl ?_
     refine g.elem 1 rfl rentC_len (by decide) hyi rfl ?_
     intro r2 hr2 rd2
     rw [add_bk, add_mk, Int.toNat_natCast]
     refine xI_of (rd2 rfl) ?_
     rw [nn_some', add_bk]
     refine g.lL 0 rfl rfl ?_
     refine g.elem 1 rfl rentC_len (by decide) hw rfl ?_
     intro r3 hr3 rd3
     rw [add_bk, add_mk, Int.toNat_natCast]
     refine xI_of (rd3 rfl) ?_
     rw [leastK] at hr
     by_cases hlt2 : y.1.til < w.1.til
     ·rw [if_pos ⟨hk, hlt2⟩] at hr
      rw [decide_eq_true hlt2, cond_true]
      exact step (.inr ⟨i, y, hyi, rfl, rfl⟩) hr
     ·rw [if_neg (fun q => hlt2 q.2)] at hr
      rw [decide_eq_false hlt2, cond_false]
      exact step (.inr ⟨k, w, hw, rfl, rfl⟩) hr
   ·rw [show ((if y.1.tries = 0 then (2 : Int) else 1) == 2) = false by rw [if_neg hk]; rfl, cond_false]
    refine step ho1 ?_
    rw [← hr]
    cases o with
    | none => rw [leastK, if_neg hk]
    | some x => rw [leastK, if_neg (fun q => hk q.1)]
  ·rw [show decide ((i : Int) < ((s.n : Nat) : Int)) = false from decide_eq_false (by omega), cond_false]
   rw [List.drop_of_length_le (by omega)] at hr
   have hr : o = leastK none c.l := by rw [← hr]; cases o <;> rfl
   rcases ho1 with ⟨rfl, rfl⟩ | ⟨k, w, hw, rfl, rfl⟩
   ·rw [show decide ((-1 : Int) < 0) = true from rfl, cond_true]
    rw [← hr] at hnone
    exact hnone rfl _ hs'
   ·rw [show decide ((k : Int) < 0) = false from decide_eq_false (by omega), cond_false]
    rw [← hr] at hK
    refine r_drop g (by omega) hw ?_
    intro s' h' g'
    refine hK _ rfl h' (ref_shut (c := { c with l := delK keyE w.1.ip c.l }) g' ?_)
    have hnod := ho.nod
    rw [← hQ] at hnod ⊢
    rw [map_erase]
    exact erase_delK hnod (j := k) (a := w.1) (by rw [List.getElem?_map, hw]; rfl) rfl
theorem r_quest {e : NE} {d s : Sl} {M : List Asn} {K : Int → Int → Int → Int → Int → Int → Int → Sl → Hp → Prop} (hs : Sat (L ++ M) h) (j : Nat) (hj : M[j]? = some (row b 79 (refC c s))) (ho : c.ok) (hsrc : 0 ≤ e.src ∧ e.src < 4294967296) (hip : 0 ≤ e.ip ∧ e.ip < 4294967296) {st : Int} {wt : Bool} {ti tr : Int} {mm : M6}
  (hK : ∀ x h', Sat (L ++ (M ++ [Hw.own 5 1 x (bc (questC c e).data)])) h' → K 255 255 255 255 255 255 2054 x h') : C59 (some (bk b)) e.ip mm.a mm.b mm.c mm.d mm.e mm.f st ti tr wt e.src d h K := by
 apply S59; unfold N59
 have hs0 : Sat ((L ++ M) ++ []) h := by rw [List.append_nil]; exact hs
 refine hs0.nw ?_
 intro b0 h0 g1 _
 refine g1.nw ?_
 intro b1 h1 g2 _
 have g2 : Sat ((L ++ M) ++ [row b0 105 [.int .u32 e.ip, .int .u8 mm.a, .int .u8 mm.b, .int .u8 mm.c, .int .u8 mm.d, .int .u8 mm.e, .int .u8 mm.f, .int .i64 st, .int .i64 ti, .int .i64 tr, .bool wt, .int .u32 e.src, .slice d.p d.n d.c], row b1 59 [.int .u8 0, .int .u8 0, .int .u8 0, .int .u8 0, .int .u8 0, .int .u8 0, .int .i64 0, .slice none 0 0]]) h1 := g2
 have g3 : Sat (L ++ M) h1 := g2.left
 simp only [nn_some', add_bk]
 refine g3.lI j hj rfl ?_
 refine g3.lI j hj rfl ?_
 refine g3.lI j hj rfl ?_
 refine g3.lI j hj rfl ?_
 refine g3.lI j hj rfl ?_
 refine g3.lI j hj rfl ?_
 refine g2.lI 0 rfl rfl ?_
 refine g2.lI 0 (k := 0) rfl rfl ?_
 refine c_rask fun h2 he2 => ?_
 refine c_renc (op := 1) (s := c.own) (d := mac0) (.inl rfl) ho.own mac0_ok hsrc hip fun h3 x hn => ?_
 have g4 := (g2.ext he2).addNew hn
 refine c_Every fun h4 he4 => ?_
 have g5 : Sat ((L ++ M) ++ [row b0 105 [.int .u32 e.ip, .int .u8 mm.a, .int .u8 mm.b, .int .u8 mm.c, .int .u8 mm.d, .int .u8 mm.e, .int .u8 mm.f, .int .i64 st, .int .i64 ti, .int .i64 tr, .bool wt, .int .u32 e.src, .slice d.p d.n d.c], row b1 59 [.int .u8 0, .int .u8 0, .int .u8 0, .int .u8 0, .int .u8 0, .int .u8 0, .int .i64 0, .slice none 0 0], Hw.own 5 1 x (bc (questC c e).data)]) h4 := g4.ext he4
 refine g5.st 1 rfl (by simp) rfl fun h5 g6 => ?_
 refine Sat.st g6 1 rfl (by simp) rfl fun h5 g6 => ?_
 refine Sat.st g6 1 rfl (by simp) rfl fun h5 g6 => ?_
 refine Sat.st g6 1 rfl (by simp) rfl fun h5 g6 => ?_
 refine Sat.st g6 1 rfl (by simp) rfl fun h5 g6 => ?_
 refine Sat.st g6 1 rfl (by simp) rfl fun h5 g6 => ?_
 refine Sat.st g6 1 rfl (by simp) rfl fun h5 g6 => ?_
 refine Sat.st g6 1 rfl (by simp) rfl fun h5 g6 => ?_
 have g7 : Sat ((L ++ M) ++ [row b0 105 [.int .u32 e.ip, .int .u8 mm.a, .int .u8 mm.b, .int .u8 mm.c, .int .u8 mm.d, .int .u8 mm.e, .int .u8 mm.f, .int .i64 st, .int .i64 ti, .int .i64 tr, .bool wt, .int .u32 e.src, .slice d.p d.n d.c], row b1 59 [.int .u8 255, .int .u8 255, .int .u8 255, .int .u8 255, .int .u8 255, .int .u8 255, .int .i64 2054, .slice x.p x.n x.c], Hw.own 5 1 x (bc (questC c e).data)]) h5 := g6
 refine g7.lI 1 rfl rfl ?_
 refine g7.lI 1 rfl rfl ?_
 refine g7.lI 1 rfl rfl ?_
 refine g7.lI 1 rfl rfl ?_
 refine g7.lI 1 rfl rfl ?_
 refine g7.lI 1 rfl rfl ?_
 refine g7.lI 1 rfl rfl ?_
 refine g7.lL 1 rfl rfl ?_
 have g8 : Sat ((L ++ M) ++ [Hw.own 5 1 x (bc (questC c e).data)]) h5 := g7.sel [2] (by decide) rfl
 exact hK x h5 (Sat.asc g8)
theorem r_clear {K : Hp → Prop} (hs : Sat (L ++ [refA b c]) h) (hK : ∀ h', Sat (L ++ [refA b { c with l := [] }]) h' → K h') : C32 (some (bk b)) h K := by
 apply S32; unfold N32
 obtain ⟨s, Q, g, hQ⟩ := ref_open hs
 simp only [nn_some', add_bk]
 refine g.st 0 rfl (by simp [refC]) rfl fun h2 g2 => ?_
 have g3 : Sat (L ++ [row b 79 (refC { c with l := [] } ⟨none, 0, 0⟩)]) h2 := g2.sel [0] (by decide) rfl
 have g4 := g3.addNil 105 13
 have g6 : Sat ((L ++ [row b 79 (refC { c with l := [] } ⟨none, 0, 0⟩), Hw.own 105 13 ⟨none, 0, 0⟩ []]) ++ []) h2 := by rw [List.append_nil]; exact g4
 exact hK h2 (ref_shut (c := { c with l := [] }) (Q := []) (s := ⟨none, 0, 0⟩) (Sat.asc g6.close) rfl)
theorem r_next {K : Int → Bool → Hp → Prop} (hs : Sat (L ++ [refA b c]) h) (ho : c.ok) (hK : ∀ n x, NextIs c.l n x → K n x h) : C35 (some (bk b)) h K := by
 apply S35; unfold N35
 obtain ⟨s, Q, g, hQ⟩ := ref_open hs
 have sn := g.elemN 1 rfl rentC_len (by decide)
 have hql : Q.length = c.l.length := by rw [← hQ, List.length_map]
 have hl64 := ho.len
 have hm64 := ho.most
 simp only [nn_some', add_bk]
 refine g.lL 0 rfl rfl ?_
 cases hQe : Q with
 | nil =>
  have h0 : s.n = 0 := by rw [sn, hQe]; rfl
  rw [h0]
  have hc0 : c.l = [] := by rw [← hQ, hQe]; rfl
  exact hK _ _ (.inl ⟨hc0, rfl, rfl⟩)
 | cons q Q' =>
  have hq0 : Q[0]? = some q := by rw [hQe]; rfl
  have hpos : 0 < Q.length := by rw [hQe]; simp
  rw [show (((s.n : Nat) : Int) == 0) = false by simp; omega, cond_false]
  refine g.lL 0 rfl rfl ?_
  refine g.elem 1 rfl rentC_len (by decide) (i := 0) hq0 rfl ?_
  intro r hr rd
  rw [add_bk, add_mk]
  refine xI_of (rd rfl) ?_
  unfold N35_l0
  refine loopP_inv (fun (x : Int × Int) hc => hc = h ∧ ∃ i : Nat, x.2 = i ∧ i ≤ Q.length ∧ (∃ y ∈ Q, y.1.til = x.1) ∧ ∀ y ∈ Q.take i, x.1 ≤ y.1.til) (fun x _ => Q.length - x.2.toNat) ?_ ⟨rfl, 0, rfl, Nat.zero_le _, ⟨q, List.mem_of_getElem? hq0, rfl⟩, by simp⟩
  rintro ⟨n, x⟩ hc ⟨rfl, i, hx, hi, ⟨y0, hy0, hn⟩, hle⟩
  simp only at hx hn hle
  subst hx
  unfold N35_l0_B N35_l0_b
  dsimp only
  rw [nn_some', add_bk]
  refine g.lL 0 rfl rfl ?_
  by_cases hil : i < Q.length
  ·rw [show decide ((i : Int) < ((s.n : Nat) : Int)) = true from decide_eq_true (by omega), cond_true, nn_some', add_bk]
   refine g.lL 0 rfl rfl ?_
   have hyi : Q[i]? = some Q[i] := List.getElem?_eq_getElem hil
   have htk : Q.take (i + 1) = Q.take i ++ [Q[i]] := List.take_succ_eq_append_getElem hil
   generalize Q[i] = y at hyi htk
   refine g.elem 1 rfl rentC_len (by decide) hyi rfl ?_
   intro r2 hr2 rd2
   rw [add_bk, add_mk, Int.toNat_natCast]
   refine xI_of (rd2 rfl) ?_
   rw [nat_succ64 (by omega), mn_eq]
   refine ⟨⟨rfl, i + 1, rfl, hil, ?_, ?_⟩, by simp only [Int.toNat_natCast]; omega⟩
   ·rcases Int.le_total n y.1.til with hc' | hc'
    ·exact ⟨y0, hy0, by rw [hn]; omega⟩
    ·exact ⟨y, List.mem_of_getElem? hyi, by omega⟩
   ·intro w hw
    rw [htk] at hw
    rcases List.mem_append.1 hw with hw | hw
    ·have := hle w hw; omega
    ·simp only [List.mem_singleton] at hw; rw [hw]; omega
  ·rw [show decide ((i : Int) < ((s.n : Nat) : Int)) = false from decide_eq_false (by omega), cond_false]
   rw [List.take_of_length_le (by omega)] at hle
   refine hK _ _ (.inr ⟨rfl, ⟨y0.1, ?_, hn⟩, ?_⟩)
   ·rw [← hQ]; exact List.mem_map.2 ⟨y0, hy0, rfl⟩
   ·intro e he
    rw [← hQ] at he
    obtain ⟨w, hw, rfl⟩ := List.mem_map.1 he
    exact hle w hw
theorem r_look {K : Sl → Hp → Prop} (hs : Sat (L ++ [refA b c]) h) (ho : c.ok) (hK : ∀ s h', Sat (L ++ [refA b c, Hw.own 68 11 s (nbs c.l)]) h' → K s h') : C33 (some (bk b)) h K := by
 apply S33; unfold N33 N33_l0
 obtain ⟨s, Q, g, hQ⟩ := ref_open hs
 have sn := g.elemN 1 rfl rentC_len (by decide)
 have hql : Q.length = c.l.length := by rw [← hQ, List.length_map]
 have hl64 := ho.len
 have hm64 := ho.most
 have g0 := g.addNil 68 11
 refine loopP_inv (fun (x : Sl × Int) hc => ∃ i : Nat, x.2 = i ∧ i ≤ Q.length ∧ Sat (L ++ [row b 79 (refC c s), Hw.own 105 13 s (Q.flatMap rentC), star (Q.map rdat), Hw.own 68 11 x.1 (nbs (c.l.take i))]) hc) (fun x _ => Q.length - x.2.toNat) ?_ ⟨0, rfl, Nat.zero_le _, g0⟩
 rintro ⟨acc, x⟩ hc ⟨i, hx, hi, g1⟩
 simp only at hx g1
 subst hx
 unfold N33_l0_B N33_l0_b
 dsimp only
 rw [nn_some', add_bk]
 refine g1.lL 0 rfl rfl ?_
 by_cases hil : i < Q.length
 ·rw [show decide ((i : Int) < ((s.n : Nat) : Int)) = true from decide_eq_true (by omega), cond_true, nn_some', add_bk]
  refine g1.lL 0 rfl rfl ?_
  have hyi : Q[i]? = some Q[i] := List.getElem?_eq_getElem hil
  have hci : c.l[i]? = some Q[i].1 := by rw [← hQ, List.getElem?_map, hyi]; rfl
  have hil' : i < c.l.length := by omega
  have htk : c.l.take (i + 1) = c.l.take i ++ [Q[i].1] := by
   rw [List.take_succ_eq_append_getElem hil']
   rw [List.getElem?_eq_getElem hil'] at hci
   rw [Option.some.inj hci]
  generalize Q[i] = y at hyi htk
  refine g1.elem 1 rfl rentC_len (by decide) hyi rfl ?_
  intro r2 hr2 rd
  simp only [add_bk, Int.toNat_natCast]
  simp only [add_mk]
  refine xI_of (rd (k := 0) rfl) ?_
  refine xI_of (rd rfl) ?_
  refine xI_of (rd rfl) ?_
  refine xI_of (rd rfl) ?_
  refine xI_of (rd rfl) ?_
  refine xI_of (rd rfl) ?_
  refine xI_of (rd rfl) ?_
  refine xI_of (rd rfl) ?_
  refine xI_of (rd rfl) ?_
  refine xI_of (rd rfl) ?_
  refine xB_of (rd rfl) ?_
  have an : acc.n = i := by have := (g1.own 3 rfl).1; rw [nbs_len, List.length_take] at this; omega
  refine g1.push 3 rfl (k := 1) (ns := nbC y.1) nt_a nt_z rfl nbC_plain (by have := nt_b; rw [an]; have : (i + 1) * 2 * Try.prog.bytesOf 68 ≤ (i + 1) * 2 * 64 := Nat.mul_le_mul_left _ nt_b; omega) ?_
  intro acc' h4 g15 _
  rw [nat_succ64 (by omega)]
  refine ⟨⟨i + 1, rfl, hil, ?_⟩, by simp only [Int.toNat_natCast]; omega⟩
  rw [htk]
  have es : nbs (c.l.take i ++ [y.1]) = nbs (c.l.take i) ++ nbC y.1 := by simp [nbs]
  rw [es]
  exact g15
 ·rw [show decide ((i : Int) < ((s.n : Nat) : Int)) = false from decide_eq_false (by omega), cond_false]
  have : i = c.l.length := by omega
  subst this
  rw [List.take_length] at g1
  have g2 : Sat ((L ++ [Hw.own 68 11 acc (nbs c.l)]) ++ [row b 79 (refC c s), Hw.own 105 13 s (Q.flatMap rentC), star (Q.map rdat)]) hc := g1.part [3, 0, 1, 2] (by decide) rfl
  exact hK _ _ ((Sat.asc (ref_shut g2 hQ)).sel [1, 0] (by decide) rfl)
end
end Go.Proofs.Ytkfccpabigikkaa

set_option linter.unusedVariables false
set_option maxRecDepth 100000
namespace Go.Proofs.Ytkfccpabigikkaa
open Go Go.Hw
noncomputable def B28 : Code := match Try.f28.body with | some c => c | none => .skip
def N28_j0 (x0 : Option Addr) (x1 x2 : Int) (x3 : Sl) (x11 : Int) (x33 : Bool) (h : Hp) (Kn : Hp → Prop) (Kr : Sl → Hp → Prop) : Prop :=
 bif x33 then
 nn x0 fun a0 =>
 xL (cell h (a0.add 7)) fun s0 =>
 C54 x3 h fun s1 h0 =>
 both (xL (cell h0 (a0.add 7)) fun s2 => Only (.slice s0.p s0.n s0.c) h0 (.slice s2.p s2.n s2.c) h0) <|
 idx x11 s0.n <|
 nn s0.p fun a1 =>
 st h0 ((a1.add (x11.toNat * 13)).add 12) (.slice s1.p s1.n s1.c) fun h1 =>
 nn x0 fun a2 =>
 xL (cell h1 (a2.add 7)) fun s3 =>
 idx x11 s3.n <|
 nn s3.p fun a3 =>
 st h1 ((a3.add (x11.toNat * 13)).add 11) (.int .u32 x1) fun h2 =>
 Kr ⟨none, 0, 0⟩ h2
 else
 Kn h
noncomputable def N28_j0_t : Xf := pieceT [(0, .c (.ptr)), (1, .c (.int .u32)), (2, .c (.int .u32)), (3, .c (.slice)), (11, .c (.int .i64)), (33, .c (.bool))] (codeAt B28 [1, 1, 1, 0, 1]) fun x h Q => N28_j0 x.1 x.2.1 x.2.2.1 x.2.2.2.1 x.2.2.2.2.1 x.2.2.2.2.2 h (fun h' => Q .normal (Sg.env [] ()) h') (fun o0 h' => Q .ret (Sg.env [(10, .c (.slice))] o0) h')
theorem N28_j0_ok : Sound Try.prog Try.f28.ntmps N28_j0_t (codeAt B28 [1, 1, 1, 0, 1]) := by
 refine piece_sound (fun e => match e with | .normal => [] | .ret => [10] | _ => []) ?_
 intro x h Q hb
 refine den_sound hE hm _ (.two (.two (.ord [0, 1, 2, 3, 4, 5, 6, 7, 8, 9]) .leaf) .leaf) _ _ _ (⟨⟨trivial, annOk_leaf⟩, annOk_leaf⟩) ?_
 refine cast ?_ hb
 kernel_rfl
def N28_j2 (x0 : Option Addr) (x1 x2 : Int) (x3 : Sl) (x11 : Int) (x68 : Bool) (h : Hp) (Kn : Hp → Prop) (Kr : Sl → Hp → Prop) : Prop :=
 bif x68 then
 nn x0 fun a0 =>
 xL (cell h (a0.add 7)) fun s0 =>
 idx x11 s0.n <|
 nn s0.p fun a1 =>
 xI .u8 (cell h ((a1.add (x11.toNat * 13)).add 1)) fun n0 =>
 xI .u8 (cell h ((a1.add (x11.toNat * 13)).add 2)) fun n1 =>
 xI .u8 (cell h ((a1.add (x11.toNat * 13)).add 3)) fun n2 =>
 xI .u8 (cell h ((a1.add (x11.toNat * 13)).add 4)) fun n3 =>
 xI .u8 (cell h ((a1.add (x11.toNat * 13)).add 5)) fun n4 =>
 xI .u8 (cell h ((a1.add (x11.toNat * 13)).add 6)) fun n5 =>
 C54 x3 h fun s1 h0 =>
 both (xI .u8 (cell h0 ((a1.add (x11.toNat * 13)).add 1)) fun n6 => xI .u8 (cell h0 ((a1.add (x11.toNat * 13)).add 2)) fun n7 => xI .u8 (cell h0 ((a1.add (x11.toNat * 13)).add 3)) fun n8 => xI .u8 (cell h0 ((a1.add (x11.toNat * 13)).add 4)) fun n9 => xI .u8 (cell h0 ((a1.add (x11.toNat * 13)).add 5)) fun n10 => xI .u8 (cell h0 ((a1.add (x11.toNat * 13)).add 6)) fun n11 => Only (.agg ⟨[.int .u8 n0, .int .u8 n1, .int .u8 n2, .int .u8 n3, .int .u8 n4, .int .u8 n5]⟩) h0 (.agg ⟨[.int .u8 n6, .int .u8 n7, .int .u8 n8, .int .u8 n9, .int .u8 n10, .int .u8 n11]⟩) h0) <|
 both (xL (cell h0 (a0.add 7)) fun s2 => Only (.slice s0.p s0.n s0.c) h0 (.slice s2.p s2.n s2.c) h0) <|
 nw h0 (.cells ⟨[.int .u8 n0, .int .u8 n1, .int .u8 n2, .int .u8 n3, .int .u8 n4, .int .u8 n5, .int .i64 2048, .slice s1.p s1.n s1.c]⟩ 59) fun b0 h1 =>
 Kr ⟨some (bk b0), 1, 1⟩ h1
 else
 Kn h
noncomputable def N28_j2_t : Xf := pieceT [(0, .c (.ptr)), (1, .c (.int .u32)), (2, .c (.int .u32)), (3, .c (.slice)), (11, .c (.int .i64)), (68, .c (.bool))] (codeAt B28 [1, 1, 1, 1, 0, 1]) fun x h Q => N28_j2 x.1 x.2.1 x.2.2.1 x.2.2.2.1 x.2.2.2.2.1 x.2.2.2.2.2 h (fun h' => Q .normal (Sg.env [] ()) h') (fun o0 h' => Q .ret (Sg.env [(10, .c (.slice))] o0) h')
theorem N28_j2_ok : Sound Try.prog Try.f28.ntmps N28_j2_t (codeAt B28 [1, 1, 1, 1, 0, 1]) := by
 refine piece_sound (fun e => match e with | .normal => [] | .ret => [10] | _ => []) ?_
 intro x h Q hb
 refine den_sound hE hm _ (.two (.two (.ord [0, 1, 2, 3, 4, 5, 6, 7, 8, 9, 10, 11, 12, 13]) .leaf) .leaf) _ _ _ (⟨⟨trivial, annOk_leaf⟩, annOk_leaf⟩) ?_
 refine cast ?_ hb
 kernel_rfl
def N28_j4 (x0 : Option Addr) (x1 x2 : Int) (x3 : Sl) (h : Hp) (Kr : Sl → Hp → Prop) : Prop :=
 C56 x0 h fun b0 h0 =>
 bif (!b0) then
 Kr ⟨none, 0, 0⟩ h0
 else
 C57 x0 10 h0 fun n0 h1 =>
 C54 x3 h1 fun s0 h2 =>
 nw h2 (.cells ⟨[.int .u32 0, .int .u8 0, .int .u8 0, .int .u8 0, .int .u8 0, .int .u8 0, .int .u8 0, .int .i64 0, .int .i64 0, .int .i64 0, .bool false, .int .u32 0, .slice none 0 0]⟩ 105) fun b1 h3 =>
 st h3 (bk b1) (.int .u32 x2) fun h4 =>
 st h4 ((bk b1).add 1) (.int .u8 0) fun h5 =>
 st h5 ((bk b1).add 2) (.int .u8 0) fun h6 =>
 st h6 ((bk b1).add 3) (.int .u8 0) fun h7 =>
 st h7 ((bk b1).add 4) (.int .u8 0) fun h8 =>
 st h8 ((bk b1).add 5) (.int .u8 0) fun h9 =>
 st h9 ((bk b1).add 6) (.int .u8 0) fun h10 =>
 st h10 ((bk b1).add 7) (.int .i64 1) fun h11 =>
 st h11 ((bk b1).add 8) (.int .i64 n0) fun h12 =>
 st h12 ((bk b1).add 9) (.int .i64 1) fun h13 =>
 st h13 ((bk b1).add 10) (.bool true) fun h14 =>
 st h14 ((bk b1).add 11) (.int .u32 x1) fun h15 =>
 st h15 ((bk b1).add 12) (.slice s0.p s0.n s0.c) fun h16 =>
 xI .u32 (cell h16 (bk b1)) fun n1 =>
 xI .u8 (cell h16 ((bk b1).add 1)) fun n2 =>
 xI .u8 (cell h16 ((bk b1).add 2)) fun n3 =>
 xI .u8 (cell h16 ((bk b1).add 3)) fun n4 =>
 xI .u8 (cell h16 ((bk b1).add 4)) fun n5 =>
 xI .u8 (cell h16 ((bk b1).add 5)) fun n6 =>
 xI .u8 (cell h16 ((bk b1).add 6)) fun n7 =>
 xI .i64 (cell h16 ((bk b1).add 7)) fun n8 =>
 xI .i64 (cell h16 ((bk b1).add 8)) fun n9 =>
 xI .i64 (cell h16 ((bk b1).add 9)) fun n10 =>
 xB (cell h16 ((bk b1).add 10)) fun b2 =>
 xI .u32 (cell h16 ((bk b1).add 11)) fun n11 =>
 xL (cell h16 ((bk b1).add 12)) fun s1 =>
 C58 x0 n1 n2 n3 n4 n5 n6 n7 n8 n9 n10 b2 n11 s1 h16 fun h17 =>
 xI .u32 (cell h17 (bk b1)) fun n12 =>
 xI .u8 (cell h17 ((bk b1).add 1)) fun n13 =>
 xI .u8 (cell h17 ((bk b1).add 2)) fun n14 =>
 xI .u8 (cell h17 ((bk b1).add 3)) fun n15 =>
 xI .u8 (cell h17 ((bk b1).add 4)) fun n16 =>
 xI .u8 (cell h17 ((bk b1).add 5)) fun n17 =>
 xI .u8 (cell h17 ((bk b1).add 6)) fun n18 =>
 xI .i64 (cell h17 ((bk b1).add 7)) fun n19 =>
 xI .i64 (cell h17 ((bk b1).add 8)) fun n20 =>
 xI .i64 (cell h17 ((bk b1).add 9)) fun n21 =>
 xB (cell h17 ((bk b1).add 10)) fun b3 =>
 xI .u32 (cell h17 ((bk b1).add 11)) fun n22 =>
 xL (cell h17 ((bk b1).add 12)) fun s2 =>
 C59 x0 n12 n13 n14 n15 n16 n17 n18 n19 n20 n21 b3 n22 s2 h17 fun n23 n24 n25 n26 n27 n28 n29 s3 h18 =>
 nw h18 (.cells ⟨[.int .u8 n23, .int .u8 n24, .int .u8 n25, .int .u8 n26, .int .u8 n27, .int .u8 n28, .int .i64 n29, .slice s3.p s3.n s3.c]⟩ 59) fun b4 h19 =>
 Kr ⟨some (bk b4), 1, 1⟩ h19
noncomputable def N28_j4_t : Xf := pieceT [(0, .c (.ptr)), (1, .c (.int .u32)), (2, .c (.int .u32)), (3, .c (.slice))] (codeAt B28 [1, 1, 1, 1, 1, 1]) fun x h Q => N28_j4 x.1 x.2.1 x.2.2.1 x.2.2.2 h (fun o0 h' => Q .ret (Sg.env [(10, .c (.slice))] o0) h')
theorem N28_j4_ok : Sound Try.prog Try.f28.ntmps N28_j4_t (codeAt B28 [1, 1, 1, 1, 1, 1]) := by
 refine piece_sound (fun e => match e with | .ret => [10] | _ => []) ?_
 intro x h Q hb
 refine den_sound hE hm _ .leaf _ _ _ (annOk_leaf) ?_
 refine cast ?_ hb
 kernel_rfl
def N28_j3 (x0 : Option Addr) (x1 x2 : Int) (x3 : Sl) (x11 : Int) (h : Hp) (Kr : Sl → Hp → Prop) : Prop :=
 bif (decide (x11 ≥ 0)) then
 C55 x0 x11 h fun h0 =>
 N28_j4 x0 x1 x2 x3 h0
 (fun s0 h1 =>
 Kr s0 h1)
 else
 N28_j4 x0 x1 x2 x3 h
 (fun s1 h2 =>
 Kr s1 h2)
noncomputable def N28_j3_t : Xf := pieceT [(0, .c (.ptr)), (1, .c (.int .u32)), (2, .c (.int .u32)), (3, .c (.slice)), (11, .c (.int .i64))] (codeAt B28 [1, 1, 1, 1, 1]) fun x h Q => N28_j3 x.1 x.2.1 x.2.2.1 x.2.2.2.1 x.2.2.2.2 h (fun o0 h' => Q .ret (Sg.env [(10, .c (.slice))] o0) h')
theorem N28_j3_ok : Sound Try.prog Try.f28.ntmps N28_j3_t (codeAt B28 [1, 1, 1, 1, 1]) := by
 refine piece_sound (fun e => match e with | .ret => [10] | _ => []) ?_
 intro x h Q hb
 refine den_sound hE hm _ (.two .leaf (.xf N28_j4_t)) _ _ _ (⟨annOk_leaf, N28_j4_ok⟩) ?_
 refine cast ?_ hb
 kernel_rfl
def N28_j1 (x0 : Option Addr) (x1 x2 : Int) (x3 : Sl) (x11 : Int) (h : Hp) (Kr : Sl → Hp → Prop) : Prop :=
 bif (decide (x11 ≥ 0)) then
 nn x0 fun a0 =>
 xI .i64 (cell h (a0.add 8)) fun n0 =>
 nn x0 fun a1 =>
 xL (cell h (a1.add 7)) fun s0 =>
 idx x11 s0.n <|
 nn s0.p fun a2 =>
 xI .i64 (cell h ((a2.add (x11.toNat * 13)).add 8)) fun n1 =>
 N28_j2 x0 x1 x2 x3 x11 (decide (n0 < n1)) h
 (fun h0 =>
 N28_j3 x0 x1 x2 x3 x11 h0
 (fun s1 h1 =>
 Kr s1 h1))
 (fun s2 h2 =>
 Kr s2 h2)
 else
 N28_j2 x0 x1 x2 x3 x11 false h
 (fun h3 =>
 N28_j3 x0 x1 x2 x3 x11 h3
 (fun s3 h4 =>
 Kr s3 h4))
 (fun s4 h5 =>
 Kr s4 h5)
noncomputable def N28_j1_t : Xf := pieceT [(0, .c (.ptr)), (1, .c (.int .u32)), (2, .c (.int .u32)), (3, .c (.slice)), (11, .c (.int .i64))] (codeAt B28 [1, 1, 1, 1]) fun x h Q => N28_j1 x.1 x.2.1 x.2.2.1 x.2.2.2.1 x.2.2.2.2 h (fun o0 h' => Q .ret (Sg.env [(10, .c (.slice))] o0) h')
theorem N28_j1_ok : Sound Try.prog Try.f28.ntmps N28_j1_t (codeAt B28 [1, 1, 1, 1]) := by
 refine piece_sound (fun e => match e with | .ret => [10] | _ => []) ?_
 intro x h Q hb
 refine den_sound hE hm _ (.two (.two (.ord [0, 1, 2, 3, 4, 5, 6, 7, 8, 9, 10, 11, 12, 13, 14, 15, 16, 17]) (.xf N28_j2_t)) (.xf N28_j3_t)) _ _ _ (⟨⟨trivial, N28_j2_ok⟩, N28_j3_ok⟩) ?_
 refine cast ?_ hb
 kernel_rfl
def N28 (x0 : Option Addr) (x1 x2 : Int) (x3 : Sl) (x4 : Int) (h : Hp) (K : Sl → Hp → Prop) : Prop :=
 C52 x0 x4 h fun h0 =>
 C53 x0 x2 h0 fun n0 h1 =>
 bif (decide (n0 ≥ 0)) then
 nn x0 fun a0 =>
 xL (cell h1 (a0.add 7)) fun s0 =>
 idx n0 s0.n <|
 nn s0.p fun a1 =>
 xI .i64 (cell h1 ((a1.add (n0.toNat * 13)).add 7)) fun n1 =>
 N28_j0 x0 x1 x2 x3 n0 (n1 == 1) h1
 (fun h2 =>
 N28_j1 x0 x1 x2 x3 n0 h2
 (fun s1 h3 =>
 K s1 h3))
 (fun s2 h4 =>
 K s2 h4)
 else
 N28_j0 x0 x1 x2 x3 n0 false h1
 (fun h5 =>
 N28_j1 x0 x1 x2 x3 n0 h5
 (fun s3 h6 =>
 K s3 h6))
 (fun s4 h7 =>
 K s4 h7)
theorem S28 {x0 : Option Addr} {x1 x2 : Int} {x3 : Sl} {x4 : Int} {h : Hp} {K : Sl → Hp → Prop} (hn : N28 x0 x1 x2 x3 x4 h K) : C28 x0 x1 x2 x3 x4 h K := by
 refine calls_of_D Try.func28 (c := B28) rfl (by kernel_rfl) ?_
 refine den_sound hE hm _ (.two .leaf (.two .leaf (.two .leaf (.two (.two .leaf (.xf N28_j0_t)) (.xf N28_j1_t))))) _ _ _ (⟨annOk_leaf, ⟨annOk_leaf, ⟨annOk_leaf, ⟨⟨annOk_leaf, N28_j0_ok⟩, N28_j1_ok⟩⟩⟩⟩) ?_
 refine cast ?_ hn
 kernel_rfl
end Go.Proofs.Ytkfccpabigikkaa

set_option linter.unusedVariables false
set_option maxRecDepth 100000
namespace Go.Proofs.Ytkfccpabigikkaa
open Go Go.Hw
noncomputable def B30 : Code := match Try.f30.body with | some c => c | none => .skip
noncomputable def N30_r0_t : Ann := .xf (treeT Try.prog E Try.f30.ntmps (.one 0 (.one 1 (.one 2 (.one 3 (.one 4 (.fork 5 (.one 6 (.one 7 (.fork 8 (.fork 9 .done .done) .done))) (.fork 8 (.fork 5 (.one 6 (.one 7 (.fork 9 .done .done))) .done) .done))))))) (codeAt B30 [1, 1, 1, 1, 1, 1, 1, 0, 1, 0, 1, 0]))
theorem N30_r0_ok : annOk Try.prog Try.f30.ntmps N30_r0_t (codeAt B30 [1, 1, 1, 1, 1, 1, 1, 0, 1, 0, 1, 0]) := tree_sound hE hm (by kernel_rfl)
def N30_j4 (x0 x5 : Option Addr) (x10 : Sl) (x11 : Bool) (x13 : Int) (x14 : Option Addr) (h : Hp) (Kn : Hp → Prop) : Prop :=
 nn x0 fun a0 =>
 xL (cell h (a0.add 7)) fun s0 =>
 nn x14 fun a1 =>
 xI .u32 (cell h a1) fun n0 =>
 xI .u8 (cell h (a1.add 1)) fun n1 =>
 xI .u8 (cell h (a1.add 2)) fun n2 =>
 xI .u8 (cell h (a1.add 3)) fun n3 =>
 xI .u8 (cell h (a1.add 4)) fun n4 =>
 xI .u8 (cell h (a1.add 5)) fun n5 =>
 xI .u8 (cell h (a1.add 6)) fun n6 =>
 xI .i64 (cell h (a1.add 7)) fun n7 =>
 xI .i64 (cell h (a1.add 8)) fun n8 =>
 xI .i64 (cell h (a1.add 9)) fun n9 =>
 xB (cell h (a1.add 10)) fun b0 =>
 xI .u32 (cell h (a1.add 11)) fun n10 =>
 xL (cell h (a1.add 12)) fun s1 =>
 idx x13 s0.n <|
 nn s0.p fun a2 =>
 st h (a2.add (x13.toNat * 13)) (.int .u32 n0) fun h0 =>
 st h0 ((a2.add (x13.toNat * 13)).add 1) (.int .u8 n1) fun h1 =>
 st h1 ((a2.add (x13.toNat * 13)).add 2) (.int .u8 n2) fun h2 =>
 st h2 ((a2.add (x13.toNat * 13)).add 3) (.int .u8 n3) fun h3 =>
 st h3 ((a2.add (x13.toNat * 13)).add 4) (.int .u8 n4) fun h4 =>
 st h4 ((a2.add (x13.toNat * 13)).add 5) (.int .u8 n5) fun h5 =>
 st h5 ((a2.add (x13.toNat * 13)).add 6) (.int .u8 n6) fun h6 =>
 st h6 ((a2.add (x13.toNat * 13)).add 7) (.int .i64 n7) fun h7 =>
 st h7 ((a2.add (x13.toNat * 13)).add 8) (.int .i64 n8) fun h8 =>
 st h8 ((a2.add (x13.toNat * 13)).add 9) (.int .i64 n9) fun h9 =>
 st h9 ((a2.add (x13.toNat * 13)).add 10) (.bool b0) fun h10 =>
 st h10 ((a2.add (x13.toNat * 13)).add 11) (.int .u32 n10) fun h11 =>
 st h11 ((a2.add (x13.toNat * 13)).add 12) (.slice s1.p s1.n s1.c) fun h12 =>
 Kn h12
noncomputable def N30_j4_t : Xf := pieceT [(0, .c (.ptr)), (5, .c (.ptr)), (10, .c (.slice)), (11, .c (.bool)), (13, .c (.int .i64)), (14, .c (.ptr))] (codeAt B30 [1, 1, 1, 1, 1, 1, 1, 0, 1, 0, 1, 1, 1, 0, 1]) fun x h Q => N30_j4 x.1 x.2.1 x.2.2.1 x.2.2.2.1 x.2.2.2.2.1 x.2.2.2.2.2 h (fun h' => Q .normal (Sg.env [] ()) h')
theorem N30_j4_ok : Sound Try.prog Try.f30.ntmps N30_j4_t (codeAt B30 [1, 1, 1, 1, 1, 1, 1, 0, 1, 0, 1, 1, 1, 0, 1]) := by
 refine piece_sound (fun e => match e with | .normal => [] | _ => []) ?_
 intro x h Q hb
 refine den_sound hE hm _ (.ord [0, 1, 2, 3, 4, 5, 6, 7]) _ _ _ (trivial) ?_
 refine cast ?_ hb
 kernel_rfl
def N30_j3 (x0 x5 : Option Addr) (x10 : Sl) (x11 : Bool) (x13 : Int) (x14 : Option Addr) (h : Hp) (Kn : Sl → Hp → Prop) : Prop :=
 bif (decide (x13 ≥ 0)) then
 nn x0 fun a0 =>
 xL (cell h (a0.add 7)) fun s0 =>
 idx x13 s0.n <|
 nn s0.p fun a1 =>
 xB (cell h ((a1.add (x13.toNat * 13)).add 10)) fun b0 =>
 bif b0 then
 nn x5 fun a2 =>
 xI .u8 (cell h (a2.add 1)) fun n0 =>
 xI .u8 (cell h (a2.add 2)) fun n1 =>
 xI .u8 (cell h (a2.add 3)) fun n2 =>
 xI .u8 (cell h (a2.add 4)) fun n3 =>
 xI .u8 (cell h (a2.add 5)) fun n4 =>
 xI .u8 (cell h (a2.add 6)) fun n5 =>
 nn x0 fun a3 =>
 xL (cell h (a3.add 7)) fun s1 =>
 idx x13 s1.n <|
 nn s1.p fun a4 =>
 xL (cell h ((a4.add (x13.toNat * 13)).add 12)) fun s2 =>
 nw h (.cells ⟨[.int .u8 n0, .int .u8 n1, .int .u8 n2, .int .u8 n3, .int .u8 n4, .int .u8 n5, .int .i64 2048, .slice s2.p s2.n s2.c]⟩ 59) fun b1 h0 =>
 apK Try.prog 59 x10 (.slice (some (bk b1)) 1 1) h0 fun s3 h1 =>
 N30_j4 x0 x5 s3 x11 x13 x14 h1
 (fun h2 =>
 Kn s3 h2)
 else
 N30_j4 x0 x5 x10 x11 x13 x14 h
 (fun h3 =>
 Kn x10 h3)
 else
 bif x11 then
 C56 x0 h fun b2 h4 =>
 bif b2 then
 nn x14 fun a5 =>
 xI .u32 (cell h4 a5) fun n6 =>
 xI .u8 (cell h4 (a5.add 1)) fun n7 =>
 xI .u8 (cell h4 (a5.add 2)) fun n8 =>
 xI .u8 (cell h4 (a5.add 3)) fun n9 =>
 xI .u8 (cell h4 (a5.add 4)) fun n10 =>
 xI .u8 (cell h4 (a5.add 5)) fun n11 =>
 xI .u8 (cell h4 (a5.add 6)) fun n12 =>
 xI .i64 (cell h4 (a5.add 7)) fun n13 =>
 xI .i64 (cell h4 (a5.add 8)) fun n14 =>
 xI .i64 (cell h4 (a5.add 9)) fun n15 =>
 xB (cell h4 (a5.add 10)) fun b3 =>
 xI .u32 (cell h4 (a5.add 11)) fun n16 =>
 xL (cell h4 (a5.add 12)) fun s4 =>
 C58 x0 n6 n7 n8 n9 n10 n11 n12 n13 n14 n15 b3 n16 s4 h4 fun h5 =>
 Kn x10 h5
 else
 Kn x10 h4
 else
 Kn x10 h
noncomputable def N30_j3_t : Xf := pieceT [(0, .c (.ptr)), (5, .c (.ptr)), (10, .c (.slice)), (11, .c (.bool)), (13, .c (.int .i64)), (14, .c (.ptr))] (codeAt B30 [1, 1, 1, 1, 1, 1, 1, 0, 1, 0, 1, 1]) fun x h Q => N30_j3 x.1 x.2.1 x.2.2.1 x.2.2.2.1 x.2.2.2.2.1 x.2.2.2.2.2 h (fun o0 h' => Q .normal (Sg.env [(10, .c (.slice))] o0) h')
theorem N30_j3_ok : Sound Try.prog Try.f30.ntmps N30_j3_t (codeAt B30 [1, 1, 1, 1, 1, 1, 1, 0, 1, 0, 1, 1]) := by
 refine piece_sound (fun e => match e with | .normal => [10] | _ => []) ?_
 intro x h Q hb
 refine den_sound hE hm _ (.two .leaf (.two (.two (.two .leaf (.two (.ord [0, 1, 2, 3, 4, 5, 6, 7, 8, 9, 10, 11, 12, 13, 14]) .leaf)) (.xf N30_j4_t)) .leaf)) _ _ _ (⟨annOk_leaf, ⟨⟨⟨annOk_leaf, ⟨trivial, annOk_leaf⟩⟩, N30_j4_ok⟩, annOk_leaf⟩⟩) ?_
 refine cast ?_ hb
 kernel_rfl
def N30_j2 (x0 x5 : Option Addr) (x10 : Sl) (x11 x57 : Bool) (h : Hp) (Kn : Sl → Hp → Prop) : Prop :=
 bif x57 then
 nn x5 fun a0 =>
 xI .u32 (cell h (a0.add 7)) fun n0 =>
 C53 x0 n0 h fun n1 h0 =>
 nn x5 fun a1 =>
 xI .u32 (cell h0 (a1.add 7)) fun n2 =>
 nn x5 fun a2 =>
 xI .u8 (cell h0 (a2.add 1)) fun n3 =>
 xI .u8 (cell h0 (a2.add 2)) fun n4 =>
 xI .u8 (cell h0 (a2.add 3)) fun n5 =>
 xI .u8 (cell h0 (a2.add 4)) fun n6 =>
 xI .u8 (cell h0 (a2.add 5)) fun n7 =>
 xI .u8 (cell h0 (a2.add 6)) fun n8 =>
 alt (
 C57 x0 600 h0 fun n9 h1 =>
 both (xI .u8 (cell h1 (a2.add 1)) fun n10 => xI .u8 (cell h1 (a2.add 2)) fun n11 => xI .u8 (cell h1 (a2.add 3)) fun n12 => xI .u8 (cell h1 (a2.add 4)) fun n13 => xI .u8 (cell h1 (a2.add 5)) fun n14 => xI .u8 (cell h1 (a2.add 6)) fun n15 => Only (.agg ⟨[.int .u8 n3, .int .u8 n4, .int .u8 n5, .int .u8 n6, .int .u8 n7, .int .u8 n8]⟩) h1 (.agg ⟨[.int .u8 n10, .int .u8 n11, .int .u8 n12, .int .u8 n13, .int .u8 n14, .int .u8 n15]⟩) h1) <|
 both (xI .u32 (cell h1 (a1.add 7)) fun n16 => Only (.int .u32 n2) h1 (.int .u32 n16) h1) <|
 nw h1 (.cells ⟨[.int .u32 0, .int .u8 0, .int .u8 0, .int .u8 0, .int .u8 0, .int .u8 0, .int .u8 0, .int .i64 0, .int .i64 0, .int .i64 0, .bool false, .int .u32 0, .slice none 0 0]⟩ 105) fun b0 h2 =>
 both (xI .u8 (cell h2 (a2.add 1)) fun n17 => xI .u8 (cell h2 (a2.add 2)) fun n18 => xI .u8 (cell h2 (a2.add 3)) fun n19 => xI .u8 (cell h2 (a2.add 4)) fun n20 => xI .u8 (cell h2 (a2.add 5)) fun n21 => xI .u8 (cell h2 (a2.add 6)) fun n22 => Only (.agg ⟨[.int .u8 n3, .int .u8 n4, .int .u8 n5, .int .u8 n6, .int .u8 n7, .int .u8 n8]⟩) h2 (.agg ⟨[.int .u8 n17, .int .u8 n18, .int .u8 n19, .int .u8 n20, .int .u8 n21, .int .u8 n22]⟩) h2) <|
 both (xI .u32 (cell h2 (a1.add 7)) fun n23 => Only (.int .u32 n2) h2 (.int .u32 n23) h2) <|
 st h2 (bk b0) (.int .u32 n2) fun h3 =>
 st h3 ((bk b0).add 1) (.int .u8 n3) fun h4 =>
 st h4 ((bk b0).add 2) (.int .u8 n4) fun h5 =>
 st h5 ((bk b0).add 3) (.int .u8 n5) fun h6 =>
 st h6 ((bk b0).add 4) (.int .u8 n6) fun h7 =>
 st h7 ((bk b0).add 5) (.int .u8 n7) fun h8 =>
 st h8 ((bk b0).add 6) (.int .u8 n8) fun h9 =>
 st h9 ((bk b0).add 7) (.int .i64 2) fun h10 =>
 st h10 ((bk b0).add 8) (.int .i64 n9) fun h11 =>
 st h11 ((bk b0).add 9) (.int .i64 0) fun h12 =>
 st h12 ((bk b0).add 10) (.bool false) fun h13 =>
 st h13 ((bk b0).add 11) (.int .u32 0) fun h14 =>
 st h14 ((bk b0).add 12) (.slice none 0 0) fun h15 =>
 N30_j3 x0 x5 x10 x11 n1 (some (bk b0)) h15
 (fun s0 h16 =>
 Kn s0 h16)) <|
 nw h0 (.cells ⟨[.int .u32 0, .int .u8 0, .int .u8 0, .int .u8 0, .int .u8 0, .int .u8 0, .int .u8 0, .int .i64 0, .int .i64 0, .int .i64 0, .bool false, .int .u32 0, .slice none 0 0]⟩ 105) fun b1 h17 =>
 both (xI .u8 (cell h17 (a2.add 1)) fun n24 => xI .u8 (cell h17 (a2.add 2)) fun n25 => xI .u8 (cell h17 (a2.add 3)) fun n26 => xI .u8 (cell h17 (a2.add 4)) fun n27 => xI .u8 (cell h17 (a2.add 5)) fun n28 => xI .u8 (cell h17 (a2.add 6)) fun n29 => Only (.agg ⟨[.int .u8 n3, .int .u8 n4, .int .u8 n5, .int .u8 n6, .int .u8 n7, .int .u8 n8]⟩) h17 (.agg ⟨[.int .u8 n24, .int .u8 n25, .int .u8 n26, .int .u8 n27, .int .u8 n28, .int .u8 n29]⟩) h17) <|
 both (xI .u32 (cell h17 (a1.add 7)) fun n30 => Only (.int .u32 n2) h17 (.int .u32 n30) h17) <|
 C57 x0 600 h17 fun n31 h18 =>
 both (xI .u8 (cell h18 (a2.add 1)) fun n32 => xI .u8 (cell h18 (a2.add 2)) fun n33 => xI .u8 (cell h18 (a2.add 3)) fun n34 => xI .u8 (cell h18 (a2.add 4)) fun n35 => xI .u8 (cell h18 (a2.add 5)) fun n36 => xI .u8 (cell h18 (a2.add 6)) fun n37 => Only (.agg ⟨[.int .u8 n3, .int .u8 n4, .int .u8 n5, .int .u8 n6, .int .u8 n7, .int .u8 n8]⟩) h18 (.agg ⟨[.int .u8 n32, .int .u8 n33, .int .u8 n34, .int .u8 n35, .int .u8 n36, .int .u8 n37]⟩) h18) <|
 both (xI .u32 (cell h18 (a1.add 7)) fun n38 => Only (.int .u32 n2) h18 (.int .u32 n38) h18) <|
 st h18 (bk b1) (.int .u32 n2) fun h19 =>
 st h19 ((bk b1).add 1) (.int .u8 n3) fun h20 =>
 st h20 ((bk b1).add 2) (.int .u8 n4) fun h21 =>
 st h21 ((bk b1).add 3) (.int .u8 n5) fun h22 =>
 st h22 ((bk b1).add 4) (.int .u8 n6) fun h23 =>
 st h23 ((bk b1).add 5) (.int .u8 n7) fun h24 =>
 st h24 ((bk b1).add 6) (.int .u8 n8) fun h25 =>
 st h25 ((bk b1).add 7) (.int .i64 2) fun h26 =>
 st h26 ((bk b1).add 8) (.int .i64 n31) fun h27 =>
 st h27 ((bk b1).add 9) (.int .i64 0) fun h28 =>
 st h28 ((bk b1).add 10) (.bool false) fun h29 =>
 st h29 ((bk b1).add 11) (.int .u32 0) fun h30 =>
 st h30 ((bk b1).add 12) (.slice none 0 0) fun h31 =>
 N30_j3 x0 x5 x10 x11 n1 (some (bk b1)) h31
 (fun s1 h32 =>
 Kn s1 h32)
 else
 Kn x10 h
noncomputable def N30_j2_t : Xf := pieceT [(0, .c (.ptr)), (5, .c (.ptr)), (10, .c (.slice)), (11, .c (.bool)), (57, .c (.bool))] (codeAt B30 [1, 1, 1, 1, 1, 1, 1, 0, 1]) fun x h Q => N30_j2 x.1 x.2.1 x.2.2.1 x.2.2.2.1 x.2.2.2.2 h (fun o0 h' => Q .normal (Sg.env [(10, .c (.slice))] o0) h')
theorem N30_j2_ok : Sound Try.prog Try.f30.ntmps N30_j2_t (codeAt B30 [1, 1, 1, 1, 1, 1, 1, 0, 1]) := by
 refine piece_sound (fun e => match e with | .normal => [10] | _ => []) ?_
 intro x h Q hb
 refine den_sound hE hm _ (.two (.two .leaf (.two N30_r0_t (.xf N30_j3_t))) .leaf) _ _ _ (⟨⟨annOk_leaf, ⟨N30_r0_ok, N30_j3_ok⟩⟩, annOk_leaf⟩) ?_
 refine cast ?_ hb
 kernel_rfl
def N30_j5 (x0 x5 : Option Addr) (x10 : Sl) (x11 : Bool) (h : Hp) (Kr : Sl → Hp → Prop) : Prop :=
 bif x11 then
 nn x0 fun a0 =>
 xI .u8 (cell h a0) fun n0 =>
 xI .u8 (cell h (a0.add 1)) fun n1 =>
 xI .u8 (cell h (a0.add 2)) fun n2 =>
 xI .u8 (cell h (a0.add 3)) fun n3 =>
 xI .u8 (cell h (a0.add 4)) fun n4 =>
 xI .u8 (cell h (a0.add 5)) fun n5 =>
 nn x5 fun a1 =>
 xI .i64 (cell h a1) fun n6 =>
 xI .u8 (cell h (a1.add 1)) fun n7 =>
 xI .u8 (cell h (a1.add 2)) fun n8 =>
 xI .u8 (cell h (a1.add 3)) fun n9 =>
 xI .u8 (cell h (a1.add 4)) fun n10 =>
 xI .u8 (cell h (a1.add 5)) fun n11 =>
 xI .u8 (cell h (a1.add 6)) fun n12 =>
 xI .u32 (cell h (a1.add 7)) fun n13 =>
 xI .u8 (cell h (a1.add 8)) fun n14 =>
 xI .u8 (cell h (a1.add 9)) fun n15 =>
 xI .u8 (cell h (a1.add 10)) fun n16 =>
 xI .u8 (cell h (a1.add 11)) fun n17 =>
 xI .u8 (cell h (a1.add 12)) fun n18 =>
 xI .u8 (cell h (a1.add 13)) fun n19 =>
 xI .u32 (cell h (a1.add 14)) fun n20 =>
 C23 n0 n1 n2 n3 n4 n5 n6 n7 n8 n9 n10 n11 n12 n13 n14 n15 n16 n17 n18 n19 n20 h fun n21 n22 n23 n24 n25 n26 n27 n28 n29 n30 n31 n32 n33 n34 n35 h0 =>
 C63 n21 n22 n23 n24 n25 n26 n27 n28 n29 n30 n31 n32 n33 n34 n35 h0 fun s0 n36 h1 =>
 nn x5 fun a2 =>
 xI .u8 (cell h1 (a2.add 1)) fun n37 =>
 xI .u8 (cell h1 (a2.add 2)) fun n38 =>
 xI .u8 (cell h1 (a2.add 3)) fun n39 =>
 xI .u8 (cell h1 (a2.add 4)) fun n40 =>
 xI .u8 (cell h1 (a2.add 5)) fun n41 =>
 xI .u8 (cell h1 (a2.add 6)) fun n42 =>
 nw h1 (.cells ⟨[.int .u8 n37, .int .u8 n38, .int .u8 n39, .int .u8 n40, .int .u8 n41, .int .u8 n42, .int .i64 2054, .slice s0.p s0.n s0.c]⟩ 59) fun b0 h2 =>
 apK Try.prog 59 x10 (.slice (some (bk b0)) 1 1) h2 fun s1 h3 =>
 Kr s1 h3
 else
 Kr x10 h
noncomputable def N30_j5_t : Xf := pieceT [(0, .c (.ptr)), (5, .c (.ptr)), (10, .c (.slice)), (11, .c (.bool))] (codeAt B30 [1, 1, 1, 1, 1, 1, 1, 1]) fun x h Q => N30_j5 x.1 x.2.1 x.2.2.1 x.2.2.2 h (fun o0 h' => Q .ret (Sg.env [(8, .c (.slice))] o0) h')
theorem N30_j5_ok : Sound Try.prog Try.f30.ntmps N30_j5_t (codeAt B30 [1, 1, 1, 1, 1, 1, 1, 1]) := by
 refine piece_sound (fun e => match e with | .ret => [8] | _ => []) ?_
 intro x h Q hb
 refine den_sound hE hm _ (.two (.two .leaf (.two (.two (.ord [0, 1, 2, 3, 4, 5, 6, 7, 8, 9, 10, 11]) .leaf) .leaf)) .leaf) _ _ _ (⟨⟨annOk_leaf, ⟨⟨trivial, annOk_leaf⟩, annOk_leaf⟩⟩, annOk_leaf⟩) ?_
 refine cast ?_ hb
 kernel_rfl
def N30_j1 (x0 : Option Addr) (x2 : Int) (x5 : Option Addr) (x10 : Sl) (x11 : Bool) (h : Hp) (Kr : Sl → Hp → Prop) : Prop :=
 nn x5 fun a0 =>
 xI .u32 (cell h (a0.add 7)) fun n0 =>
 C62 n0 h fun b0 h0 =>
 bif b0 then
 nn x5 fun a1 =>
 xI .u32 (cell h0 (a1.add 7)) fun n1 =>
 N30_j2 x0 x5 x10 x11 (n1 != x2) h0
 (fun s0 h1 =>
 N30_j5 x0 x5 s0 x11 h1
 (fun s1 h2 =>
 Kr s1 h2))
 else
 N30_j2 x0 x5 x10 x11 false h0
 (fun s2 h3 =>
 N30_j5 x0 x5 s2 x11 h3
 (fun s3 h4 =>
 Kr s3 h4))
noncomputable def N30_j1_t : Xf := pieceT [(0, .c (.ptr)), (2, .c (.int .u32)), (5, .c (.ptr)), (10, .c (.slice)), (11, .c (.bool))] (codeAt B30 [1, 1, 1, 1, 1, 1]) fun x h Q => N30_j1 x.1 x.2.1 x.2.2.1 x.2.2.2.1 x.2.2.2.2 h (fun o0 h' => Q .ret (Sg.env [(8, .c (.slice))] o0) h')
theorem N30_j1_ok : Sound Try.prog Try.f30.ntmps N30_j1_t (codeAt B30 [1, 1, 1, 1, 1, 1]) := by
 refine piece_sound (fun e => match e with | .ret => [8] | _ => []) ?_
 intro x h Q hb
 refine den_sound hE hm _ (.two .leaf (.two (.two .leaf (.xf N30_j2_t)) (.xf N30_j5_t))) _ _ _ (⟨annOk_leaf, ⟨⟨annOk_leaf, N30_j2_ok⟩, N30_j5_ok⟩⟩) ?_
 refine cast ?_ hb
 kernel_rfl
def N30_j0 (x0 : Option Addr) (x2 : Int) (x5 : Option Addr) (h : Hp) (Kr : Sl → Hp → Prop) : Prop :=
 bif (x2 != 0) then
 nn x5 fun a0 =>
 xI .i64 (cell h a0) fun n0 =>
 bif (n0 == 1) then
 nn x5 fun a1 =>
 xI .u32 (cell h (a1.add 14)) fun n1 =>
 N30_j1 x0 x2 x5 ⟨none, 0, 0⟩ (n1 == x2) h
 (fun s0 h0 =>
 Kr s0 h0)
 else
 N30_j1 x0 x2 x5 ⟨none, 0, 0⟩ false h
 (fun s1 h1 =>
 Kr s1 h1)
 else
 N30_j1 x0 x2 x5 ⟨none, 0, 0⟩ false h
 (fun s2 h2 =>
 Kr s2 h2)
noncomputable def N30_j0_t : Xf := pieceT [(0, .c (.ptr)), (2, .c (.int .u32)), (5, .c (.ptr))] (codeAt B30 [1, 1, 1, 1]) fun x h Q => N30_j0 x.1 x.2.1 x.2.2 h (fun o0 h' => Q .ret (Sg.env [(8, .c (.slice))] o0) h')
theorem N30_j0_ok : Sound Try.prog Try.f30.ntmps N30_j0_t (codeAt B30 [1, 1, 1, 1]) := by
 refine piece_sound (fun e => match e with | .ret => [8] | _ => []) ?_
 intro x h Q hb
 refine den_sound hE hm _ (.two .leaf (.two .leaf (.xf N30_j1_t))) _ _ _ (⟨annOk_leaf, ⟨annOk_leaf, N30_j1_ok⟩⟩) ?_
 refine cast ?_ hb
 kernel_rfl
def N30 (x0 : Option Addr) (x1_0 x1_1 x1_2 x1_3 x1_4 x1_5 x1_6 x1_7 x1_8 x1_9 x1_10 x1_11 x1_12 x1_13 x1_14 x2 x3 : Int) (h : Hp) (K : Sl → Hp → Prop) : Prop :=
 nw h (.cells ⟨[.int .i64 x1_0, .int .u8 x1_1, .int .u8 x1_2, .int .u8 x1_3, .int .u8 x1_4, .int .u8 x1_5, .int .u8 x1_6, .int .u32 x1_7, .int .u8 x1_8, .int .u8 x1_9, .int .u8 x1_10, .int .u8 x1_11, .int .u8 x1_12, .int .u8 x1_13, .int .u32 x1_14]⟩ 42) fun b0 h0 =>
 C52 x0 x3 h0 fun h1 =>
 xI .u8 (cell h1 ((bk b0).add 1)) fun n0 =>
 xI .u8 (cell h1 ((bk b0).add 2)) fun n1 =>
 xI .u8 (cell h1 ((bk b0).add 3)) fun n2 =>
 xI .u8 (cell h1 ((bk b0).add 4)) fun n3 =>
 xI .u8 (cell h1 ((bk b0).add 5)) fun n4 =>
 xI .u8 (cell h1 ((bk b0).add 6)) fun n5 =>
 C16 n0 n1 n2 n3 n4 n5 h1 fun b1 h2 =>
 xI .i64 (cell h2 (bk b0)) fun n6 =>
 bif (n6 != 1) then
 xI .i64 (cell h2 (bk b0)) fun n7 =>
 bif (n7 != 2) then
 K ⟨none, 0, 0⟩ h2
 else
 bif b1 then
 K ⟨none, 0, 0⟩ h2
 else
 N30_j0 x0 x2 (some (bk b0)) h2
 (fun s0 h3 =>
 K s0 h3)
 else
 bif b1 then
 K ⟨none, 0, 0⟩ h2
 else
 N30_j0 x0 x2 (some (bk b0)) h2
 (fun s1 h4 =>
 K s1 h4)
theorem S30 {x0 : Option Addr} {x1_0 x1_1 x1_2 x1_3 x1_4 x1_5 x1_6 x1_7 x1_8 x1_9 x1_10 x1_11 x1_12 x1_13 x1_14 x2 x3 : Int} {h : Hp} {K : Sl → Hp → Prop} (hn : N30 x0 x1_0 x1_1 x1_2 x1_3 x1_4 x1_5 x1_6 x1_7 x1_8 x1_9 x1_10 x1_11 x1_12 x1_13 x1_14 x2 x3 h K) : C30 x0 x1_0 x1_1 x1_2 x1_3 x1_4 x1_5 x1_6 x1_7 x1_8 x1_9 x1_10 x1_11 x1_12 x1_13 x1_14 x2 x3 h K := by
 refine calls_of_D Try.func30 (c := B30) rfl (by kernel_rfl) ?_
 refine den_sound hE hm _ (.two .leaf (.two .leaf (.two .leaf (.two .leaf (.xf N30_j0_t))))) _ _ _ (⟨annOk_leaf, ⟨annOk_leaf, ⟨annOk_leaf, ⟨annOk_leaf, N30_j0_ok⟩⟩⟩⟩) ?_
 refine cast ?_ hn
 kernel_rfl
end Go.Proofs.Ytkfccpabigikkaa

set_option linter.unusedVariables false
set_option maxRecDepth 100000
namespace Go.Proofs.Ytkfccpabigikkaa
open Go Go.Hw
noncomputable def B31 : Code := match Try.f31.body with | some c => c | none => .skip
def N31_l0_b (x0 : Option Addr) (Φ : Sl → Sl → Int → Hp → Prop) (x5 x6 : Sl) (x7 : Int) (h : Hp) (K0 : Sl → Sl → Hp → Prop) : Prop :=
 nn x0 fun a0 =>
 xL (cell h (a0.add 7)) fun s0 =>
 bif (decide (x7 < ((s0.n : Nat) : Int))) then
 nn x0 fun a1 =>
 xL (cell h (a1.add 7)) fun s1 =>
 idx x7 s1.n <|
 nn s1.p fun a2 =>
 xI .u32 (cell h (a2.add (x7.toNat * 13))) fun n0 =>
 xI .u8 (cell h ((a2.add (x7.toNat * 13)).add 1)) fun n1 =>
 xI .u8 (cell h ((a2.add (x7.toNat * 13)).add 2)) fun n2 =>
 xI .u8 (cell h ((a2.add (x7.toNat * 13)).add 3)) fun n3 =>
 xI .u8 (cell h ((a2.add (x7.toNat * 13)).add 4)) fun n4 =>
 xI .u8 (cell h ((a2.add (x7.toNat * 13)).add 5)) fun n5 =>
 xI .u8 (cell h ((a2.add (x7.toNat * 13)).add 6)) fun n6 =>
 xI .i64 (cell h ((a2.add (x7.toNat * 13)).add 7)) fun n7 =>
 xI .i64 (cell h ((a2.add (x7.toNat * 13)).add 8)) fun n8 =>
 xI .i64 (cell h ((a2.add (x7.toNat * 13)).add 9)) fun n9 =>
 xB (cell h ((a2.add (x7.toNat * 13)).add 10)) fun b0 =>
 xI .u32 (cell h ((a2.add (x7.toNat * 13)).add 11)) fun n10 =>
 xL (cell h ((a2.add (x7.toNat * 13)).add 12)) fun s2 =>
 nw h (.cells ⟨[.int .u32 0, .int .u8 0, .int .u8 0, .int .u8 0, .int .u8 0, .int .u8 0, .int .u8 0, .int .i64 0, .int .i64 0, .int .i64 0, .bool false, .int .u32 0, .slice none 0 0]⟩ 105) fun b1 h0 =>
 st h0 (bk b1) (.int .u32 n0) fun h1 =>
 st h1 ((bk b1).add 1) (.int .u8 n1) fun h2 =>
 st h2 ((bk b1).add 2) (.int .u8 n2) fun h3 =>
 st h3 ((bk b1).add 3) (.int .u8 n3) fun h4 =>
 st h4 ((bk b1).add 4) (.int .u8 n4) fun h5 =>
 st h5 ((bk b1).add 5) (.int .u8 n5) fun h6 =>
 st h6 ((bk b1).add 6) (.int .u8 n6) fun h7 =>
 st h7 ((bk b1).add 7) (.int .i64 n7) fun h8 =>
 st h8 ((bk b1).add 8) (.int .i64 n8) fun h9 =>
 st h9 ((bk b1).add 9) (.int .i64 n9) fun h10 =>
 st h10 ((bk b1).add 10) (.bool b0) fun h11 =>
 st h11 ((bk b1).add 11) (.int .u32 n10) fun h12 =>
 st h12 ((bk b1).add 12) (.slice s2.p s2.n s2.c) fun h13 =>
 xI .i64 (cell h13 ((bk b1).add 8)) fun n11 =>
 nn x0 fun a3 =>
 xI .i64 (cell h13 (a3.add 8)) fun n12 =>
 bif (decide (n11 > n12)) then
 xI .u32 (cell h13 (bk b1)) fun n13 =>
 xI .u8 (cell h13 ((bk b1).add 1)) fun n14 =>
 xI .u8 (cell h13 ((bk b1).add 2)) fun n15 =>
 xI .u8 (cell h13 ((bk b1).add 3)) fun n16 =>
 xI .u8 (cell h13 ((bk b1).add 4)) fun n17 =>
 xI .u8 (cell h13 ((bk b1).add 5)) fun n18 =>
 xI .u8 (cell h13 ((bk b1).add 6)) fun n19 =>
 xI .i64 (cell h13 ((bk b1).add 7)) fun n20 =>
 xI .i64 (cell h13 ((bk b1).add 8)) fun n21 =>
 xI .i64 (cell h13 ((bk b1).add 9)) fun n22 =>
 xB (cell h13 ((bk b1).add 10)) fun b2 =>
 xI .u32 (cell h13 ((bk b1).add 11)) fun n23 =>
 xL (cell h13 ((bk b1).add 12)) fun s3 =>
 nw h13 (.cells ⟨[.int .u32 n13, .int .u8 n14, .int .u8 n15, .int .u8 n16, .int .u8 n17, .int .u8 n18, .int .u8 n19, .int .i64 n20, .int .i64 n21, .int .i64 n22, .bool b2, .int .u32 n23, .slice s3.p s3.n s3.c]⟩ 105) fun b3 h14 =>
 apK Try.prog 105 x6 (.slice (some (bk b3)) 1 1) h14 fun s4 h15 =>
 Φ x5 s4 (IntKind.wrap .i64 (x7 + 1)) h15
 else
 xI .i64 (cell h13 ((bk b1).add 7)) fun n24 =>
 bif (n24 == 2) then
 Φ x5 x6 (IntKind.wrap .i64 (x7 + 1)) h13
 else
 xI .i64 (cell h13 ((bk b1).add 9)) fun n25 =>
 bif (decide (n25 ≥ 3)) then
 Φ x5 x6 (IntKind.wrap .i64 (x7 + 1)) h13
 else
 xI .i64 (cell h13 ((bk b1).add 9)) fun n26 =>
 st h13 ((bk b1).add 9) (.int .i64 (IntKind.wrap .i64 (n26 + 1))) fun h16 =>
 C57 x0 10 h16 fun n27 h17 =>
 st h17 ((bk b1).add 8) (.int .i64 n27) fun h18 =>
 xI .u32 (cell h18 (bk b1)) fun n28 =>
 xI .u8 (cell h18 ((bk b1).add 1)) fun n29 =>
 xI .u8 (cell h18 ((bk b1).add 2)) fun n30 =>
 xI .u8 (cell h18 ((bk b1).add 3)) fun n31 =>
 xI .u8 (cell h18 ((bk b1).add 4)) fun n32 =>
 xI .u8 (cell h18 ((bk b1).add 5)) fun n33 =>
 xI .u8 (cell h18 ((bk b1).add 6)) fun n34 =>
 xI .i64 (cell h18 ((bk b1).add 7)) fun n35 =>
 xI .i64 (cell h18 ((bk b1).add 8)) fun n36 =>
 xI .i64 (cell h18 ((bk b1).add 9)) fun n37 =>
 xB (cell h18 ((bk b1).add 10)) fun b4 =>
 xI .u32 (cell h18 ((bk b1).add 11)) fun n38 =>
 xL (cell h18 ((bk b1).add 12)) fun s5 =>
 nw h18 (.cells ⟨[.int .u32 n28, .int .u8 n29, .int .u8 n30, .int .u8 n31, .int .u8 n32, .int .u8 n33, .int .u8 n34, .int .i64 n35, .int .i64 n36, .int .i64 n37, .bool b4, .int .u32 n38, .slice s5.p s5.n s5.c]⟩ 105) fun b5 h19 =>
 apK Try.prog 105 x6 (.slice (some (bk b5)) 1 1) h19 fun s6 h20 =>
 xI .u32 (cell h20 (bk b1)) fun n39 =>
 xI .u8 (cell h20 ((bk b1).add 1)) fun n40 =>
 xI .u8 (cell h20 ((bk b1).add 2)) fun n41 =>
 xI .u8 (cell h20 ((bk b1).add 3)) fun n42 =>
 xI .u8 (cell h20 ((bk b1).add 4)) fun n43 =>
 xI .u8 (cell h20 ((bk b1).add 5)) fun n44 =>
 xI .u8 (cell h20 ((bk b1).add 6)) fun n45 =>
 xI .i64 (cell h20 ((bk b1).add 7)) fun n46 =>
 xI .i64 (cell h20 ((bk b1).add 8)) fun n47 =>
 xI .i64 (cell h20 ((bk b1).add 9)) fun n48 =>
 xB (cell h20 ((bk b1).add 10)) fun b6 =>
 xI .u32 (cell h20 ((bk b1).add 11)) fun n49 =>
 xL (cell h20 ((bk b1).add 12)) fun s7 =>
 C59 x0 n39 n40 n41 n42 n43 n44 n45 n46 n47 n48 b6 n49 s7 h20 fun n50 n51 n52 n53 n54 n55 n56 s8 h21 =>
 nw h21 (.cells ⟨[.int .u8 n50, .int .u8 n51, .int .u8 n52, .int .u8 n53, .int .u8 n54, .int .u8 n55, .int .i64 n56, .slice s8.p s8.n s8.c]⟩ 59) fun b7 h22 =>
 apK Try.prog 59 x5 (.slice (some (bk b7)) 1 1) h22 fun s9 h23 =>
 Φ s9 s6 (IntKind.wrap .i64 (x7 + 1)) h23
 else
 K0 x5 x6 h
def N31_l0_B (x0 : Option Addr) (K0 : Sl → Sl → Hp → Prop) (s : Sg.T [(5, .c (.slice)), (6, .c (.slice)), (7, .c (.int .i64))]) (h : Hp) (Φ : Sg.T [(5, .c (.slice)), (6, .c (.slice)), (7, .c (.int .i64))] → Hp → Prop) : Prop :=
 N31_l0_b x0 (fun x5 x6 x7 h => Φ (x5, x6, x7) h) s.1 s.2.1 s.2.2 h K0
def N31_l0 (x0 : Option Addr) (x5 x6 : Sl) (x7 : Int) (h : Hp) (K0 : Sl → Sl → Hp → Prop) : Prop :=
 loopP (N31_l0_B x0 K0) (x5, x6, x7) h
noncomputable def N31_l0_t : Xf := loopT [(0, .c (.ptr))] [(5, .c (.slice)), (6, .c (.slice)), (7, .c (.int .i64))] (codeAt B31 [1, 1, 1, 1, 0, 1, 0, 0]) fun F Q => N31_l0_B F (fun o0 o1 h' => Q (.exit 0) (Sg.env [(5, .c (.slice)), (6, .c (.slice))] (o0, o1)) h')
theorem N31_l0_ok : Sound Try.prog Try.f31.ntmps N31_l0_t (codeAt B31 [1, 1, 1, 1, 0, 1, 0]) := by
 refine loop_sound (fun e => match e with | .exit 0 => [5, 6] | _ => []) (by kernel_rfl) ?_
 intro F Q s h Φ hb
 refine den_sound hE hm _ (.two .leaf (.two (.one (.two .leaf (.two (.two (.ord [0, 1, 2, 3, 4, 5, 6, 7]) .leaf) .leaf))) .leaf)) _ _ _ (⟨annOk_leaf, ⟨⟨annOk_leaf, ⟨⟨trivial, annOk_leaf⟩, annOk_leaf⟩⟩, annOk_leaf⟩⟩) ?_
 refine cast ?_ hb
 kernel_rfl
def N31 (x0 : Option Addr) (x1 : Int) (h : Hp) (K : Sl → Hp → Prop) : Prop :=
 C52 x0 x1 h fun h0 =>
 N31_l0 x0 ⟨none, 0, 0⟩ ⟨none, 0, 0⟩ 0 h0
 (fun s0 s1 h1 =>
 nn x0 fun a0 =>
 st h1 (a0.add 7) (.slice s1.p s1.n s1.c) fun h2 =>
 K s0 h2)
theorem S31 {x0 : Option Addr} {x1 : Int} {h : Hp} {K : Sl → Hp → Prop} (hn : N31 x0 x1 h K) : C31 x0 x1 h K := by
 refine calls_of_D Try.func31 (c := B31) rfl (by kernel_rfl) ?_
 refine den_sound hE hm _ (.two .leaf (.two .leaf (.two .leaf (.two .leaf (.two (.two .leaf (.one (.xf N31_l0_t))) .leaf))))) _ _ _ (⟨annOk_leaf, ⟨annOk_leaf, ⟨annOk_leaf, ⟨annOk_leaf, ⟨⟨annOk_leaf, N31_l0_ok⟩, annOk_leaf⟩⟩⟩⟩⟩) ?_
 refine cast ?_ hn
 kernel_rfl
end Go.Proofs.Ytkfccpabigikkaa
