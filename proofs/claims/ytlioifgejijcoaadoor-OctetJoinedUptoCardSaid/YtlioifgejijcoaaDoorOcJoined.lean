/-
  OctetJoined: for every row of bytes and every row of cuts (of bulk at most 1048576), the law's function slipwaylaw01.OctetJoined returns true and leaves all that was there as it was.
-/
import Derived.Test.YtlioifgejijcoaaDoorPf
set_option linter.unusedSimpArgs false
set_option linter.unusedVariables false
namespace Go.Proofs.YtlioifgejijcoaaDoor
open Go Go.Hw
open Go.ChangeShapes Go.WideShapes Go.ChangeAt Go.RowKit

/-- parts that were cut, in a row of their own -/
def Cut (h1 h : Hp) (q : Sl) (ts : List Sl) (ps : List (List UInt8)) : Prop :=
  Sat ([] ++ [Hw.was h1, Hw.own 24 1 q (ts.map Sl.v)]) h ∧ ts.length = ps.length ∧ ∀ (i : Nat) t l, ts[i]? = some t → ps[i]? = some l → RdB h1 t l
theorem Cut.rdp {h1 h : Hp} {q : Sl} {ts : List Sl} {ps : List (List UInt8)} (c : Cut h1 h q ts ps) : RdP h q ts ps := by
  obtain ⟨hs, hl, he⟩ := c
  have ho := hs.own 1 rfl
  refine ⟨?_, hl, ho.rdc, fun i t l h1 h2 => (he i t l h1 h2).ext (hs.was 0 rfl)⟩
  have := ho.1; simp at this; omega
/-- one more -/
theorem Cut.push {h1 h : Hp} {q t : Sl} {l : List UInt8} {ts : List Sl} {ps : List (List UInt8)} {F : Sl → Hp → Prop} (c : Cut h1 h q ts ps) (hn : ps.length ≤ 1048577) (hr : RdB h1 t l) (hF : ∀ q' h', Cut h1 h' q' (ts ++ [t]) (ps ++ [l]) → F q' h') :
    nw h (.cells ⟨[t.v]⟩ 24) fun b0 h0 => apK Tryd.prog 24 q (.slice (some (bk b0)) 1 1) h0 F := by
  obtain ⟨hs, hl, he⟩ := c
  have hq : q.n = ps.length := by have := (hs.own 1 rfl).1; simp at this; omega
  refine hs.push 1 rfl (k := 1) yl_a yl_z rfl (by intro v hv; simp at hv; subst hv; rfl) (by rw [yl_b]; omega) ?_
  intro q' h' hs' _
  refine hF q' h' ⟨?_, by simp [hl], ?_⟩
  · have : Sat ([] ++ [Hw.was h1, Hw.own 24 1 q' (ts.map Sl.v ++ [t.v])]) h' := hs'
    rw [List.map_append]; exact this
  · intro i u m hi hm
    by_cases hlt : i < ts.length
    · rw [List.getElem?_append_left hlt] at hi
      rw [List.getElem?_append_left (by omega)] at hm
      exact he i u m hi hm
    · rw [List.getElem?_append_right (by omega)] at hi
      rw [List.getElem?_append_right (by omega)] at hm
      have h0 : i - ts.length = 0 := by have := (List.getElem?_eq_some_iff.1 hi).1; simpa using this
      rw [h0] at hi
      rw [show i - ps.length = 0 by omega] at hm
      cases hi; cases hm; exact hr

theorem octetJoined_walk {s c : Sl} {l : List UInt8} {cs : List Int} {h : Hp} (G : Glob h) (H : RdB h s l) (hI : Ints h c cs) (hl : l.length ≤ 1048576) (hcl : cs.length ≤ 1048576) (hcs : ∀ n ∈ cs, -9223372036854775808 ≤ n ∧ n ≤ 9223372036854775807) : C7 s c h fun v h' => v = true ∧ Ext none' h h' := by
  apply S7; unfold N7 N7_l0
  refine c_live G fun h1 x1 => ?_
  have H1 := H.ext x1
  have I1 := hI.ext x1
  have hn := H.n
  have hc := H.c
  have cn := hI.1
  refine loopP_inv (fun (x : Sl × Int × Int) hc => ∃ (i k : Nat) (ts : List Sl) (ps : List (List UInt8)), x.2.2 = i ∧ i ≤ cs.length ∧ x.2.1 = k ∧ k ≤ l.length ∧ Cut h1 hc x.1 ts ps ∧ ps.length = i ∧ ps.flatten = l.take k) (fun x _ => cs.length - x.2.2.toNat) ?_
    ⟨0, 0, [], [], rfl, Nat.zero_le _, rfl, Nat.zero_le _, ⟨(Sat.start (h := h1)).addNil 24 1, rfl, by intro i t l h; simp at h⟩, rfl, by simp⟩
  rintro ⟨q, y, x⟩ hq ⟨i, k, ts, ps, hx, hi, hy, hk, hcut, hpl, hfl⟩
  simp only at hx hy
  subst hx; subst hy
  unfold N7_l0_B N7_l0_b
  dsimp only
  have X := x1.trans (hcut.1.was 0 rfl)
  have last : bd (k : Int) s.n fun k0 =>
      nw hq (.cells ⟨[.slice (sadr s.p s.c k0 1) (s.n - k0) (s.c - k0)]⟩ 24) fun b1 h2 =>
      apK Tryd.prog 24 q (.slice (some (bk b1)) 1 1) h2 fun s1 h3 =>
      C25 s1 h3 fun n1 h4 =>
      bif true then
        nw h4 (.cells ⟨[.slice s.p s.n s.c]⟩ 24) fun b2 h5 =>
        C25 ⟨some (bk b2), 1, 1⟩ h5 fun n2 h6 =>
        (n1 == n2) = true ∧ Ext none' h h6
      else
        false = true ∧ Ext none' h h4 := by
    refine bd_nat (by omega) ?_
    have hr := H1.sub (lo := k) (hi := l.length) hk (Nat.le_refl _)
    rw [← hn] at hr
    refine hcut.push (t := ⟨sadr s.p s.c k 1, s.n - k, s.c - k⟩) (by omega) hr ?_
    intro q' h3 hcut2
    have ef : (ps ++ [(l.drop k).take (s.n - k)]).flatten = l := by
      rw [List.flatten_append, hfl]
      simp only [List.flatten_cons, List.flatten_nil, List.append_nil]
      have e1 : (l.drop k).take (s.n - k) = l.drop k := List.take_of_length_le (by rw [List.length_drop]; omega)
      rw [e1, List.take_append_drop]
    have hle : ∀ m ∈ ps ++ [(l.drop k).take (s.n - k)], m.length ≤ 140737488355328 := by
      intro m hm
      have := (List.sublist_flatten_of_mem hm).length_le
      rw [ef] at this
      omega
    refine c_sum hcut2.rdp hle (by rw [ef]; omega) (by simp; omega) ?_
    rw [ef]
    simp only [cond_true]
    intro b2 e2
    have y2 : Ext none' h3 (upd h3 b2 (.cells ⟨[.slice s.p s.n s.c]⟩ 24 (0, 0))) := Ext.new e2
    have X3 := x1.trans (hcut2.1.was 0 rfl)
    have r2 := one_rdp (s := s) (b := b2) (h := upd h3 b2 (.cells ⟨[.slice s.p s.n s.c]⟩ 24 (0, 0))) Blk.upd_same (H.ext (X3.trans y2))
    revert y2 r2
    generalize upd h3 b2 _ = h5
    intro y2 r2
    refine c_sum r2 (by intro l' hl'; simp at hl'; rw [hl']; omega) (by simp; omega) (by simp) ?_
    have ef2 : [l].flatten = l := by simp
    rw [ef2]
    exact ⟨by simp, X3.trans y2⟩
  by_cases hlt : i < cs.length
  · have : decide ((i : Int) < ((c.n : Nat) : Int)) = true := decide_eq_true (by omega)
    rw [this, cond_true]
    by_cases hkl : k < l.length
    · have : decide ((k : Int) < ((s.n : Nat) : Int)) = true := decide_eq_true (by omega)
      rw [this, cond_true]
      have I2 := I1.ext (hcut.1.was 0 rfl)
      obtain ⟨a, ha, hcell⟩ := I2.2 i cs[i] (List.getElem?_eq_getElem hlt)
      obtain ⟨g0, g1⟩ := hcs cs[i] (List.getElem_mem hlt)
      generalize cs[i] = z at hcell g0 g1
      refine idx_of (by omega) (by omega) ?_
      rw [ha]
      have hcell' : cell hq (a.add (((i : Nat) : Int).toNat * 1)) = some (.int .i64 z) := by rw [Int.toNat_natCast]; exact hcell
      simp only [nn_some', hcell', xI_some]
      -- one part
      have step : ∀ m : Nat, k + m ≤ l.length → N7_j1 s c true q k i m hq (fun s0 n2 h0 =>
          (∃ (i' k' : Nat) (ts : List Sl) (ps : List (List UInt8)), IntKind.wrap .i64 ((i : Int) + 1) = i' ∧ i' ≤ cs.length ∧ n2 = k' ∧ k' ≤ l.length ∧ Cut h1 h0 s0 ts ps ∧ ps.length = i' ∧ ps.flatten = l.take k') ∧ cs.length - (IntKind.wrap .i64 ((i : Int) + 1)).toNat < cs.length - ((i : Nat) : Int).toNat) := by
        intro m hm
        unfold N7_j1
        have e1 : IntKind.wrap .i64 ((k : Int) + (m : Int)) = ((k + m : Nat) : Int) := by rw [wi64i (by omega) (by omega)]; omega
        rw [e1]
        refine bd_nat (by omega) ?_
        refine bd_nat (by omega) ?_
        have hr := H1.sub (lo := k) (hi := k + m) (by omega) hm
        refine hcut.push (t := ⟨sadr s.p s.c k 1, k + m - k, s.c - k⟩) (by omega) hr ?_
        intro q' h3 hcut2
        rw [nat_succ64 (by omega)]
        refine ⟨⟨i + 1, k + m, _, _, rfl, hlt, rfl, hm, hcut2, by simp [hpl], ?_⟩, by simp only [Int.toNat_natCast]; omega⟩
        rw [List.flatten_append, hfl]
        simp only [List.flatten_cons, List.flatten_nil, List.append_nil]
        rw [Nat.add_sub_cancel_left, List.take_add]
      by_cases hz : z > 0
      · simp only [hz, decide_true, cond_true]
        refine idx_of (by omega) (by omega) ?_
        rw [wi64i (by omega) (by omega)]
        have em : mn z (((s.n : Nat) : Int) - (k : Int)) = ((min z.toNat (l.length - k) : Nat) : Int) := by
          unfold mn
          (try split) <;> omega
        rw [em]
        exact step _ (by omega)
      · have : decide (z > 0) = false := decide_eq_false hz
        rw [this, cond_false]
        exact step 0 (by omega)
    · have : decide ((k : Int) < ((s.n : Nat) : Int)) = false := decide_eq_false (by omega)
      rw [this, cond_false]
      exact last
  · have : decide ((i : Int) < ((c.n : Nat) : Int)) = false := decide_eq_false (by omega)
    rw [this, cond_false]
    exact last

set_option maxRecDepth 100000 in
theorem octetJoined_rw {H : Type} {enc : TypeId × Value → H} {W : World} {base : Nat} {args : Array Value} {ds : List (DataW H)} {p : List MemPlace}
    (hval : ∀ (j : Nat) t v, Tryd.f7.params[j]? = some t → args[j]? = some v → Value.okWide Tryd.prog W .any base t v)
    (hA : DataW.TrodAll enc Tryd.prog W 0 (fun _ => true) true Tryd.f7.params.toList args.toList ds p)
    (hwt : (DataW.weightsEach Tryd.prog Tryd.f7.params.toList ds).all (· ≤ reachBytes) = true)
    (hk : Rows.uptoSmall H ds = true)
    (hX : laidMetH Tryd.prog laidL W) (hsh : W.ShapedOpen Tryd.prog) :
    HCalls Tryd.prog 7 args (hpOf W) fun v h' => v = .bool true ∧ Ext none' (hpOf W) h' := by
  have ep : Tryd.f7.params = #[24, 45] := by kernel_rfl
  rw [ep] at hA hval hwt
  obtain ⟨v0, r0, d0, s0, p0, q0, ea, rfl, rfl, h0, hA⟩ := trodAll_cons hA
  obtain ⟨v1, r1, d1, s1, p1, q1, rfl, rfl, rfl, h1, hA⟩ := trodAll_cons hA
  obtain ⟨rfl, rfl, rfl⟩ := trodAll_nil hA
  have ea : args = #[v0, v1] := Array.toList_inj.1 ea
  subst ea
  have hk0 := bulk_all hk (d := d0) (by simp)
  have hk1 := bulk_all hk (d := d1) (by simp)
  obtain ⟨s, l, rfl, hr, hcap⟩ := bytes_open (e := 5) (by kernel_rfl) (by kernel_rfl) (by kernel_rfl) (hval 0 24 v0 rfl rfl) h0
  obtain ⟨c, css, rfl, hcc, hcn, hrows, hel⟩ := rows_open (e := 3) (by kernel_rfl) (hval 1 45 v1 rfl rfl) h1
  rw [show Tryd.prog.cellsOf 3 = 1 by kernel_rfl] at hrows
  have hel2 : ∀ cs ∈ css, ∃ m : Int, cs = [.int .i64 m] ∧ -9223372036854775808 ≤ m ∧ m ≤ 9223372036854775807 := by
    intro cs hm
    obtain ⟨n, y, hy⟩ := hel cs hm
    obtain ⟨m, h1, _, hw⟩ := DataW.trod_int (k := .i64) (by kernel_rfl) hy
    have := wfb hw
    simp [IntKind.min, IntKind.max, IntKind.signed, IntKind.bits] at this
    exact ⟨m, h1, this⟩
  obtain ⟨cs, hI⟩ := ints_of hrows (fun cs hm => let ⟨m, e, _⟩ := hel2 cs hm; ⟨m, e⟩)
  have hcs : ∀ n ∈ cs, -9223372036854775808 ≤ n ∧ n ≤ 9223372036854775807 := by
    intro n hn
    obtain ⟨i, hi, rfl⟩ := List.getElem_of_mem hn
    obtain ⟨a, ha, hcell⟩ := hI.2 i _ (List.getElem?_eq_getElem hi)
    have hic : i < css.length := by rw [← hrows.1, hI.1]; exact hi
    obtain ⟨a', ha', hc'⟩ := hrows.2 i _ (List.getElem?_eq_getElem hic)
    obtain ⟨m, hm, hb⟩ := hel2 _ (List.getElem_mem hic)
    have h9 := hc' 0 (by omega)
    rw [hm] at h9
    have eaa : a = a' := Option.some.inj (ha.symm.trans ha')
    subst eaa
    have h10 : cell (hpOf W) (a.add (i * 1)) = some (.int .i64 m) := by simpa [add_add] using h9
    rw [hcell] at h10
    cases h10
    exact hb
  have hl : l.length ≤ 1048576 := by
    have hrn := hr.n
    have hrc := hr.c
    rcases hcap with h | ⟨el, sp, rfl, hls⟩
    · omega
    · have := bulk_len el
      have := bulk_len sp
      simp only [Rows.uptoBulk] at hk0
      omega
  have hcl : cs.length ≤ 1048576 := by
    have := hI.1
    rcases hcn with h | ⟨el, sp, rfl, hls⟩
    · omega
    · have := bulk_slice el sp
      omega
  have hc := octetJoined_walk (s := s) (c := c) (glob_of hX hsh) hr hI hl hcl hcs
  refine HCalls.mono hc ?_
  intro v h' hv
  obtain ⟨x, hx, rfl, he⟩ := VT.on_some hv
  cases hx
  exact ⟨rfl, he⟩

set_option maxRecDepth 100000 in
theorem octetJoined_reads (os : Os) {H : Type} (enc : TypeId × Value → H) : ∃ places, DataW.whole enc Tryd.prog ((laidWorld os).forCall (fun _ _ => 0) ⟨#[], #[.slice none 0 0, .slice none 0 0], []⟩).memory Tryd.f7.params.toList Rows.octetJoinedSpec.vars false (#[.slice none 0 0, .slice none 0 0] : Array Value).toList 8 = some ([.nil, .nil], [], places) := ⟨[], by kernel_rfl⟩
set_option maxRecDepth 100000 in
theorem octetJoined_lifted (os : Os) (started : os.Started) (H : Type) (enc : TypeId × Value → H) (F : Stop.Interp) :
    ReturnsInHanded {} Tryd.checked os 7 .any ((Rows.OpenSpec.upto Rows.octetJoinedSpec).preRow enc Tryd.prog Tryd.f7 [] false laidL) (((Rows.OpenSpec.upto Rows.octetJoinedSpec).at F).post enc Tryd.prog Tryd.f7 false true false false) := by
  obtain ⟨places, hx⟩ := octetJoined_reads os enc
  refine law_lift_row (C := Tryd.checked) (s := Rows.octetJoinedSpec) (s' := Rows.OpenSpec.upto Rows.octetJoinedSpec) (tb := 4) own_knob started (by kernel_rfl) Tryd.func7
    (witness_row_at (enc := enc) (C := Tryd.checked) false (laidWorld os) #[.slice none 0 0, .slice none 0 0] rfl (by kernel_rfl) (by kernel_rfl) (by kernel_rfl)
      (OpenSpec.preRow_of_cond 8 hx (by kernel_rfl) (fun k hk => by cases hk; kernel_rfl) (by kernel_rfl) (laid_met os _)))
    laid_out ?_ (by kernel_rfl) (by kernel_rfl) rfl rfl rfl (by kernel_rfl) ?_ ?_
  · have : (Tryd.f7.params.toList.all fun t => Tryd.prog.readableRec t && decide (t < Tryd.prog.types.size)) = true := by kernel_rfl
    intro t ht
    have := List.all_eq_true.1 this t ht
    rw [Bool.and_eq_true, decide_eq_true_eq] at this
    exact this
  · intro ds hl
    have hl : ds.length = 2 := hl
    match ds, hl with
    | [a0, a1], _ => exact ⟨rfl, rfl, rfl⟩
  · intro W base args ds p hval hA hwt hk hX hsh
    exact octetJoined_rw hval hA hwt (hk _ rfl) hX hsh

theorem octetJoined_row : Rows.OctetJoinedUptoSaid :=
  OpenClaim.holds_of_cond 7 Tryd.f7 rfl rfl rfl rfl rfl rfl rfl ⟨rfl, rfl, rfl, rfl, rfl⟩ rfl rfl rfl rfl rfl (by kernel_rfl) Tryd.func7 (by kernel_rfl)
    (of_decide_eq_true (by kernel_rfl)) (by unfold Func.isWrapper; first | (rw [if_pos (by decide +kernel)]; kernel_rfl) | (rw [if_neg (by decide +kernel)]; exact ⟨rfl, rfl⟩))
    (fun os started H enc _ F => by rw [OpenClaim.pre_eq_preRow]; exact octetJoined_lifted os started H enc F)

/-- the statement -/
theorem octetJoined_card : Rows.OctetJoinedUptoCardSaid :=
  Claim7.holds_tied_plain_at .later [] [.data, .data, .data, .data, .sentinel, .sentinel, .pinned] true (true, "56cb0fc03a3dfc1bfe4648d45d1533646674b9c7df771b5f79239cc7243cf7b8") true
    octetJoined_row (fun _ h => by cases h) (by kernel_rfl) (fun _ h => by cases h) octetJoinedUpto_row_tie rfl ⟨rfl, rfl⟩ (by kernel_rfl) rfl
    (fun f fn hf hfn => by
      obtain rfl : f = 7 := Option.some.inj ((show Tryd.prog.funcNamed "slipway/slipwaylaw01.OctetJoined" = some 7 by kernel_rfl).symm.trans hf) |>.symm
      obtain rfl : fn = Tryd.f7 := (Option.some.inj (Tryd.func7.symm.trans hfn)).symm
      have hall : (Tryd.f7.params.toList.all fun t => !(Tryd.prog.wantsStandIn t)) = true := by kernel_rfl
      refine ⟨by kernel_rfl, fun j t ht => ?_⟩
      have := List.all_eq_true.1 hall t (by rw [← Array.getElem?_toList] at ht; exact List.mem_of_getElem? ht)
      rw [Bool.not_eq_true'] at this
      exact this)
    (by kernel_rfl)
#print axioms octetJoined_card

end Go.Proofs.YtlioifgejijcoaaDoor
