/-
  Books begun; lent lists read; what the second form's bound gives (OcM and OcU, over this seat's texts).
-/
import Derived.Test.YtedklcmdjoojfaaDoorPh
import Derived.Test.YtedklcmdjoojfaaDoorPg
import Derived.Test.YtedklcmdjoojfaaDoorPd
set_option linter.unusedSimpArgs false
set_option linter.unusedVariables false
namespace Go.Proofs.YtedklcmdjoojfaaDoor
open Go Go.Hw

theorem stk {L M : List Asn} {h : Hp} {b k : Nat} {T : TypeId} {cs : List Value} {v : Value} {F : Hp → Prop} (hs : Sat (L ++ M) h) (j : Nat) (hj : M[j]? = some (row b T cs)) (hk : k < cs.length) (hp : plain v = true)
    (hF : ∀ h', Sat (L ++ M.set j (row b T (cs.set k v))) h' → F h') : Hw.st h ((bk b).add k) v F := by
  rw [add_bk]; exact hs.st j hj hk hp hF
theorem book_new {L : List Asn} {h : Hp} {b : Nat} (hs : Sat L h) (hb : h b = none) : Sat (L ++ [bookA b []]) (upd h b (.cells ⟨[.slice none 0 0, .slice none 0 0]⟩ 38 (0, 0))) := by
  have h0 : Sat (L ++ []) h := by simpa using hs
  have h3 := ((h0.new hb (.cells ⟨[.slice none 0 0, .slice none 0 0]⟩ 38 (0, 0))).addNil 24 1).addNil 9 1
  have h4 := Sat.close (L := L ++ [row b 38 [.slice none 0 0, .slice none 0 0], Hw.own 24 1 ⟨none, 0, 0⟩ [], Hw.own 9 1 ⟨none, 0, 0⟩ []]) (M := []) (by simpa [row] using h3)
  have h5 : Sat (L ++ [row b 38 [.slice none 0 0, .slice none 0 0], Hw.own 24 1 ⟨none, 0, 0⟩ [], Hw.own 9 1 ⟨none, 0, 0⟩ [], star []]) (upd h b (.cells ⟨[.slice none 0 0, .slice none 0 0]⟩ 38 (0, 0))) := by simpa using h4
  exact Sat.ex (A := fun p : Sl × Sl => star [row b 38 [p.1.v, p.2.v], Hw.own 24 1 p.1 (([] : List Ent).map fun e => e.1.v), Hw.own 9 1 p.2 (([] : List Ent).map fun e => .string ⟨⟨e.2⟩⟩), star (([] : List Ent).map ownB)]) (⟨none, 0, 0⟩, ⟨none, 0, 0⟩) h5.close

theorem lent_rdb {h : Hp} {p : Option Addr} {l : List UInt8} (ho : Own h 5 1 ⟨p, l.length + 2, l.length + 2⟩ (bc (l ++ [71, 72]))) : RdB h ⟨p, l.length, l.length + 2⟩ l := by
  refine ⟨rfl, by simp, ?_⟩
  have := ho.rdb.r.take l.length
  rw [← bc_take] at this
  simpa using this
theorem putL_len (n : Nat) (w : Int) : (putL n w).length ≤ 8 := by
  unfold putL
  split
  · simp
  · rename_i h
    rw [be_len]
    omega
theorem bulk_one {H : Type} (d : DataW H) : 1 ≤ Rows.uptoBulk d := by
  cases d with
  | lit l => cases l <;> simp [Rows.uptoBulk]
  | _ => simp [Rows.uptoBulk]
theorem bulk_in {H : Type} {d : DataW H} {l : List (DataW H)} (h : d ∈ l) : Rows.uptoBulk d ≤ Rows.uptoBulkAll l := by
  induction l with
  | nil => cases h
  | cons x r ih =>
    simp only [Rows.uptoBulkAll]
    rcases List.mem_cons.1 h with e | e
    · subst e; omega
    · have := ih e; omega
theorem bulk_len {H : Type} (l : List (DataW H)) : l.length ≤ Rows.uptoBulkAll l := by
  induction l with
  | nil => simp [Rows.uptoBulkAll]
  | cons x r ih => have := bulk_one x; simp only [Rows.uptoBulkAll, List.length_cons]; omega
theorem bulk_slice {H : Type} (e s : List (DataW H)) : e.length ≤ Rows.uptoBulk (.slice e s) := by
  have := bulk_len e
  simp only [Rows.uptoBulk]; omega
theorem bulk_str {H : Type} (b : List UInt8) : b.length ≤ Rows.uptoBulk (DataW.lit (H := H) (.string b)) := by simp [Rows.uptoBulk]
theorem bulk_all {H : Type} {l : List (DataW H)} (hk : Rows.uptoSmall H l = true) {d : DataW H} (hd : d ∈ l) : Rows.uptoBulk d ≤ 1048576 := Nat.le_trans (bulk_in hd) (of_decide_eq_true hk)
end Go.Proofs.YtedklcmdjoojfaaDoor

/-
  Packets and choices that a law is handed: opened.
-/
set_option linter.unusedSimpArgs false
set_option linter.unusedVariables false
namespace Go.Proofs.YtedklcmdjoojfaaDoor
open Go Go.Hw
open Go.ChangeShapes Go.WideShapes Go.ChangeAt Go.RowKit

theorem optB_len {o : Opt} {b : Nat} (h : o.1.size + 3 ≤ b) (hv : o.2 ≤ 9223372036854775807) : (optB o).length ≤ 8 * b := by
  have hs : o.1.size = o.1.data.toList.length := by show o.1.data.size = _; simp
  have := dec_lt 19 o.2.toNat (by omega)
  simp only [optB, List.length_append, List.length_cons, List.length_nil]
  omega
theorem optsB_bulk {H : Type} : ∀ (os : List Opt) (ds : List (DataW H)), os.length = ds.length → (∀ (i : Nat) o d, os[i]? = some o → ds[i]? = some d → o.1.size + 3 ≤ Rows.uptoBulk d ∧ o.2 ≤ 9223372036854775807) → (optsB os).length ≤ 8 * Rows.uptoBulkAll ds
  | [], ds, _, _ => by simp [optsB]
  | o :: os, d :: ds, hl, h => by
    have h1 := h 0 o d rfl rfl
    have h2 := optsB_bulk os ds (by simpa using hl) fun i o' d' ho hd => h (i + 1) o' d' ho hd
    have h3 := optB_len h1.1 h1.2
    have e : optsB (o :: os) = optB o ++ optsB os := rfl
    rw [e, List.length_append]
    simp only [Rows.uptoBulkAll]
    omega

section
variable {H : Type} {enc : TypeId × Value → H}
set_option maxRecDepth 100000 in
theorem choice_one {W : World} {sp : Nat → Bool} {held : Bool} {n : Nat} {cs : List Value} {y : DataW H × List MemPlace} (hf : DataW.trod enc Tryd.prog W 0 sp held n 56 cs = some y) :
    ∃ o : Opt, cs = oc o ∧ o.1.size + 3 ≤ Rows.uptoBulk y.1 ∧ -9223372036854775808 ≤ o.2 ∧ o.2 ≤ 9223372036854775807 := by
  have hu : Tryd.prog.underlying 56 = some (.struct #[.mk "Name" 9 0 false "" "" 0, .mk "Value" 3 1 false "" "" 16]) := by kernel_rfl
  obtain ⟨xs, m, _, rfl, hl, hxl, hx⟩ := DataW.trod_struct hu hf
  rw [ch_a] at hl
  have hxl : xs.length = 2 := hxl
  match cs, hl with
  | [u0, u1], _ =>
    match xs, hxl with
    | [y0, y1], _ =>
      have g0 := hx 0 _ rfl
      have g1 := hx 1 _ rfl
      simp only [show Tryd.prog.cellsOf 9 = 1 from by kernel_rfl, show Tryd.prog.cellsOf 3 = 1 from by kernel_rfl, List.drop_zero, List.drop_succ_cons, List.take_succ_cons, List.take_zero, List.getElem?_cons_zero, List.getElem?_cons_succ] at g0 g1
      obtain ⟨s, e0, d0, _⟩ := DataW.trod_string (by kernel_rfl) g0
      obtain ⟨v, e1, d1, hw⟩ := DataW.trod_int (k := .i64) (by kernel_rfl) g1
      cases e0; cases e1
      have hw := wfb hw
      simp [IntKind.min, IntKind.max, IntKind.signed, IntKind.bits] at hw
      refine ⟨(s, v), rfl, ?_, hw.1, hw.2⟩
      rw [d0, d1]
      have hs : s.size = s.data.toList.length := by show s.data.size = _; simp
      simp only [List.map_cons, List.map_nil, Rows.uptoBulk, Rows.uptoBulkAll]
      omega
theorem choices_core {W : World} {held : Bool} {n : Nat} {cs : List Value} {y : DataW H × List MemPlace} (hf : DataW.trod enc Tryd.prog W 0 (fun _ => true) held n 23 cs = some y) :
    ∃ (s : Sl) (os : List Opt), cs = [s.v] ∧ RdO (hpOf W) s os ∧ os.length ≤ Rows.uptoBulk y.1 ∧ (optsB os).length ≤ 8 * Rows.uptoBulk y.1 ∧ (s.c = 0 ∨ ∃ elems spare, y.1 = .slice elems spare ∧ elems.length + spare.length = s.c) := by
  rcases DataW.trod_slice (e := 56) (by kernel_rfl) hf with ⟨h0, hx⟩ | ⟨a, len, cap, elems, rest, m, _, h1, hx, _, hl, _, hlen, hel, hsp, _⟩
  · exact ⟨⟨none, 0, 0⟩, [], h0, ⟨rfl, Nat.le_refl _, by intro i v hi; simp at hi⟩, by simp, by simp [optsB], .inl rfl⟩
  · rw [ch_a] at hel
    have each : ∀ i ∈ List.range len, ∃ o : Opt, (∃ d, (elems.map (·.1))[i]? = some d ∧ o.1.size + 3 ≤ Rows.uptoBulk d ∧ o.2 ≤ 9223372036854775807) ∧ cell (hpOf W) (a.add (i * 2)) = some (.string o.1) ∧ cell (hpOf W) (a.add (i * 2 + 1)) = some (.int .i64 o.2) := by
      intro i hi
      have hi := List.mem_range.1 hi
      have h2 := hel i hi
      rw [List.getElem?_eq_getElem (by omega)] at h2
      obtain ⟨cs, h3, h4⟩ := Option.bind_eq_some_iff.1 h2
      obtain ⟨o, rfl, hb, _, hv⟩ := choice_one h4
      have c := (World.cells?_some h3).2.2
      have c0 := c 0 (by omega)
      have c1 := c 1 (by omega)
      rw [add_add] at c0 c1
      refine ⟨o, ⟨elems[i].1, by rw [List.getElem?_map, List.getElem?_eq_getElem (by omega)]; rfl, hb, hv⟩, ?_, ?_⟩
      · rw [cell_hp]; exact c0
      · rw [cell_hp]; exact c1
    obtain ⟨os, hol, ho⟩ := pick_all (fun (i : Nat) (o : Opt) => (∃ d, (elems.map (·.1))[i]? = some d ∧ o.1.size + 3 ≤ Rows.uptoBulk d ∧ o.2 ≤ 9223372036854775807) ∧ cell (hpOf W) (a.add (i * 2)) = some (.string o.1) ∧ cell (hpOf W) (a.add (i * 2 + 1)) = some (.int .i64 o.2)) each
    simp only [List.length_range] at hol
    have hox : ∀ (i : Nat) o, os[i]? = some o → (∃ d, (elems.map (·.1))[i]? = some d ∧ o.1.size + 3 ≤ Rows.uptoBulk d ∧ o.2 ≤ 9223372036854775807) ∧ cell (hpOf W) (a.add (i * 2)) = some (.string o.1) ∧ cell (hpOf W) (a.add (i * 2 + 1)) = some (.int .i64 o.2) := by
      intro i o hi
      have hil : i < len := by rw [← hol]; exact (List.getElem?_eq_some_iff.1 hi).1
      obtain ⟨o', h1, h2⟩ := ho i i (by simp [hil])
      rw [hi] at h1
      cases h1
      exact h2
    have hb := optsB_bulk os (elems.map (·.1)) (by simp; omega) fun i o d h1 h2 => by
      obtain ⟨⟨d', h3, h4⟩, _⟩ := hox i o h1
      rw [h2] at h3
      cases h3
      exact h4
    have hsl := (hsp rfl).1
    refine ⟨⟨some a, len, cap⟩, os, h1, ⟨hol.symm, hl, ?_⟩, ?_, ?_, ?_⟩
    · intro i v hi
      have hlt := (List.getElem?_eq_some_iff.1 hi).1
      rw [oc_len] at hlt
      obtain ⟨j, hj⟩ : ∃ j, i = j * 2 ∨ i = j * 2 + 1 := ⟨i / 2, by omega⟩
      have hk : j < os.length := by omega
      obtain ⟨g1, g2⟩ := oc_get os j hk
      obtain ⟨_, k1, k2⟩ := hox j _ (List.getElem?_eq_getElem hk)
      refine ⟨a, rfl, ?_⟩
      rcases hj with rfl | rfl
      · rw [g1] at hi
        cases hi
        exact k1
      · rw [g2] at hi
        cases hi
        exact k2
    · rw [hx]
      have := bulk_slice (H := H) (elems.map (·.1)) (rest.map (·.1))
      simp only [List.length_map] at this
      dsimp only
      omega
    · rw [hx]
      simp only [Rows.uptoBulk]
      omega
    · refine .inr ⟨_, _, by rw [hx], ?_⟩
      simp only [List.length_map]
      omega
set_option maxRecDepth 100000 in
/-- a packet -/
theorem packet_open {r : Reach} {W : World} {b0 : Nat} {held : Bool} {v : Value} {d : DataW H} {ps : List MemPlace} (hwt : ∀ n ∈ d.weights Tryd.prog 26, n ≤ reachBytes) (hval : Value.okWide Tryd.prog W r b0 26 v) (hd : DataW.Trod enc Tryd.prog W 0 (fun _ => true) held 26 v d ps) :
    ∃ (op : Int) (file mode : ByteArray) (x3 : Sl) (block : Int) (x5 : Sl) (code : Int) (text : ByteArray) (os : List Opt) (data : List UInt8), v = .agg ⟨pkL op file mode x3 block x5 code text⟩ ∧ RdO (hpOf W) x3 os ∧ RdB (hpOf W) x5 data ∧
      os.length ≤ Rows.uptoBulk d ∧ file.size + mode.size + text.size + (optsB os).length + data.length ≤ 10 * Rows.uptoBulk d ∧
      (os.length ≤ 5864062014635 ∧ data.length ≤ 140737488351232 ∧ file.size ≤ 140737488351232 ∧ text.size ≤ 140737488351232) ∧
      (-9223372036854775808 ≤ op ∧ op ≤ 9223372036854775807) ∧ (-9223372036854775808 ≤ block ∧ block ≤ 9223372036854775807) ∧ (-9223372036854775808 ≤ code ∧ code ≤ 9223372036854775807) := by
  have hu : Tryd.prog.underlying 26 = some (.struct #[.mk "Op" 3 0 false "" "" 0, .mk "File" 9 1 false "" "" 8, .mk "Mode" 9 2 false "" "" 24, .mk "Choices" 23 3 false "" "" 40,
    .mk "Block" 3 4 false "" "" 64, .mk "Data" 24 5 false "" "" 72, .mk "Code" 3 6 false "" "" 96, .mk "Text" 9 7 false "" "" 104]) := by kernel_rfl
  obtain ⟨⟨cs⟩, rfl, hsz⟩ := okWide_struct hu hval
  obtain ⟨fuel, hf⟩ := hd
  replace hf : DataW.trod enc Tryd.prog W 0 (fun _ => true) held fuel 26 cs = some (d, ps) := hf
  obtain ⟨xs, m, _, hxe, hl, hxl, hx⟩ := DataW.trod_struct hu hf
  rw [show Tryd.prog.cellsOf 26 = 8 from by kernel_rfl] at hl
  have hxl : xs.length = 8 := hxl
  obtain ⟨rfl, rfl⟩ := Prod.mk.inj hxe
  match cs, hl with
  | [u0, u1, u2, u3, u4, u5, u6, u7], _ =>
    match xs, hxl with
    | [y0, y1, y2, y3, y4, y5, y6, y7], _ =>
      have g0 := hx 0 _ rfl
      have g1 := hx 1 _ rfl
      have g2 := hx 2 _ rfl
      have g3 := hx 3 _ rfl
      have g4 := hx 4 _ rfl
      have g5 := hx 5 _ rfl
      have g6 := hx 6 _ rfl
      have g7 := hx 7 _ rfl
      simp only [show Tryd.prog.cellsOf 9 = 1 from by kernel_rfl, show Tryd.prog.cellsOf 3 = 1 from by kernel_rfl, show Tryd.prog.cellsOf 24 = 1 from by kernel_rfl, show Tryd.prog.cellsOf 23 = 1 from by kernel_rfl,
        List.drop_zero, List.drop_succ_cons, List.take_succ_cons, List.take_zero, List.getElem?_cons_zero, List.getElem?_cons_succ] at g0 g1 g2 g3 g4 g5 g6 g7
      obtain ⟨op, e0, _, w0⟩ := DataW.trod_int (k := .i64) (by kernel_rfl) g0
      obtain ⟨file, e1, d1, _⟩ := DataW.trod_string (by kernel_rfl) g1
      obtain ⟨mode, e2, d2, _⟩ := DataW.trod_string (by kernel_rfl) g2
      obtain ⟨x3, os, e3, ho, hol, hob, hoc⟩ := choices_core g3
      obtain ⟨block, e4, _, w4⟩ := DataW.trod_int (k := .i64) (by kernel_rfl) g4
      obtain ⟨x5, data, e5, hd5, hcap⟩ := bytes_core (e := 5) (by kernel_rfl) (by kernel_rfl) (by kernel_rfl) g5
      obtain ⟨code, e6, _, w6⟩ := DataW.trod_int (k := .i64) (by kernel_rfl) g6
      obtain ⟨text, e7, d7, _⟩ := DataW.trod_string (by kernel_rfl) g7
      cases e0; cases e1; cases e2; cases e3; cases e4; cases e5; cases e6; cases e7
      have w0 := wfb w0
      have w4 := wfb w4
      have w6 := wfb w6
      simp [IntKind.min, IntKind.max, IntKind.signed, IntKind.bits] at w0 w4 w6
      have hs1 : file.size = file.data.toList.length := by show file.data.size = _; simp
      have hs2 : mode.size = mode.data.toList.length := by show mode.data.size = _; simp
      have hs7 : text.size = text.data.toList.length := by show text.data.size = _; simp
      have hdl : data.length ≤ Rows.uptoBulk y5.1 := by
        have hn := hd5.n
        have hc := hd5.c
        rcases hcap with h | ⟨el, sp, hd, hls⟩
        · omega
        · rw [hd]
          have b1 := bulk_len el
          have b2 := bulk_len sp
          simp only [Rows.uptoBulk]
          omega
      simp only [DataW.weights, hu, List.map_cons, List.map_nil, DataW.weightsEach, List.mem_append] at hwt
      refine ⟨op, file, mode, x3, block, x5, code, text, os, data, rfl, ho, hd5, ?_, ?_, ⟨?_, ?_, ?_, ?_⟩, w0, w4, w6⟩
      · simp only [List.map_cons, List.map_nil, Rows.uptoBulk, Rows.uptoBulkAll]
        omega
      · rw [d1, d2, d7]
        simp only [List.map_cons, List.map_nil, Rows.uptoBulk, Rows.uptoBulkAll]
        omega
      · have hn := ho.n
        have hc := ho.c
        rcases hoc with h | ⟨el, sp, hd, hls⟩
        · omega
        · have := hwt ((el.length + sp.length) * Tryd.prog.bytesOf 56) (by
            rw [hd]; simp only [DataW.weights, show Tryd.prog.underlying 23 = some (.slice 56) from by kernel_rfl]; simp)
          rw [ch_b] at this
          unfold reachBytes at this
          omega
      · have hn := hd5.n
        have hc := hd5.c
        rcases hcap with h | ⟨el, sp, hd, hls⟩
        · omega
        · have := hwt ((el.length + sp.length) * Tryd.prog.bytesOf 5) (by
            rw [hd]; simp only [DataW.weights, show Tryd.prog.underlying 24 = some (.slice 5) from by kernel_rfl]; simp)
          rw [y_b] at this
          unfold reachBytes at this
          omega
      · have := hwt file.data.toList.length (by rw [d1]; simp [DataW.weights])
        unfold reachBytes at this
        omega
      · have := hwt text.data.toList.length (by rw [d7]; simp [DataW.weights])
        unfold reachBytes at this
        omega
end
end Go.Proofs.YtedklcmdjoojfaaDoor

set_option linter.unusedVariables false
set_option maxRecDepth 100000
namespace Go.Proofs.YtedklcmdjoojfaaDoor
open Go Go.Hw
/-! ### 5 slipway/slipwaylaw17.TftpDecodes -/
noncomputable def B5 : Code := match Tryd.f5.body with | some c => c | none => .skip
def N5 (x0 : Sl) (x1 : Sl) (h : Hp) (K : Bool → Hp → Prop) : Prop :=
  C8 h fun b0 h0 =>
  bif (!b0) then
    K false h0
  else
    C10 x0 h0 fun s0 h1 =>
    C17 s0 h1 fun n0 s1 s2 s3 n1 s4 n2 s5 n3 h2 =>
    nw h2 (.cells ⟨[.int .i64 0, .string (⟨⟨[]⟩⟩ : ByteArray), .string (⟨⟨[]⟩⟩ : ByteArray), .slice none 0 0, .int .i64 0, .slice none 0 0, .int .i64 0, .string (⟨⟨[]⟩⟩ : ByteArray)]⟩ 26) fun b1 h3 =>
    st h3 (bk b1) (.int .i64 n0) fun h4 =>
    st h4 ((bk b1).add 1) (.string s1) fun h5 =>
    st h5 ((bk b1).add 2) (.string s2) fun h6 =>
    st h6 ((bk b1).add 3) (.slice s3.p s3.n s3.c) fun h7 =>
    st h7 ((bk b1).add 4) (.int .i64 n1) fun h8 =>
    st h8 ((bk b1).add 5) (.slice s4.p s4.n s4.c) fun h9 =>
    st h9 ((bk b1).add 6) (.int .i64 n2) fun h10 =>
    st h10 ((bk b1).add 7) (.string s5) fun h11 =>
    C17 x1 h11 fun n4 s6 s7 s8 n5 s9 n6 s10 n7 h12 =>
    nw h12 (.cells ⟨[.int .i64 0, .string (⟨⟨[]⟩⟩ : ByteArray), .string (⟨⟨[]⟩⟩ : ByteArray), .slice none 0 0, .int .i64 0, .slice none 0 0, .int .i64 0, .string (⟨⟨[]⟩⟩ : ByteArray)]⟩ 26) fun b2 h13 =>
    st h13 (bk b2) (.int .i64 n4) fun h14 =>
    st h14 ((bk b2).add 1) (.string s6) fun h15 =>
    st h15 ((bk b2).add 2) (.string s7) fun h16 =>
    st h16 ((bk b2).add 3) (.slice s8.p s8.n s8.c) fun h17 =>
    st h17 ((bk b2).add 4) (.int .i64 n5) fun h18 =>
    st h18 ((bk b2).add 5) (.slice s9.p s9.n s9.c) fun h19 =>
    st h19 ((bk b2).add 6) (.int .i64 n6) fun h20 =>
    st h20 ((bk b2).add 7) (.string s10) fun h21 =>
    C17 s0 h21 fun n8 s11 s12 s13 n9 s14 n10 s15 n11 h22 =>
    nw h22 (.cells ⟨[.int .i64 0, .string (⟨⟨[]⟩⟩ : ByteArray), .string (⟨⟨[]⟩⟩ : ByteArray), .slice none 0 0, .int .i64 0, .slice none 0 0, .int .i64 0, .string (⟨⟨[]⟩⟩ : ByteArray)]⟩ 26) fun b3 h23 =>
    st h23 (bk b3) (.int .i64 n8) fun h24 =>
    st h24 ((bk b3).add 1) (.string s11) fun h25 =>
    st h25 ((bk b3).add 2) (.string s12) fun h26 =>
    st h26 ((bk b3).add 3) (.slice s13.p s13.n s13.c) fun h27 =>
    st h27 ((bk b3).add 4) (.int .i64 n9) fun h28 =>
    st h28 ((bk b3).add 5) (.slice s14.p s14.n s14.c) fun h29 =>
    st h29 ((bk b3).add 6) (.int .i64 n10) fun h30 =>
    st h30 ((bk b3).add 7) (.string s15) fun h31 =>
    C13 s0 x0 h31 fun b4 h32 =>
    C18 x0 h32 fun n12 s16 s17 s18 n13 s19 n14 s20 n15 h33 =>
    nw h33 (.cells ⟨[.int .i64 0, .string (⟨⟨[]⟩⟩ : ByteArray), .string (⟨⟨[]⟩⟩ : ByteArray), .slice none 0 0, .int .i64 0, .slice none 0 0, .int .i64 0, .string (⟨⟨[]⟩⟩ : ByteArray)]⟩ 26) fun b5 h34 =>
    st h34 (bk b5) (.int .i64 n12) fun h35 =>
    st h35 ((bk b5).add 1) (.string s16) fun h36 =>
    st h36 ((bk b5).add 2) (.string s17) fun h37 =>
    st h37 ((bk b5).add 3) (.slice s18.p s18.n s18.c) fun h38 =>
    st h38 ((bk b5).add 4) (.int .i64 n13) fun h39 =>
    st h39 ((bk b5).add 5) (.slice s19.p s19.n s19.c) fun h40 =>
    st h40 ((bk b5).add 6) (.int .i64 n14) fun h41 =>
    st h41 ((bk b5).add 7) (.string s20) fun h42 =>
    C18 x1 h42 fun n16 s21 s22 s23 n17 s24 n18 s25 n19 h43 =>
    nw h43 (.cells ⟨[.int .i64 0, .string (⟨⟨[]⟩⟩ : ByteArray), .string (⟨⟨[]⟩⟩ : ByteArray), .slice none 0 0, .int .i64 0, .slice none 0 0, .int .i64 0, .string (⟨⟨[]⟩⟩ : ByteArray)]⟩ 26) fun b6 h44 =>
    st h44 (bk b6) (.int .i64 n16) fun h45 =>
    st h45 ((bk b6).add 1) (.string s21) fun h46 =>
    st h46 ((bk b6).add 2) (.string s22) fun h47 =>
    st h47 ((bk b6).add 3) (.slice s23.p s23.n s23.c) fun h48 =>
    st h48 ((bk b6).add 4) (.int .i64 n17) fun h49 =>
    st h49 ((bk b6).add 5) (.slice s24.p s24.n s24.c) fun h50 =>
    st h50 ((bk b6).add 6) (.int .i64 n18) fun h51 =>
    st h51 ((bk b6).add 7) (.string s25) fun h52 =>
    xI .i64 (cell h52 (bk b1)) fun n20 =>
    xS (cell h52 ((bk b1).add 1)) fun s26 =>
    xS (cell h52 ((bk b1).add 2)) fun s27 =>
    xL (cell h52 ((bk b1).add 3)) fun s28 =>
    xI .i64 (cell h52 ((bk b1).add 4)) fun n21 =>
    xL (cell h52 ((bk b1).add 5)) fun s29 =>
    xI .i64 (cell h52 ((bk b1).add 6)) fun n22 =>
    xS (cell h52 ((bk b1).add 7)) fun s30 =>
    xI .i64 (cell h52 (bk b5)) fun n23 =>
    xS (cell h52 ((bk b5).add 1)) fun s31 =>
    xS (cell h52 ((bk b5).add 2)) fun s32 =>
    xL (cell h52 ((bk b5).add 3)) fun s33 =>
    xI .i64 (cell h52 ((bk b5).add 4)) fun n24 =>
    xL (cell h52 ((bk b5).add 5)) fun s34 =>
    xI .i64 (cell h52 ((bk b5).add 6)) fun n25 =>
    xS (cell h52 ((bk b5).add 7)) fun s35 =>
    C19 n20 s26 s27 s28 n21 s29 n22 s30 n23 s31 s32 s33 n24 s34 n25 s35 h52 fun b7 h53 =>
    xI .i64 (cell h53 (bk b2)) fun n26 =>
    xS (cell h53 ((bk b2).add 1)) fun s36 =>
    xS (cell h53 ((bk b2).add 2)) fun s37 =>
    xL (cell h53 ((bk b2).add 3)) fun s38 =>
    xI .i64 (cell h53 ((bk b2).add 4)) fun n27 =>
    xL (cell h53 ((bk b2).add 5)) fun s39 =>
    xI .i64 (cell h53 ((bk b2).add 6)) fun n28 =>
    xS (cell h53 ((bk b2).add 7)) fun s40 =>
    xI .i64 (cell h53 (bk b6)) fun n29 =>
    xS (cell h53 ((bk b6).add 1)) fun s41 =>
    xS (cell h53 ((bk b6).add 2)) fun s42 =>
    xL (cell h53 ((bk b6).add 3)) fun s43 =>
    xI .i64 (cell h53 ((bk b6).add 4)) fun n30 =>
    xL (cell h53 ((bk b6).add 5)) fun s44 =>
    xI .i64 (cell h53 ((bk b6).add 6)) fun n31 =>
    xS (cell h53 ((bk b6).add 7)) fun s45 =>
    C19 n26 s36 s37 s38 n27 s39 n28 s40 n29 s41 s42 s43 n30 s44 n31 s45 h53 fun b8 h54 =>
    xI .i64 (cell h54 (bk b3)) fun n32 =>
    xS (cell h54 ((bk b3).add 1)) fun s46 =>
    xS (cell h54 ((bk b3).add 2)) fun s47 =>
    xL (cell h54 ((bk b3).add 3)) fun s48 =>
    xI .i64 (cell h54 ((bk b3).add 4)) fun n33 =>
    xL (cell h54 ((bk b3).add 5)) fun s49 =>
    xI .i64 (cell h54 ((bk b3).add 6)) fun n34 =>
    xS (cell h54 ((bk b3).add 7)) fun s50 =>
    xI .i64 (cell h54 (bk b5)) fun n35 =>
    xS (cell h54 ((bk b5).add 1)) fun s51 =>
    xS (cell h54 ((bk b5).add 2)) fun s52 =>
    xL (cell h54 ((bk b5).add 3)) fun s53 =>
    xI .i64 (cell h54 ((bk b5).add 4)) fun n36 =>
    xL (cell h54 ((bk b5).add 5)) fun s54 =>
    xI .i64 (cell h54 ((bk b5).add 6)) fun n37 =>
    xS (cell h54 ((bk b5).add 7)) fun s55 =>
    C19 n32 s46 s47 s48 n33 s49 n34 s50 n35 s51 s52 s53 n36 s54 n37 s55 h54 fun b9 h55 =>
    bif (!b4) then
      K false h55
    else
      bif (!b7) then
        K false h55
      else
        bif (!b8) then
          K false h55
        else
          bif (!b9) then
            K false h55
          else
            bif (n3 != n15) then
              K false h55
            else
              bif (n7 != n19) then
                K false h55
              else
                bif (n11 != n15) then
                  K false h55
                else
                  nw h55 (.cells ⟨[.slice none 0 0, .slice none 0 0]⟩ 38) fun b10 h56 =>
                  xL (cell h56 ((bk b1).add 5)) fun s56 =>
                  C15 (some (bk b10)) s56 h56 fun h57 =>
                  xL (cell h57 ((bk b2).add 5)) fun s57 =>
                  C15 (some (bk b10)) s57 h57 fun h58 =>
                  xL (cell h58 ((bk b3).add 5)) fun s58 =>
                  C15 (some (bk b10)) s58 h58 fun h59 =>
                  C16 (some (bk b10)) h59 fun b11 h60 =>
                  xL (cell h60 ((bk b1).add 3)) fun s59 =>
                  xL (cell h60 ((bk b2).add 3)) fun s60 =>
                  xL (cell h60 ((bk b3).add 3)) fun s61 =>
                  nw h60 (.cells ⟨[.slice s59.p s59.n s59.c, .slice s60.p s60.n s60.c, .slice s61.p s61.n s61.c]⟩ 23) fun b12 h61 =>
                  C20 ⟨some (bk b12), 3, 3⟩ h61 fun b13 h62 =>
                  bif b11 then
                    K b13 h62
                  else
                    K false h62
theorem S5 {x0 : Sl} {x1 : Sl} {h : Hp} {K : Bool → Hp → Prop} (hn : N5 x0 x1 h K) : C5 x0 x1 h K := by
  refine calls_of_D Tryd.func5 (c := B5) rfl (by kernel_rfl) ?_
  refine den_sound hE hm _ .leaf _ _ _ (annOk_leaf) ?_
  refine cast ?_ hn
  kernel_rfl
end Go.Proofs.YtedklcmdjoojfaaDoor
