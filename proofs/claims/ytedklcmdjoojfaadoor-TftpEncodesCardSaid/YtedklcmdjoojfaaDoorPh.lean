/-
  A closed call, reckoned: it gives what the small machine gives, and leaves all that was there.
-/
import Derived.Test.YtedklcmdjoojfaaDoorPg
import Derived.Test.YtedklcmdjoojfaaDoorPc
import Derived.Test.YtedklcmdjoojfaaDoorRows
import Derived.Test.YtedklcmdjoojfaaDoorTie
import Derived.Test.YtedklcmdjoojfaaDoorCards
import Derived.Stop.LaidErr
import Derived.Lib.LaidTab
import Derived.Shelf.Vars
import Derived.SevenTiedAt
import Derived.Test.YtedklcmdjoojfaaDoorPf
import Derived.Test.YtedklcmdjoojfaaDoorPd
set_option linter.unusedSimpArgs false
set_option linter.unusedVariables false
namespace Go.Ix
open Go Go.Hw

def H0 (G e : Nat) : List (Nat × List CV) → CH
  | [] => ⟨.leaf, G + e⟩
  | (g, cs) :: l => ⟨(H0 G e l).t.set g (some (.tab cs)), G + e⟩
/-- the variables, and what they point to -/
def σ0 (G : Nat) (bs : List Addr) : Sig := fun b => if b < G then some ⟨b, 0, 0, 0⟩ else match bs[b - G]? with
  | some a => some ⟨a.block, a.off, 0, 0⟩
  | none => none
theorem H0_get {G e : Nat} : ∀ {l : List (Nat × List CV)} {b : Nat} {o : CO}, (H0 G e l).t.get b = some o → ∃ cs, (b, cs) ∈ l ∧ o = .tab cs := by
  intro l
  induction l with
  | nil => intro b o h; cases h
  | cons x l ih =>
    intro b o h
    obtain ⟨g, cs⟩ := x
    simp only [H0, T.get_set] at h
    split at h
    · rename_i e; subst e; cases h; exact ⟨cs, List.mem_cons_self .., rfl⟩
    · obtain ⟨c, h1, h2⟩ := ih h; exact ⟨c, List.mem_cons_of_mem _ h1, h2⟩
theorem H0_nx {G e : Nat} : ∀ {l : List (Nat × List CV)}, (H0 G e l).nx = G + e
  | [] => rfl
  | (_, _) :: _ => rfl
/-- a table as the memory has it -/
def TabAt (σ : Sig) (h : Hp) (g : Nat) (cs : List CV) : Prop := ∃ (vs : List Value) (e : TypeId) (fr : Nat × Nat), h g = some (.cells ⟨vs⟩ e fr) ∧ ∀ (i : Nat) (c : CV), cs[i]? = some c → ∃ v, vs[i]? = some v ∧ VR σ c v
theorem H0_ok {P : Program} {G : Nat} {h : Hp} {l : List (Nat × List CV)} {bs : List Addr} (hg : ∀ x ∈ l, x.1 < G) (ht : ∀ x ∈ l, TabAt (σ0 G bs) h x.1 x.2) : HR P G h (σ0 G bs) (H0 G bs.length l) h := by
  refine ⟨?_, ?_, ?_, fun _ _ h => h, ?_⟩
  · intro b o hb
    obtain ⟨cs, h1, rfl⟩ := H0_get hb
    obtain ⟨vs, e, fr, h2, h3⟩ := ht _ h1
    refine ⟨⟨b, 0, 0, 0⟩, _, by simp [σ0, hg _ h1], h2, ?_⟩
    unfold OR
    refine ⟨vs, e, fr, rfl, fun i c hc => ?_⟩
    obtain ⟨v, h4, h5⟩ := h3 i c hc
    exact ⟨v, by simpa using h4, h5⟩
  · intro b b' o o' p p' g1 g2 hne hp hp'
    obtain ⟨cs, h1, rfl⟩ := H0_get g1
    obtain ⟨cs', h2, rfl⟩ := H0_get g2
    unfold σ0 at hp hp'
    rw [if_pos (hg _ h1)] at hp
    rw [if_pos (hg _ h2)] at hp'
    cases hp; cases hp'; exact hne
  · intro b hb
    rw [H0_nx] at hb
    unfold σ0; rw [if_neg (by omega)]
    rw [List.getElem?_eq_none (by omega)]
  · intro g hgg
    exact ⟨⟨g, 0, 0, 0⟩, by simp [σ0, hgg], rfl, rfl⟩
theorem err_vr {G j t : Nat} {bs : List Addr} {a : Addr} (hj : bs[j]? = some a) (hs : a.spot = none) : VR (σ0 G bs) (.ifc t (.ptr (G + j) 0)) (.iface t (.pointer (some a))) := by
  unfold VR
  refine ⟨_, rfl, ?_⟩
  unfold VR
  refine ⟨⟨a.block, a.off, 0, 0⟩, ?_, ?_⟩
  · unfold σ0
    rw [if_neg (by omega), Nat.add_sub_cancel_left, hj]
  · cases a; simp at hs; subst hs; rfl
theorem spot_of {h : Hp} {a : Addr} {v : Value} (hc : cell h a = some v) : a.spot = none := by
  unfold cell at hc
  split at hc
  · split at hc
    · cases hc
    · rename_i hs; simpa using hs
  · cases hc
/-- a call as it is reckoned -/
def runC (P : Program) (G lf m : Nat) : Call Bool := callX no P G (treeB P G (callX (fun _ => none) P G (tree1 (fun _ => none) P G) lf m)) lf m
/-- a closed call that gives 'true' -/
theorem closed {P : Program} (hm : P.follows .mixedOrders = true) {G e lf m f : Nat} {l : List (Nat × List CV)} (hg : (l.all fun x => Nat.blt x.1 G) = true)
    (hx : runC P G lf m f [] (H0 G e l) (fun y _ => CV.eq y (.bool true)) = true) {h : Hp} {bs : List Addr} (he : bs.length = e) (ht : ∀ x ∈ l, TabAt (σ0 G bs) h x.1 x.2) {K : Value → Hp → Prop}
    (hK : ∀ h', Ext none' h h' → K (.bool true) h') : HCalls P f ⟨[]⟩ h K := by
  have hg' : ∀ x ∈ l, x.1 < G := fun x hx => by have := List.all_eq_true.1 hg x hx; simpa [Nat.blt_eq] using this
  subst he
  refine callX_ok (h0 := h) hm (treeB_ok hm) m f [] _ _ hx (σ0 G bs) h [] (by unfold VRs; rfl) (H0_ok hg' ht) K ?_
  intro σ' y v H' h' hl hv hh' hk
  have := CV.eq_eq _ _ hk; subst this
  unfold VR at hv; subst hv
  exact hK h' fun b o hb _ => hh'.keep b o hb
end Go.Ix

/-
  The frame of the laws: what is laid; a world that meets it; the tables as they are read.
-/
set_option linter.unusedSimpArgs false
set_option linter.unusedVariables false
namespace Go.Proofs.YtedklcmdjoojfaaDoor
open Go Go.Hw Go.Ix
open Go.ChangeShapes Go.WideShapes Go.ChangeAt Go.RowKit

theorem own_knob : ownKnob Tryd.prog.godebug = none := by kernel_rfl
theorem laid_out : laidOutB Tryd.prog = true := by kernel_rfl
theorem follows_mixed : Tryd.prog.follows .mixedOrders = true := by kernel_rfl
/-- the world with the variables as they are laid -/
noncomputable def low : Nat := (World.holding Tryd.prog default ⟨#[], #[], []⟩).heap.size
def rowOf {H : Type} (d : DataW H) : Array Value := match d with
  | .agg l => (l.flatMap fun
    | .lit (.int k n) => [Value.int k n]
    | .agg m => m.map fun | .lit (.int k n) => Value.int k n | _ => .nilIface
    | _ => []).toArray
  | _ => #[]
def layAt (w : World) (g : Nat) (cs : Array Value) : World :=
  { w with heap := w.heap.modify g fun
      | .cells _ t frozen => .cells cs t frozen
      | o => o }
noncomputable def laidWorld (os : Os) : World :=
  layAt (layAt (layAt (layAt (layAt (World.holding Tryd.prog os ⟨#[.cells #[.string ⟨⟨[118, 97, 108, 117, 101, 32, 111, 117, 116, 32, 111, 102, 32, 114, 97, 110, 103, 101]⟩⟩] 134, .cells #[.string ⟨⟨[105, 110, 118, 97, 108, 105, 100, 32, 115, 121, 110, 116, 97, 120]⟩⟩] 134], #[], []⟩) 2 (rowOf (H := Unit) Rows.laid_math_bits_deBruijn32tab)) 3 (rowOf (H := Unit) Rows.laid_math_bits_deBruijn64tab)) 1 (rowOf (H := Unit) Rows.laid_internal_strconv_uint64pow10)) 5 #[.iface 132 (.pointer (some ⟨low + 0, 0, none⟩))]) 4 #[.iface 132 (.pointer (some ⟨low + 1, 0, none⟩))]
abbrev laidL : List (String × DataW Unit) := Rows.tftpNumbersRow.laid
theorem laid_met (os : Os) (args : Array Value) : laidMetH Tryd.prog laidL ((laidWorld os).forCall (fun _ _ => 0) ⟨#[], args, []⟩).memory := by
  have h : laidMet Tryd.prog laidL ((laidWorld os).forCall (fun _ _ => 0) ⟨#[], args, []⟩).memory := laidMet_of_run' 8 (by kernel_rfl) (by kernel_rfl)
  exact h
theorem none_handles : (laidL.filter fun x => x.2.handleName?.isSome) = [] := by kernel_rfl
def tab0L : List Int := [0, 1, 28, 2, 29, 14, 24, 3, 30, 22, 20, 15, 25, 17, 4, 8, 31, 27, 13, 23, 21, 19, 16, 7, 26, 12, 18, 6, 11, 5, 10, 9]
theorem tab0 {W : World} (h : laidMetH Tryd.prog laidL W) (σ : Sig) : TabAt σ (hpOf W) 2 (tab0L.map fun z => CV.int .u8 z) := by
  have hp := laid_one h none_handles (n := "math/bits.deBruijn32tab") (d := Rows.laid_math_bits_deBruijn32tab) (by kernel_rfl)
  rw [show (Rows.laid_math_bits_deBruijn32tab : DataW Unit) = Lib.tabData .u8 tab0L by kernel_rfl] at hp
  have hg : Tryd.prog.globalNamed "math/bits.deBruijn32tab" = some 2 := by kernel_rfl
  have tab : Lib.TabIs Tryd.prog W "math/bits.deBruijn32tab" .u8 tab0L :=
    Lib.tabIs_of_head hg (t := 123) (e := 5) (n := 32) (by kernel_rfl) (by kernel_rfl) (by kernel_rfl) (by kernel_rfl) (by kernel_rfl) hp
  unfold Lib.TabIs World.var? at tab
  rw [hg] at tab
  simp only [Option.bind_some] at tab
  cases hb : W.heap[2]? with
  | none => rw [hb] at tab; cases tab
  | some o =>
    rw [hb] at tab
    cases o <;> simp at tab
    rename_i c e fr
    refine ⟨c.toList, e, fr, hb, fun i x hx => ?_⟩
    rw [List.getElem?_map] at hx
    cases hz : tab0L[i]? with
    | none => rw [hz] at hx; cases hx
    | some z =>
      rw [hz] at hx; cases hx
      refine ⟨.int .u8 z, by rw [tab]; simp [hz], by unfold VR; rfl⟩
def tab1L : List Int := [0, 1, 56, 2, 57, 49, 28, 3, 61, 58, 42, 50, 38, 29, 17, 4, 62, 47, 59, 36, 45, 43, 51, 22, 53, 39, 33, 30, 24, 18, 12, 5, 63, 55, 48, 27, 60, 41, 37, 16, 46, 35, 44, 21, 52, 32, 23, 11, 54, 26, 40, 15, 34, 20, 31, 10, 25, 14, 19, 9, 13, 8, 7, 6]
theorem tab1 {W : World} (h : laidMetH Tryd.prog laidL W) (σ : Sig) : TabAt σ (hpOf W) 3 (tab1L.map fun z => CV.int .u8 z) := by
  have hp := laid_one h none_handles (n := "math/bits.deBruijn64tab") (d := Rows.laid_math_bits_deBruijn64tab) (by kernel_rfl)
  rw [show (Rows.laid_math_bits_deBruijn64tab : DataW Unit) = Lib.tabData .u8 tab1L by kernel_rfl] at hp
  have hg : Tryd.prog.globalNamed "math/bits.deBruijn64tab" = some 3 := by kernel_rfl
  have tab : Lib.TabIs Tryd.prog W "math/bits.deBruijn64tab" .u8 tab1L :=
    Lib.tabIs_of_head hg (t := 124) (e := 5) (n := 64) (by kernel_rfl) (by kernel_rfl) (by kernel_rfl) (by kernel_rfl) (by kernel_rfl) hp
  unfold Lib.TabIs World.var? at tab
  rw [hg] at tab
  simp only [Option.bind_some] at tab
  cases hb : W.heap[3]? with
  | none => rw [hb] at tab; cases tab
  | some o =>
    rw [hb] at tab
    cases o <;> simp at tab
    rename_i c e fr
    refine ⟨c.toList, e, fr, hb, fun i x hx => ?_⟩
    rw [List.getElem?_map] at hx
    cases hz : tab1L[i]? with
    | none => rw [hz] at hx; cases hx
    | some z =>
      rw [hz] at hx; cases hx
      refine ⟨.int .u8 z, by rw [tab]; simp [hz], by unfold VR; rfl⟩
def tab2L : List Int := [1, 10, 100, 1000, 10000, 100000, 1000000, 10000000, 100000000, 1000000000, 10000000000, 100000000000, 1000000000000, 10000000000000, 100000000000000, 1000000000000000, 10000000000000000, 100000000000000000, 1000000000000000000, 10000000000000000000]
theorem tab2 {W : World} (h : laidMetH Tryd.prog laidL W) (σ : Sig) : TabAt σ (hpOf W) 1 (tab2L.map fun z => CV.int .u64 z) := by
  have hp := laid_one h none_handles (n := "internal/strconv.uint64pow10") (d := Rows.laid_internal_strconv_uint64pow10) (by kernel_rfl)
  rw [show (Rows.laid_internal_strconv_uint64pow10 : DataW Unit) = Lib.tabData .u64 tab2L by kernel_rfl] at hp
  have hg : Tryd.prog.globalNamed "internal/strconv.uint64pow10" = some 1 := by kernel_rfl
  have tab : Lib.TabIs Tryd.prog W "internal/strconv.uint64pow10" .u64 tab2L :=
    Lib.tabIs_of_head hg (t := 106) (e := 80) (n := 20) (by kernel_rfl) (by kernel_rfl) (by kernel_rfl) (by kernel_rfl) (by kernel_rfl) hp
  unfold Lib.TabIs World.var? at tab
  rw [hg] at tab
  simp only [Option.bind_some] at tab
  cases hb : W.heap[1]? with
  | none => rw [hb] at tab; cases tab
  | some o =>
    rw [hb] at tab
    cases o <;> simp at tab
    rename_i c e fr
    refine ⟨c.toList, e, fr, hb, fun i x hx => ?_⟩
    rw [List.getElem?_map] at hx
    cases hz : tab2L[i]? with
    | none => rw [hz] at hx; cases hx
    | some z =>
      rw [hz] at hx; cases hx
      refine ⟨.int .u64 z, by rw [tab]; simp [hz], by unfold VR; rfl⟩
theorem errstr (u : TypeId) (h : Tryd.prog.typeName? 3 u = some "*errors.errorString") : u = 132 :=
  typeName_ptr_named (nm := "errors.errorString") (by rw [show "*" ++ "errors.errorString" = "*errors.errorString" by decide]; kernel_rfl) (by kernel_rfl) (by decide) u (by rw [show "*" ++ "errors.errorString" = "*errors.errorString" by decide]; exact h)
theorem err0 {W : World} (h : laidMetH Tryd.prog laidL W) : ∃ a : Addr, a.spot = none ∧ ∃ e fr, hpOf W 5 = some (.cells ⟨[.iface 132 (.pointer (some a))]⟩ e fr) := by
  have hs := laid_one h none_handles (n := "strconv.ErrRange") (d := Rows.laid_strconv_ErrRange) (by kernel_rfl)
  have hg : Tryd.prog.globalNamed "strconv.ErrRange" = some 5 := by kernel_rfl
  obtain ⟨a, s, hv, hc, _, _⟩ := laid_sentinel (ti := 99) (tp := 132) (te := 134) (ts := 9) (ms := #[("Error", 135)]) (f := ⟨"s", 9, 0, false, "", "errors", 0⟩) hs hg (by kernel_rfl) (by kernel_rfl) errstr (by kernel_rfl) (by kernel_rfl) rfl rfl (by kernel_rfl) (by kernel_rfl) (by kernel_rfl)
  refine ⟨a, spot_of (h := hpOf W) (by rw [cell_hp]; exact hc), ?_⟩
  unfold World.var? at hv
  rw [hg] at hv
  simp only [Option.bind_some] at hv
  cases hb : W.heap[5]? with
  | none => rw [hb] at hv; cases hv
  | some o =>
    rw [hb] at hv
    cases o <;> simp at hv
    rename_i c e fr
    exact ⟨e, fr, by show W.heap[5]? = _; rw [hb, hv]⟩
theorem err1 {W : World} (h : laidMetH Tryd.prog laidL W) : ∃ a : Addr, a.spot = none ∧ ∃ e fr, hpOf W 4 = some (.cells ⟨[.iface 132 (.pointer (some a))]⟩ e fr) := by
  have hs := laid_one h none_handles (n := "strconv.ErrSyntax") (d := Rows.laid_strconv_ErrSyntax) (by kernel_rfl)
  have hg : Tryd.prog.globalNamed "strconv.ErrSyntax" = some 4 := by kernel_rfl
  obtain ⟨a, s, hv, hc, _, _⟩ := laid_sentinel (ti := 99) (tp := 132) (te := 134) (ts := 9) (ms := #[("Error", 135)]) (f := ⟨"s", 9, 0, false, "", "errors", 0⟩) hs hg (by kernel_rfl) (by kernel_rfl) errstr (by kernel_rfl) (by kernel_rfl) rfl rfl (by kernel_rfl) (by kernel_rfl) (by kernel_rfl)
  refine ⟨a, spot_of (h := hpOf W) (by rw [cell_hp]; exact hc), ?_⟩
  unfold World.var? at hv
  rw [hg] at hv
  simp only [Option.bind_some] at hv
  cases hb : W.heap[4]? with
  | none => rw [hb] at hv; cases hv
  | some o =>
    rw [hb] at hv
    cases o <;> simp at hv
    rename_i c e fr
    exact ⟨e, fr, by show W.heap[4]? = _; rw [hb, hv]⟩
def tabL : List (Nat × List CV) := [(2, tab0L.map fun z => CV.int .u8 z), (3, tab1L.map fun z => CV.int .u8 z), (1, tab2L.map fun z => CV.int .u64 z), (5, [.ifc 132 (.ptr (6 + 0) 0)]), (4, [.ifc 132 (.ptr (6 + 1) 0)])]
def erN : Nat := 2
theorem tabs_of {W : World} (h : laidMetH Tryd.prog laidL W) : ∃ bs : List Addr, bs.length = erN ∧ ∀ x ∈ tabL, TabAt (σ0 6 bs) (hpOf W) x.1 x.2 := by
  obtain ⟨a0, s0, e0, f0, c0⟩ := err0 h
  obtain ⟨a1, s1, e1, f1, c1⟩ := err1 h
  refine ⟨[a0, a1], rfl, ?_⟩
  intro x hx
  simp only [tabL, List.mem_cons, List.mem_nil_iff, or_false] at hx
  rcases hx with rfl | rfl | rfl | rfl | rfl
  · exact tab0 h _
  · exact tab1 h _
  · exact tab2 h _
  · exact ⟨_, e0, f0, c0, fun i c hc => by
      cases i with
      | zero => cases hc; exact ⟨_, rfl, err_vr (j := 0) rfl s0⟩
      | succ i => cases hc⟩
  · exact ⟨_, e1, f1, c1, fun i c hc => by
      cases i with
      | zero => cases hc; exact ⟨_, rfl, err_vr (j := 1) rfl s1⟩
      | succ i => cases hc⟩
def glN : Nat := 6
end Go.Proofs.YtedklcmdjoojfaaDoor

/-
  What is laid is what the walks of layer 17 ask for; what a few calls answer (live).
-/
set_option linter.unusedSimpArgs false
set_option linter.unusedVariables false
namespace Go.Proofs.YtedklcmdjoojfaaDoor
open Go Go.Hw
open Go.ChangeShapes Go.WideShapes Go.ChangeAt Go.RowKit

theorem g_pow : Tryd.prog.globalNamed "internal/strconv.uint64pow10" = some 1 := by kernel_rfl
theorem g_syn : Tryd.prog.globalNamed "strconv.ErrSyntax" = some 4 := by kernel_rfl
theorem g_rng : Tryd.prog.globalNamed "strconv.ErrRange" = some 5 := by kernel_rfl
theorem one_pow : (laidL.filter fun x => x.1 == "internal/strconv.uint64pow10") = [("internal/strconv.uint64pow10", Rows.laid_internal_strconv_uint64pow10)] := by kernel_rfl
theorem one_syn : (laidL.filter fun x => x.1 == "strconv.ErrSyntax") = [("strconv.ErrSyntax", Rows.laid_strconv_ErrSyntax)] := by kernel_rfl
theorem one_rng : (laidL.filter fun x => x.1 == "strconv.ErrRange") = [("strconv.ErrRange", Rows.laid_strconv_ErrRange)] := by kernel_rfl
theorem pow_data : (Rows.laid_internal_strconv_uint64pow10 : DataW Unit) = Lib.tabData .u64 Lib.pow10Tab := by kernel_rfl
theorem glob_of {W : World} (h : laidMetH Tryd.prog laidL W) (hsh : W.ShapedOpen Tryd.prog) : Glob (hpOf W) := by
  have hp := laid_one h none_handles one_pow
  have hs := laid_one h none_handles one_syn
  have hr := laid_one h none_handles one_rng
  rw [pow_data] at hp
  have tab : Lib.TabIs Tryd.prog W "internal/strconv.uint64pow10" .u64 Lib.pow10Tab := by
    obtain ⟨t, e, n, q1, q2, q3, q4, q5⟩ : ∃ t e n, (Tryd.prog.globals[1]?).map (·.type) = some t ∧ Tryd.prog.underlying t = some (.array n e) ∧ Tryd.prog.underlying e = some (.int .u64) ∧ Tryd.prog.cellsOf e = 1 ∧ Tryd.prog.cellsOf t = n := ⟨106, 80, 20, by kernel_rfl, by kernel_rfl, by kernel_rfl, by kernel_rfl, by kernel_rfl⟩
    exact Lib.tabIs_of_head g_pow q1 q2 q3 q4 q5 hp
  have hvar := tab
  unfold Lib.TabIs at hvar
  refine ⟨fun i z hz => ?_, ?_, ?_, ?_, ?_⟩
  · have hi := lt_of_get hz
    have := World.var?_cell g_pow hvar i
    rw [cell_hp, this]
    simp [hz]
  · unfold World.var? at hvar
    rw [g_pow] at hvar
    simp only [Option.bind_some] at hvar
    cases hb : W.heap[1]? with
    | none => rw [hb] at hvar; cases hvar
    | some o =>
      rw [hb] at hvar
      cases o <;> simp at hvar
      rename_i c e fr
      exact ⟨c.toList, e, fr, hb, by rw [hvar]; simp [pow_len]⟩
  · obtain ⟨a, s, hv, _, _, _⟩ := laid_sentinel (ti := 99) (tp := 132) (te := 134) (ts := 9) (ms := #[("Error", 135)]) (f := ⟨"s", 9, 0, false, "", "errors", 0⟩) hs g_syn (by kernel_rfl) (by kernel_rfl) errstr (by kernel_rfl) (by kernel_rfl) rfl rfl (by kernel_rfl) (by kernel_rfl) (by kernel_rfl)
    exact ⟨_, _, by rw [cell_hp]; have := World.var?_cell g_syn hv 0; simpa using this⟩
  · obtain ⟨a, s, hv, _, _, _⟩ := laid_sentinel (ti := 99) (tp := 132) (te := 134) (ts := 9) (ms := #[("Error", 135)]) (f := ⟨"s", 9, 0, false, "", "errors", 0⟩) hr g_rng (by kernel_rfl) (by kernel_rfl) errstr (by kernel_rfl) (by kernel_rfl) rfl rfl (by kernel_rfl) (by kernel_rfl) (by kernel_rfl)
    exact ⟨_, _, by rw [cell_hp]; have := World.var?_cell g_rng hv 0; simpa using this⟩
  · obtain ⟨m, hm⟩ := cell_of_shapedOpen_int (g := 0) (t := 3) (zero := #[.int .i64 0]) (k := .i64) hsh (of_decide_eq_true (by kernel_rfl)) (by kernel_rfl) (by kernel_rfl) (by kernel_rfl) (by kernel_rfl) (by kernel_rfl)
    exact ⟨m, hm⟩

set_option maxRecDepth 100000 in
theorem live_reckoned : Ix.runC Tryd.prog glN 1000000 1000 8 [] (Ix.H0 glN erN tabL) (fun y _ => Ix.CV.eq y (.bool true)) = true := by kernel_rfl
theorem tab_ext {σ : Ix.Sig} {h h' : Hp} {g : Nat} {cs : List Ix.CV} (H : Ix.TabAt σ h g cs) (he : Ext none' h h') : Ix.TabAt σ h' g cs := by
  obtain ⟨vs, e, fr, h1, h2⟩ := H
  exact ⟨vs, e, fr, he _ _ h1 (fun e => e), h2⟩
/-- the variables, as they are laid -/
def Laid (h : Hp) : Prop := ∃ bs : List Addr, bs.length = erN ∧ ∀ x ∈ tabL, Ix.TabAt (Ix.σ0 glN bs) h x.1 x.2
theorem Laid.ext {h h' : Hp} (H : Laid h) (he : Ext none' h h') : Laid h' := let ⟨bs, h1, h2⟩ := H; ⟨bs, h1, fun x hx => tab_ext (h2 x hx) he⟩
/-- the given variables' text gives them -/
theorem laid_of {W : World} (h : laidMetH Tryd.prog laidL W) : Laid (hpOf W) := tabs_of h
theorem c_live {h : Hp} {K : Bool → Hp → Prop} (L : Laid h) (hK : ∀ h', Ext none' h h' → K true h') : C8 h K := by
  obtain ⟨bs, hb, ht⟩ := L
  unfold C8
  exact (Ix.closed (bs := bs) follows_mixed (by kernel_rfl) live_reckoned hb ht (K := fun v h' => v = .bool true ∧ Ext none' h h') fun h' he => ⟨rfl, he⟩).mono fun v h' ⟨e, he⟩ => by subst e; exact hK h' he
end Go.Proofs.YtedklcmdjoojfaaDoor

/-
  Books begun; lent lists read; what the second form's bound gives (OcM and OcU, over this seat's texts).
-/
set_option linter.unusedSimpArgs false
set_option linter.unusedVariables false
namespace Go.Proofs.YtedklcmdjoojfaaDoor
open Go Go.Hw

theorem stk {L M : List Asn} {h : Hp} {b k : Nat} {T : TypeId} {cs : List Value} {v : Value} {F : Hp → Prop} (hs : Sat (L ++ M) h) (j : Nat) (hj : M[j]? = some (row b T cs)) (hk : k < cs.length) (hp : plain v = true)
    (hF : ∀ h', Sat (L ++ M.set j (row b T (cs.set k v))) h' → F h') : Hw.st h ((bk b).add k) v F := by
  rw [add_bk]; exact hs.st j hj hk hp hF
theorem book_new {L : List Asn} {h : Hp} {b : Nat} (hs : Sat L h) (hb : h b = none) : Sat (L ++ [bookA b []]) (upd h b (.cells ⟨[.slice none 0 0, .slice none 0 0]⟩ 38 (0, 0))) := by
  have h0 : Sat (L ++ []) h := by simpa using hs
  have h3 := ((h0.new hb (.cells ⟨[.slice none 0 0, .slice none 0 0]⟩ 38 (0, 0))).addNil 24 1).addNil 9 1
  have h4 := Sat.close (L := L ++ [row b 38 [.slice none 0 0, .slice none 0 0], Hw.own 24 1 ⟨none, 0, 0⟩ [], Hw.own 9 1 ⟨none, 0, 0⟩ []]) (M := []) (by simpa [row] using h3)
  have h5 : Sat (L ++ [row b 38 [.slice none 0 0, .slice none 0 0], Hw.own 24 1 ⟨none, 0, 0⟩ [], Hw.own 9 1 ⟨none, 0, 0⟩ [], star []]) (upd h b (.cells ⟨[.slice none 0 0, .slice none 0 0]⟩ 38 (0, 0))) := by simpa using h4
  exact Sat.ex (A := fun p : Sl × Sl => star [row b 38 [p.1.v, p.2.v], Hw.own 24 1 p.1 (([] : List Ent).map fun e => e.1.v), Hw.own 9 1 p.2 (([] : List Ent).map fun e => .string ⟨⟨e.2⟩⟩), star (([] : List Ent).map ownB)]) (⟨none, 0, 0⟩, ⟨none, 0, 0⟩) h5.close

theorem lent_rdb {h : Hp} {p : Option Addr} {l : List UInt8} (ho : Own h 5 1 ⟨p, l.length + 2, l.length + 2⟩ (bc (l ++ [71, 72]))) : RdB h ⟨p, l.length, l.length + 2⟩ l := by
  refine ⟨rfl, by simp, ?_⟩
  have := ho.rdb.r.take l.length
  rw [← bc_take] at this
  simpa using this
theorem putL_len (n : Nat) (w : Int) : (putL n w).length ≤ 8 := by
  unfold putL
  split
  · simp
  · rename_i h
    rw [be_len]
    omega
theorem bulk_one {H : Type} (d : DataW H) : 1 ≤ Rows.uptoBulk d := by
  cases d with
  | lit l => cases l <;> simp [Rows.uptoBulk]
  | _ => simp [Rows.uptoBulk]
theorem bulk_in {H : Type} {d : DataW H} {l : List (DataW H)} (h : d ∈ l) : Rows.uptoBulk d ≤ Rows.uptoBulkAll l := by
  induction l with
  | nil => cases h
  | cons x r ih =>
    simp only [Rows.uptoBulkAll]
    rcases List.mem_cons.1 h with e | e
    · subst e; omega
    · have := ih e; omega
theorem bulk_len {H : Type} (l : List (DataW H)) : l.length ≤ Rows.uptoBulkAll l := by
  induction l with
  | nil => simp [Rows.uptoBulkAll]
  | cons x r ih => have := bulk_one x; simp only [Rows.uptoBulkAll, List.length_cons]; omega
theorem bulk_slice {H : Type} (e s : List (DataW H)) : e.length ≤ Rows.uptoBulk (.slice e s) := by
  have := bulk_len e
  simp only [Rows.uptoBulk]; omega
theorem bulk_str {H : Type} (b : List UInt8) : b.length ≤ Rows.uptoBulk (DataW.lit (H := H) (.string b)) := by simp [Rows.uptoBulk]
theorem bulk_all {H : Type} {l : List (DataW H)} (hk : Rows.uptoSmall H l = true) {d : DataW H} (hd : d ∈ l) : Rows.uptoBulk d ≤ 1048576 := Nat.le_trans (bulk_in hd) (of_decide_eq_true hk)
end Go.Proofs.YtedklcmdjoojfaaDoor

/-
  Packets and choices that a law is handed: opened.
-/
set_option linter.unusedSimpArgs false
set_option linter.unusedVariables false
namespace Go.Proofs.YtedklcmdjoojfaaDoor
open Go Go.Hw
open Go.ChangeShapes Go.WideShapes Go.ChangeAt Go.RowKit

theorem optB_len {o : Opt} {b : Nat} (h : o.1.size + 3 ≤ b) (hv : o.2 ≤ 9223372036854775807) : (optB o).length ≤ 8 * b := by
  have hs : o.1.size = o.1.data.toList.length := by show o.1.data.size = _; simp
  have := dec_lt 19 o.2.toNat (by omega)
  simp only [optB, List.length_append, List.length_cons, List.length_nil]
  omega
theorem optsB_bulk {H : Type} : ∀ (os : List Opt) (ds : List (DataW H)), os.length = ds.length → (∀ (i : Nat) o d, os[i]? = some o → ds[i]? = some d → o.1.size + 3 ≤ Rows.uptoBulk d ∧ o.2 ≤ 9223372036854775807) → (optsB os).length ≤ 8 * Rows.uptoBulkAll ds
  | [], ds, _, _ => by simp [optsB]
  | o :: os, d :: ds, hl, h => by
    have h1 := h 0 o d rfl rfl
    have h2 := optsB_bulk os ds (by simpa using hl) fun i o' d' ho hd => h (i + 1) o' d' ho hd
    have h3 := optB_len h1.1 h1.2
    have e : optsB (o :: os) = optB o ++ optsB os := rfl
    rw [e, List.length_append]
    simp only [Rows.uptoBulkAll]
    omega

section
variable {H : Type} {enc : TypeId × Value → H}
set_option maxRecDepth 100000 in
theorem choice_one {W : World} {sp : Nat → Bool} {held : Bool} {n : Nat} {cs : List Value} {y : DataW H × List MemPlace} (hf : DataW.trod enc Tryd.prog W 0 sp held n 56 cs = some y) :
    ∃ o : Opt, cs = oc o ∧ o.1.size + 3 ≤ Rows.uptoBulk y.1 ∧ -9223372036854775808 ≤ o.2 ∧ o.2 ≤ 9223372036854775807 := by
  have hu : Tryd.prog.underlying 56 = some (.struct #[.mk "Name" 9 0 false "" "" 0, .mk "Value" 3 1 false "" "" 16]) := by kernel_rfl
  obtain ⟨xs, m, _, rfl, hl, hxl, hx⟩ := DataW.trod_struct hu hf
  rw [ch_a] at hl
  have hxl : xs.length = 2 := hxl
  match cs, hl with
  | [u0, u1], _ =>
    match xs, hxl with
    | [y0, y1], _ =>
      have g0 := hx 0 _ rfl
      have g1 := hx 1 _ rfl
      simp only [show Tryd.prog.cellsOf 9 = 1 from by kernel_rfl, show Tryd.prog.cellsOf 3 = 1 from by kernel_rfl, List.drop_zero, List.drop_succ_cons, List.take_succ_cons, List.take_zero, List.getElem?_cons_zero, List.getElem?_cons_succ] at g0 g1
      obtain ⟨s, e0, d0, _⟩ := DataW.trod_string (by kernel_rfl) g0
      obtain ⟨v, e1, d1, hw⟩ := DataW.trod_int (k := .i64) (by kernel_rfl) g1
      cases e0; cases e1
      have hw := wfb hw
      simp [IntKind.min, IntKind.max, IntKind.signed, IntKind.bits] at hw
      refine ⟨(s, v), rfl, ?_, hw.1, hw.2⟩
      rw [d0, d1]
      have hs : s.size = s.data.toList.length := by show s.data.size = _; simp
      simp only [List.map_cons, List.map_nil, Rows.uptoBulk, Rows.uptoBulkAll]
      omega
theorem choices_core {W : World} {held : Bool} {n : Nat} {cs : List Value} {y : DataW H × List MemPlace} (hf : DataW.trod enc Tryd.prog W 0 (fun _ => true) held n 23 cs = some y) :
    ∃ (s : Sl) (os : List Opt), cs = [s.v] ∧ RdO (hpOf W) s os ∧ os.length ≤ Rows.uptoBulk y.1 ∧ (optsB os).length ≤ 8 * Rows.uptoBulk y.1 ∧ (s.c = 0 ∨ ∃ elems spare, y.1 = .slice elems spare ∧ elems.length + spare.length = s.c) := by
  rcases DataW.trod_slice (e := 56) (by kernel_rfl) hf with ⟨h0, hx⟩ | ⟨a, len, cap, elems, rest, m, _, h1, hx, _, hl, _, hlen, hel, hsp, _⟩
  · exact ⟨⟨none, 0, 0⟩, [], h0, ⟨rfl, Nat.le_refl _, by intro i v hi; simp at hi⟩, by simp, by simp [optsB], .inl rfl⟩
  · rw [ch_a] at hel
    have each : ∀ i ∈ List.range len, ∃ o : Opt, (∃ d, (elems.map (·.1))[i]? = some d ∧ o.1.size + 3 ≤ Rows.uptoBulk d ∧ o.2 ≤ 9223372036854775807) ∧ cell (hpOf W) (a.add (i * 2)) = some (.string o.1) ∧ cell (hpOf W) (a.add (i * 2 + 1)) = some (.int .i64 o.2) := by
      intro i hi
      have hi := List.mem_range.1 hi
      have h2 := hel i hi
      rw [List.getElem?_eq_getElem (by omega)] at h2
      obtain ⟨cs, h3, h4⟩ := Option.bind_eq_some_iff.1 h2
      obtain ⟨o, rfl, hb, _, hv⟩ := choice_one h4
      have c := (World.cells?_some h3).2.2
      have c0 := c 0 (by omega)
      have c1 := c 1 (by omega)
      rw [add_add] at c0 c1
      refine ⟨o, ⟨elems[i].1, by rw [List.getElem?_map, List.getElem?_eq_getElem (by omega)]; rfl, hb, hv⟩, ?_, ?_⟩
      · rw [cell_hp]; exact c0
      · rw [cell_hp]; exact c1
    obtain ⟨os, hol, ho⟩ := pick_all (fun (i : Nat) (o : Opt) => (∃ d, (elems.map (·.1))[i]? = some d ∧ o.1.size + 3 ≤ Rows.uptoBulk d ∧ o.2 ≤ 9223372036854775807) ∧ cell (hpOf W) (a.add (i * 2)) = some (.string o.1) ∧ cell (hpOf W) (a.add (i * 2 + 1)) = some (.int .i64 o.2)) each
    simp only [List.length_range] at hol
    have hox : ∀ (i : Nat) o, os[i]? = some o → (∃ d, (elems.map (·.1))[i]? = some d ∧ o.1.size + 3 ≤ Rows.uptoBulk d ∧ o.2 ≤ 9223372036854775807) ∧ cell (hpOf W) (a.add (i * 2)) = some (.string o.1) ∧ cell (hpOf W) (a.add (i * 2 + 1)) = some (.int .i64 o.2) := by
      intro i o hi
      have hil : i < len := by rw [← hol]; exact (List.getElem?_eq_some_iff.1 hi).1
      obtain ⟨o', h1, h2⟩ := ho i i (by simp [hil])
      rw [hi] at h1
      cases h1
      exact h2
    have hb := optsB_bulk os (elems.map (·.1)) (by simp; omega) fun i o d h1 h2 => by
      obtain ⟨⟨d', h3, h4⟩, _⟩ := hox i o h1
      rw [h2] at h3
      cases h3
      exact h4
    have hsl := (hsp rfl).1
    refine ⟨⟨some a, len, cap⟩, os, h1, ⟨hol.symm, hl, ?_⟩, ?_, ?_, ?_⟩
    · intro i v hi
      have hlt := (List.getElem?_eq_some_iff.1 hi).1
      rw [oc_len] at hlt
      obtain ⟨j, hj⟩ : ∃ j, i = j * 2 ∨ i = j * 2 + 1 := ⟨i / 2, by omega⟩
      have hk : j < os.length := by omega
      obtain ⟨g1, g2⟩ := oc_get os j hk
      obtain ⟨_, k1, k2⟩ := hox j _ (List.getElem?_eq_getElem hk)
      refine ⟨a, rfl, ?_⟩
      rcases hj with rfl | rfl
      · rw [g1] at hi
        cases hi
        exact k1
      · rw [g2] at hi
        cases hi
        exact k2
    · rw [hx]
      have := bulk_slice (H := H) (elems.map (·.1)) (rest.map (·.1))
      simp only [List.length_map] at this
      dsimp only
      omega
    · rw [hx]
      simp only [Rows.uptoBulk]
      omega
    · refine .inr ⟨_, _, by rw [hx], ?_⟩
      simp only [List.length_map]
      omega
set_option maxRecDepth 100000 in
/-- a packet -/
theorem packet_open {r : Reach} {W : World} {b0 : Nat} {held : Bool} {v : Value} {d : DataW H} {ps : List MemPlace} (hwt : ∀ n ∈ d.weights Tryd.prog 26, n ≤ reachBytes) (hval : Value.okWide Tryd.prog W r b0 26 v) (hd : DataW.Trod enc Tryd.prog W 0 (fun _ => true) held 26 v d ps) :
    ∃ (op : Int) (file mode : ByteArray) (x3 : Sl) (block : Int) (x5 : Sl) (code : Int) (text : ByteArray) (os : List Opt) (data : List UInt8), v = .agg ⟨pkL op file mode x3 block x5 code text⟩ ∧ RdO (hpOf W) x3 os ∧ RdB (hpOf W) x5 data ∧
      os.length ≤ Rows.uptoBulk d ∧ file.size + mode.size + text.size + (optsB os).length + data.length ≤ 10 * Rows.uptoBulk d ∧
      (os.length ≤ 5864062014635 ∧ data.length ≤ 140737488351232 ∧ file.size ≤ 140737488351232 ∧ text.size ≤ 140737488351232) ∧
      (-9223372036854775808 ≤ op ∧ op ≤ 9223372036854775807) ∧ (-9223372036854775808 ≤ block ∧ block ≤ 9223372036854775807) ∧ (-9223372036854775808 ≤ code ∧ code ≤ 9223372036854775807) := by
  have hu : Tryd.prog.underlying 26 = some (.struct #[.mk "Op" 3 0 false "" "" 0, .mk "File" 9 1 false "" "" 8, .mk "Mode" 9 2 false "" "" 24, .mk "Choices" 23 3 false "" "" 40,
    .mk "Block" 3 4 false "" "" 64, .mk "Data" 24 5 false "" "" 72, .mk "Code" 3 6 false "" "" 96, .mk "Text" 9 7 false "" "" 104]) := by kernel_rfl
  obtain ⟨⟨cs⟩, rfl, hsz⟩ := okWide_struct hu hval
  obtain ⟨fuel, hf⟩ := hd
  replace hf : DataW.trod enc Tryd.prog W 0 (fun _ => true) held fuel 26 cs = some (d, ps) := hf
  obtain ⟨xs, m, _, hxe, hl, hxl, hx⟩ := DataW.trod_struct hu hf
  rw [show Tryd.prog.cellsOf 26 = 8 from by kernel_rfl] at hl
  have hxl : xs.length = 8 := hxl
  obtain ⟨rfl, rfl⟩ := Prod.mk.inj hxe
  match cs, hl with
  | [u0, u1, u2, u3, u4, u5, u6, u7], _ =>
    match xs, hxl with
    | [y0, y1, y2, y3, y4, y5, y6, y7], _ =>
      have g0 := hx 0 _ rfl
      have g1 := hx 1 _ rfl
      have g2 := hx 2 _ rfl
      have g3 := hx 3 _ rfl
      have g4 := hx 4 _ rfl
      have g5 := hx 5 _ rfl
      have g6 := hx 6 _ rfl
      have g7 := hx 7 _ rfl
      simp only [show Tryd.prog.cellsOf 9 = 1 from by kernel_rfl, show Tryd.prog.cellsOf 3 = 1 from by kernel_rfl, show Tryd.prog.cellsOf 24 = 1 from by kernel_rfl, show Tryd.prog.cellsOf 23 = 1 from by kernel_rfl,
        List.drop_zero, List.drop_succ_cons, List.take_succ_cons, List.take_zero, List.getElem?_cons_zero, List.getElem?_cons_succ] at g0 g1 g2 g3 g4 g5 g6 g7
      obtain ⟨op, e0, _, w0⟩ := DataW.trod_int (k := .i64) (by kernel_rfl) g0
      obtain ⟨file, e1, d1, _⟩ := DataW.trod_string (by kernel_rfl) g1
      obtain ⟨mode, e2, d2, _⟩ := DataW.trod_string (by kernel_rfl) g2
      obtain ⟨x3, os, e3, ho, hol, hob, hoc⟩ := choices_core g3
      obtain ⟨block, e4, _, w4⟩ := DataW.trod_int (k := .i64) (by kernel_rfl) g4
      obtain ⟨x5, data, e5, hd5, hcap⟩ := bytes_core (e := 5) (by kernel_rfl) (by kernel_rfl) (by kernel_rfl) g5
      obtain ⟨code, e6, _, w6⟩ := DataW.trod_int (k := .i64) (by kernel_rfl) g6
      obtain ⟨text, e7, d7, _⟩ := DataW.trod_string (by kernel_rfl) g7
      cases e0; cases e1; cases e2; cases e3; cases e4; cases e5; cases e6; cases e7
      have w0 := wfb w0
      have w4 := wfb w4
      have w6 := wfb w6
      simp [IntKind.min, IntKind.max, IntKind.signed, IntKind.bits] at w0 w4 w6
      have hs1 : file.size = file.data.toList.length := by show file.data.size = _; simp
      have hs2 : mode.size = mode.data.toList.length := by show mode.data.size = _; simp
      have hs7 : text.size = text.data.toList.length := by show text.data.size = _; simp
      have hdl : data.length ≤ Rows.uptoBulk y5.1 := by
        have hn := hd5.n
        have hc := hd5.c
        rcases hcap with h | ⟨el, sp, hd, hls⟩
        · omega
        · rw [hd]
          have b1 := bulk_len el
          have b2 := bulk_len sp
          simp only [Rows.uptoBulk]
          omega
      simp only [DataW.weights, hu, List.map_cons, List.map_nil, DataW.weightsEach, List.mem_append] at hwt
      refine ⟨op, file, mode, x3, block, x5, code, text, os, data, rfl, ho, hd5, ?_, ?_, ⟨?_, ?_, ?_, ?_⟩, w0, w4, w6⟩
      · simp only [List.map_cons, List.map_nil, Rows.uptoBulk, Rows.uptoBulkAll]
        omega
      · rw [d1, d2, d7]
        simp only [List.map_cons, List.map_nil, Rows.uptoBulk, Rows.uptoBulkAll]
        omega
      · have hn := ho.n
        have hc := ho.c
        rcases hoc with h | ⟨el, sp, hd, hls⟩
        · omega
        · have := hwt ((el.length + sp.length) * Tryd.prog.bytesOf 56) (by
            rw [hd]; simp only [DataW.weights, show Tryd.prog.underlying 23 = some (.slice 56) from by kernel_rfl]; simp)
          rw [ch_b] at this
          unfold reachBytes at this
          omega
      · have hn := hd5.n
        have hc := hd5.c
        rcases hcap with h | ⟨el, sp, hd, hls⟩
        · omega
        · have := hwt ((el.length + sp.length) * Tryd.prog.bytesOf 5) (by
            rw [hd]; simp only [DataW.weights, show Tryd.prog.underlying 24 = some (.slice 5) from by kernel_rfl]; simp)
          rw [y_b] at this
          unfold reachBytes at this
          omega
      · have := hwt file.data.toList.length (by rw [d1]; simp [DataW.weights])
        unfold reachBytes at this
        omega
      · have := hwt text.data.toList.length (by rw [d7]; simp [DataW.weights])
        unfold reachBytes at this
        omega
end
end Go.Proofs.YtedklcmdjoojfaaDoor

set_option linter.unusedVariables false
set_option maxRecDepth 100000
namespace Go.Proofs.YtedklcmdjoojfaaDoor
open Go Go.Hw
/-! ### 4 slipway/slipwaylaw17.TftpEncodes -/
noncomputable def B4 : Code := match Tryd.f4.body with | some c => c | none => .skip
def N4 (x0_0 : Int) (x0_1 : ByteArray) (x0_2 : ByteArray) (x0_3 : Sl) (x0_4 : Int) (x0_5 : Sl) (x0_6 : Int) (x0_7 : ByteArray) (x1_0 : Int) (x1_1 : ByteArray) (x1_2 : ByteArray) (x1_3 : Sl) (x1_4 : Int) (x1_5 : Sl) (x1_6 : Int) (x1_7 : ByteArray) (h : Hp) (K : Bool → Hp → Prop) : Prop :=
  nw h (.cells ⟨[.int .i64 x0_0, .string x0_1, .string x0_2, .slice x0_3.p x0_3.n x0_3.c, .int .i64 x0_4, .slice x0_5.p x0_5.n x0_5.c, .int .i64 x0_6, .string x0_7]⟩ 26) fun b0 h0 =>
  nw h0 (.cells ⟨[.int .i64 x1_0, .string x1_1, .string x1_2, .slice x1_3.p x1_3.n x1_3.c, .int .i64 x1_4, .slice x1_5.p x1_5.n x1_5.c, .int .i64 x1_6, .string x1_7]⟩ 26) fun b1 h1 =>
  C8 h1 fun b2 h2 =>
  bif (!b2) then
    K false h2
  else
    xI .i64 (cell h2 (bk b0)) fun n0 =>
    xS (cell h2 ((bk b0).add 1)) fun s0 =>
    xS (cell h2 ((bk b0).add 2)) fun s1 =>
    xL (cell h2 ((bk b0).add 3)) fun s2 =>
    xI .i64 (cell h2 ((bk b0).add 4)) fun n1 =>
    xL (cell h2 ((bk b0).add 5)) fun s3 =>
    xI .i64 (cell h2 ((bk b0).add 6)) fun n2 =>
    xS (cell h2 ((bk b0).add 7)) fun s4 =>
    nw h2 (.cells ⟨[.int .i64 0, .string (⟨⟨[]⟩⟩ : ByteArray), .string (⟨⟨[]⟩⟩ : ByteArray), .slice none 0 0, .int .i64 0, .slice none 0 0, .int .i64 0, .string (⟨⟨[]⟩⟩ : ByteArray)]⟩ 26) fun b3 h3 =>
    st h3 (bk b3) (.int .i64 n0) fun h4 =>
    st h4 ((bk b3).add 1) (.string s0) fun h5 =>
    st h5 ((bk b3).add 2) (.string s1) fun h6 =>
    st h6 ((bk b3).add 3) (.slice s2.p s2.n s2.c) fun h7 =>
    st h7 ((bk b3).add 4) (.int .i64 n1) fun h8 =>
    st h8 ((bk b3).add 5) (.slice s3.p s3.n s3.c) fun h9 =>
    st h9 ((bk b3).add 6) (.int .i64 n2) fun h10 =>
    st h10 ((bk b3).add 7) (.string s4) fun h11 =>
    xL (cell h11 ((bk b0).add 3)) fun s5 =>
    C9 s5 h11 fun s6 h12 =>
    st h12 ((bk b3).add 3) (.slice s6.p s6.n s6.c) fun h13 =>
    xL (cell h13 ((bk b0).add 5)) fun s7 =>
    C10 s7 h13 fun s8 h14 =>
    st h14 ((bk b3).add 5) (.slice s8.p s8.n s8.c) fun h15 =>
    xI .i64 (cell h15 (bk b3)) fun n3 =>
    xS (cell h15 ((bk b3).add 1)) fun s9 =>
    xS (cell h15 ((bk b3).add 2)) fun s10 =>
    xL (cell h15 ((bk b3).add 3)) fun s11 =>
    xI .i64 (cell h15 ((bk b3).add 4)) fun n4 =>
    xL (cell h15 ((bk b3).add 5)) fun s12 =>
    xI .i64 (cell h15 ((bk b3).add 6)) fun n5 =>
    xS (cell h15 ((bk b3).add 7)) fun s13 =>
    C11 n3 s9 s10 s11 n4 s12 n5 s13 h15 fun s14 n6 h16 =>
    xI .i64 (cell h16 (bk b1)) fun n7 =>
    xS (cell h16 ((bk b1).add 1)) fun s15 =>
    xS (cell h16 ((bk b1).add 2)) fun s16 =>
    xL (cell h16 ((bk b1).add 3)) fun s17 =>
    xI .i64 (cell h16 ((bk b1).add 4)) fun n8 =>
    xL (cell h16 ((bk b1).add 5)) fun s18 =>
    xI .i64 (cell h16 ((bk b1).add 6)) fun n9 =>
    xS (cell h16 ((bk b1).add 7)) fun s19 =>
    C11 n7 s15 s16 s17 n8 s18 n9 s19 h16 fun s20 n10 h17 =>
    xI .i64 (cell h17 (bk b3)) fun n11 =>
    xS (cell h17 ((bk b3).add 1)) fun s21 =>
    xS (cell h17 ((bk b3).add 2)) fun s22 =>
    xL (cell h17 ((bk b3).add 3)) fun s23 =>
    xI .i64 (cell h17 ((bk b3).add 4)) fun n12 =>
    xL (cell h17 ((bk b3).add 5)) fun s24 =>
    xI .i64 (cell h17 ((bk b3).add 6)) fun n13 =>
    xS (cell h17 ((bk b3).add 7)) fun s25 =>
    C11 n11 s21 s22 s23 n12 s24 n13 s25 h17 fun s26 n14 h18 =>
    xL (cell h18 ((bk b3).add 3)) fun s27 =>
    xL (cell h18 ((bk b0).add 3)) fun s28 =>
    C12 s27 s28 h18 fun b4 h19 =>
    xL (cell h19 ((bk b3).add 5)) fun s29 =>
    xL (cell h19 ((bk b0).add 5)) fun s30 =>
    C13 s29 s30 h19 fun b5 h20 =>
    xI .i64 (cell h20 (bk b0)) fun n15 =>
    xS (cell h20 ((bk b0).add 1)) fun s31 =>
    xS (cell h20 ((bk b0).add 2)) fun s32 =>
    xL (cell h20 ((bk b0).add 3)) fun s33 =>
    xI .i64 (cell h20 ((bk b0).add 4)) fun n16 =>
    xL (cell h20 ((bk b0).add 5)) fun s34 =>
    xI .i64 (cell h20 ((bk b0).add 6)) fun n17 =>
    xS (cell h20 ((bk b0).add 7)) fun s35 =>
    C14 n15 s31 s32 s33 n16 s34 n17 s35 h20 fun s36 n18 h21 =>
    xI .i64 (cell h21 (bk b1)) fun n19 =>
    xS (cell h21 ((bk b1).add 1)) fun s37 =>
    xS (cell h21 ((bk b1).add 2)) fun s38 =>
    xL (cell h21 ((bk b1).add 3)) fun s39 =>
    xI .i64 (cell h21 ((bk b1).add 4)) fun n20 =>
    xL (cell h21 ((bk b1).add 5)) fun s40 =>
    xI .i64 (cell h21 ((bk b1).add 6)) fun n21 =>
    xS (cell h21 ((bk b1).add 7)) fun s41 =>
    C14 n19 s37 s38 s39 n20 s40 n21 s41 h21 fun s42 n22 h22 =>
    bif (!b4) then
      K false h22
    else
      bif (!b5) then
        K false h22
      else
        b2s h22 s14.p s14.n fun s43 =>
        b2s h22 s36.p s36.n fun s44 =>
        bif (!(s43.toList == s44.toList)) then
          K false h22
        else
          b2s h22 s20.p s20.n fun s45 =>
          b2s h22 s42.p s42.n fun s46 =>
          bif (!(s45.toList == s46.toList)) then
            K false h22
          else
            b2s h22 s26.p s26.n fun s47 =>
            b2s h22 s36.p s36.n fun s48 =>
            bif (!(s47.toList == s48.toList)) then
              K false h22
            else
              bif (n6 != n18) then
                K false h22
              else
                bif (n10 != n22) then
                  K false h22
                else
                  bif (n14 != n18) then
                    K false h22
                  else
                    nw h22 (.cells ⟨[.slice none 0 0, .slice none 0 0]⟩ 38) fun b6 h23 =>
                    C15 (some (bk b6)) s14 h23 fun h24 =>
                    C15 (some (bk b6)) s20 h24 fun h25 =>
                    C15 (some (bk b6)) s26 h25 fun h26 =>
                    C16 (some (bk b6)) h26 fun b7 h27 =>
                    K b7 h27
theorem S4 {x0_0 : Int} {x0_1 : ByteArray} {x0_2 : ByteArray} {x0_3 : Sl} {x0_4 : Int} {x0_5 : Sl} {x0_6 : Int} {x0_7 : ByteArray} {x1_0 : Int} {x1_1 : ByteArray} {x1_2 : ByteArray} {x1_3 : Sl} {x1_4 : Int} {x1_5 : Sl} {x1_6 : Int} {x1_7 : ByteArray} {h : Hp} {K : Bool → Hp → Prop} (hn : N4 x0_0 x0_1 x0_2 x0_3 x0_4 x0_5 x0_6 x0_7 x1_0 x1_1 x1_2 x1_3 x1_4 x1_5 x1_6 x1_7 h K) : C4 x0_0 x0_1 x0_2 x0_3 x0_4 x0_5 x0_6 x0_7 x1_0 x1_1 x1_2 x1_3 x1_4 x1_5 x1_6 x1_7 h K := by
  refine calls_of_D Tryd.func4 (c := B4) rfl (by kernel_rfl) ?_
  refine den_sound hE hm _ .leaf _ _ _ (annOk_leaf) ?_
  refine cast ?_ hn
  kernel_rfl
end Go.Proofs.YtedklcmdjoojfaaDoor
