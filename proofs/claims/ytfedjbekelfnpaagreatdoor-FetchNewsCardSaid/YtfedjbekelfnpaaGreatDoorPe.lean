/-
  A closed call, reckoned: it gives what the small machine gives, and leaves all that was there.
-/
import Derived.Test.YtfedjbekelfnpaaGreatDoorPd
import Derived.Test.YtfedjbekelfnpaaGreatDoorPc
import Derived.Test.YtfedjbekelfnpaaGreatDoorRows
import Derived.Test.YtfedjbekelfnpaaGreatDoorTie
import Derived.Test.YtfedjbekelfnpaaGreatDoorCards
import Derived.Stop.LaidErr
import Derived.Lib.LaidTab
import Derived.Shelf.Vars
import Derived.SevenTiedAt
set_option linter.unusedSimpArgs false
set_option linter.unusedVariables false
namespace Go.Ix
open Go Go.Hw

def H0 (G e : Nat) : List (Nat × List CV) → CH
  | [] => ⟨.leaf, G + e⟩
  | (g, cs) :: l => ⟨(H0 G e l).t.set g (some (.tab cs)), G + e⟩
/-- the variables, and what they point to -/
def σ0 (G : Nat) (bs : List Addr) : Sig := fun b => if b < G then some ⟨b, 0, 0, 0⟩ else match bs[b - G]? with
  | some a => some ⟨a.block, a.off, 0, 0⟩
  | none => none
theorem H0_get {G e : Nat} : ∀ {l : List (Nat × List CV)} {b : Nat} {o : CO}, (H0 G e l).t.get b = some o → ∃ cs, (b, cs) ∈ l ∧ o = .tab cs := by
  intro l
  induction l with
  | nil => intro b o h; cases h
  | cons x l ih =>
    intro b o h
    obtain ⟨g, cs⟩ := x
    simp only [H0, T.get_set] at h
    split at h
    · rename_i e; subst e; cases h; exact ⟨cs, List.mem_cons_self .., rfl⟩
    · obtain ⟨c, h1, h2⟩ := ih h; exact ⟨c, List.mem_cons_of_mem _ h1, h2⟩
theorem H0_nx {G e : Nat} : ∀ {l : List (Nat × List CV)}, (H0 G e l).nx = G + e
  | [] => rfl
  | (_, _) :: _ => rfl
/-- a table as the memory has it -/
def TabAt (σ : Sig) (h : Hp) (g : Nat) (cs : List CV) : Prop := ∃ (vs : List Value) (e : TypeId) (fr : Nat × Nat), h g = some (.cells ⟨vs⟩ e fr) ∧ ∀ (i : Nat) (c : CV), cs[i]? = some c → ∃ v, vs[i]? = some v ∧ VR σ c v
theorem H0_ok {P : Program} {G : Nat} {h : Hp} {l : List (Nat × List CV)} {bs : List Addr} (hg : ∀ x ∈ l, x.1 < G) (ht : ∀ x ∈ l, TabAt (σ0 G bs) h x.1 x.2) : HR P G h (σ0 G bs) (H0 G bs.length l) h := by
  refine ⟨?_, ?_, ?_, fun _ _ h => h, ?_⟩
  · intro b o hb
    obtain ⟨cs, h1, rfl⟩ := H0_get hb
    obtain ⟨vs, e, fr, h2, h3⟩ := ht _ h1
    refine ⟨⟨b, 0, 0, 0⟩, _, by simp [σ0, hg _ h1], h2, ?_⟩
    unfold OR
    refine ⟨vs, e, fr, rfl, fun i c hc => ?_⟩
    obtain ⟨v, h4, h5⟩ := h3 i c hc
    exact ⟨v, by simpa using h4, h5⟩
  · intro b b' o o' p p' g1 g2 hne hp hp'
    obtain ⟨cs, h1, rfl⟩ := H0_get g1
    obtain ⟨cs', h2, rfl⟩ := H0_get g2
    unfold σ0 at hp hp'
    rw [if_pos (hg _ h1)] at hp
    rw [if_pos (hg _ h2)] at hp'
    cases hp; cases hp'; exact hne
  · intro b hb
    rw [H0_nx] at hb
    unfold σ0; rw [if_neg (by omega)]
    rw [List.getElem?_eq_none (by omega)]
  · intro g hgg
    exact ⟨⟨g, 0, 0, 0⟩, by simp [σ0, hgg], rfl, rfl⟩
theorem err_vr {G j t : Nat} {bs : List Addr} {a : Addr} (hj : bs[j]? = some a) (hs : a.spot = none) : VR (σ0 G bs) (.ifc t (.ptr (G + j) 0)) (.iface t (.pointer (some a))) := by
  unfold VR
  refine ⟨_, rfl, ?_⟩
  unfold VR
  refine ⟨⟨a.block, a.off, 0, 0⟩, ?_, ?_⟩
  · unfold σ0
    rw [if_neg (by omega), Nat.add_sub_cancel_left, hj]
  · cases a; simp at hs; subst hs; rfl
theorem spot_of {h : Hp} {a : Addr} {v : Value} (hc : cell h a = some v) : a.spot = none := by
  unfold cell at hc
  split at hc
  · split at hc
    · cases hc
    · rename_i hs; simpa using hs
  · cases hc
/-- a call as it is reckoned -/
def runC (P : Program) (G lf m : Nat) : Call Bool := callX no P G (treeB P G (callX (fun _ => none) P G (tree1 (fun _ => none) P G) lf m)) lf m
/-- a closed call that gives 'true' -/
theorem closed {P : Program} (hm : P.follows .mixedOrders = true) {G e lf m f : Nat} {l : List (Nat × List CV)} (hg : (l.all fun x => Nat.blt x.1 G) = true)
    (hx : runC P G lf m f [] (H0 G e l) (fun y _ => CV.eq y (.bool true)) = true) {h : Hp} {bs : List Addr} (he : bs.length = e) (ht : ∀ x ∈ l, TabAt (σ0 G bs) h x.1 x.2) {K : Value → Hp → Prop}
    (hK : ∀ h', Ext none' h h' → K (.bool true) h') : HCalls P f ⟨[]⟩ h K := by
  have hg' : ∀ x ∈ l, x.1 < G := fun x hx => by have := List.all_eq_true.1 hg x hx; simpa [Nat.blt_eq] using this
  subst he
  refine callX_ok (h0 := h) hm (treeB_ok hm) m f [] _ _ hx (σ0 G bs) h [] (by unfold VRs; rfl) (H0_ok hg' ht) K ?_
  intro σ' y v H' h' hl hv hh' hk
  have := CV.eq_eq _ _ hk; subst this
  unfold VR at hv; subst hv
  exact hK h' fun b o hb _ => hh'.keep b o hb
end Go.Ix

/-
  The frame of the laws: what is laid; a world that meets it; the tables as they are read.
-/
set_option linter.unusedSimpArgs false
set_option linter.unusedVariables false
namespace Go.Proofs.YtfedjbekelfnpaaGreatDoor
open Go Go.Hw Go.Ix
open Go.ChangeShapes Go.WideShapes Go.ChangeAt Go.RowKit

theorem own_knob : ownKnob Tryz.prog.godebug = none := by kernel_rfl
theorem laid_out : laidOutB Tryz.prog = true := by kernel_rfl
theorem follows_mixed : Tryz.prog.follows .mixedOrders = true := by kernel_rfl
/-- the world with the variables as they are laid -/
noncomputable def low : Nat := (World.holding Tryz.prog default ⟨#[], #[], []⟩).heap.size
def rowOf {H : Type} (d : DataW H) : Array Value := match d with
  | .agg l => (l.flatMap fun
    | .lit (.int k n) => [Value.int k n]
    | .agg m => m.map fun | .lit (.int k n) => Value.int k n | _ => .nilIface
    | _ => []).toArray
  | _ => #[]
def layAt (w : World) (g : Nat) (cs : Array Value) : World :=
  { w with heap := w.heap.modify g fun
      | .cells _ t frozen => .cells cs t frozen
      | o => o }
noncomputable def laidWorld (os : Os) : World :=
  layAt (layAt (layAt (layAt (layAt (layAt (layAt (World.holding Tryz.prog os ⟨#[.cells #[.string ⟨⟨[118, 97, 108, 117, 101, 32, 111, 117, 116, 32, 111, 102, 32, 114, 97, 110, 103, 101]⟩⟩] 256, .cells #[.string ⟨⟨[105, 110, 118, 97, 108, 105, 100, 32, 115, 121, 110, 116, 97, 120]⟩⟩] 256, .cells #[.string ⟨⟨[104, 111, 108, 100, 58, 32, 110, 111, 32, 114, 111, 111, 109]⟩⟩] 256, .cells #[.string ⟨⟨[104, 111, 108, 100, 58, 32, 115, 101, 97, 108, 101, 100]⟩⟩] 256], #[], []⟩) 6 (rowOf (H := Unit) Rows.laid_math_bits_deBruijn32tab)) 7 (rowOf (H := Unit) Rows.laid_math_bits_deBruijn64tab)) 3 (rowOf (H := Unit) Rows.laid_internal_strconv_uint64pow10)) 5 #[.iface 254 (.pointer (some ⟨low + 0, 0, none⟩))]) 4 #[.iface 254 (.pointer (some ⟨low + 1, 0, none⟩))]) 1 #[.iface 254 (.pointer (some ⟨low + 2, 0, none⟩))]) 0 #[.iface 254 (.pointer (some ⟨low + 3, 0, none⟩))]
abbrev laidL : List (String × DataW Unit) := Rows.fetchNamesRow.laid
theorem laid_met (os : Os) (args : Array Value) : laidMetH Tryz.prog laidL ((laidWorld os).forCall (fun _ _ => 0) ⟨#[], args, []⟩).memory := by
  have h : laidMet Tryz.prog laidL ((laidWorld os).forCall (fun _ _ => 0) ⟨#[], args, []⟩).memory := laidMet_of_run' 8 (by kernel_rfl) (by kernel_rfl)
  exact h
theorem none_handles : (laidL.filter fun x => x.2.handleName?.isSome) = [] := by kernel_rfl
def tab0L : List Int := [0, 1, 28, 2, 29, 14, 24, 3, 30, 22, 20, 15, 25, 17, 4, 8, 31, 27, 13, 23, 21, 19, 16, 7, 26, 12, 18, 6, 11, 5, 10, 9]
theorem tab0 {W : World} (h : laidMetH Tryz.prog laidL W) (σ : Sig) : TabAt σ (hpOf W) 6 (tab0L.map fun z => CV.int .u8 z) := by
  have hp := laid_one h none_handles (n := "math/bits.deBruijn32tab") (d := Rows.laid_math_bits_deBruijn32tab) (by kernel_rfl)
  rw [show (Rows.laid_math_bits_deBruijn32tab : DataW Unit) = Lib.tabData .u8 tab0L by kernel_rfl] at hp
  have hg : Tryz.prog.globalNamed "math/bits.deBruijn32tab" = some 6 := by kernel_rfl
  have tab : Lib.TabIs Tryz.prog W "math/bits.deBruijn32tab" .u8 tab0L :=
    Lib.tabIs_of_head hg (t := 27) (e := 5) (n := 32) (by kernel_rfl) (by kernel_rfl) (by kernel_rfl) (by kernel_rfl) (by kernel_rfl) hp
  unfold Lib.TabIs World.var? at tab
  rw [hg] at tab
  simp only [Option.bind_some] at tab
  cases hb : W.heap[6]? with
  | none => rw [hb] at tab; cases tab
  | some o =>
    rw [hb] at tab
    cases o <;> simp at tab
    rename_i c e fr
    refine ⟨c.toList, e, fr, hb, fun i x hx => ?_⟩
    rw [List.getElem?_map] at hx
    cases hz : tab0L[i]? with
    | none => rw [hz] at hx; cases hx
    | some z =>
      rw [hz] at hx; cases hx
      refine ⟨.int .u8 z, by rw [tab]; simp [hz], by unfold VR; rfl⟩
def tab1L : List Int := [0, 1, 56, 2, 57, 49, 28, 3, 61, 58, 42, 50, 38, 29, 17, 4, 62, 47, 59, 36, 45, 43, 51, 22, 53, 39, 33, 30, 24, 18, 12, 5, 63, 55, 48, 27, 60, 41, 37, 16, 46, 35, 44, 21, 52, 32, 23, 11, 54, 26, 40, 15, 34, 20, 31, 10, 25, 14, 19, 9, 13, 8, 7, 6]
theorem tab1 {W : World} (h : laidMetH Tryz.prog laidL W) (σ : Sig) : TabAt σ (hpOf W) 7 (tab1L.map fun z => CV.int .u8 z) := by
  have hp := laid_one h none_handles (n := "math/bits.deBruijn64tab") (d := Rows.laid_math_bits_deBruijn64tab) (by kernel_rfl)
  rw [show (Rows.laid_math_bits_deBruijn64tab : DataW Unit) = Lib.tabData .u8 tab1L by kernel_rfl] at hp
  have hg : Tryz.prog.globalNamed "math/bits.deBruijn64tab" = some 7 := by kernel_rfl
  have tab : Lib.TabIs Tryz.prog W "math/bits.deBruijn64tab" .u8 tab1L :=
    Lib.tabIs_of_head hg (t := 137) (e := 5) (n := 64) (by kernel_rfl) (by kernel_rfl) (by kernel_rfl) (by kernel_rfl) (by kernel_rfl) hp
  unfold Lib.TabIs World.var? at tab
  rw [hg] at tab
  simp only [Option.bind_some] at tab
  cases hb : W.heap[7]? with
  | none => rw [hb] at tab; cases tab
  | some o =>
    rw [hb] at tab
    cases o <;> simp at tab
    rename_i c e fr
    refine ⟨c.toList, e, fr, hb, fun i x hx => ?_⟩
    rw [List.getElem?_map] at hx
    cases hz : tab1L[i]? with
    | none => rw [hz] at hx; cases hx
    | some z =>
      rw [hz] at hx; cases hx
      refine ⟨.int .u8 z, by rw [tab]; simp [hz], by unfold VR; rfl⟩
def tab2L : List Int := [1, 10, 100, 1000, 10000, 100000, 1000000, 10000000, 100000000, 1000000000, 10000000000, 100000000000, 1000000000000, 10000000000000, 100000000000000, 1000000000000000, 10000000000000000, 100000000000000000, 1000000000000000000, 10000000000000000000]
theorem tab2 {W : World} (h : laidMetH Tryz.prog laidL W) (σ : Sig) : TabAt σ (hpOf W) 3 (tab2L.map fun z => CV.int .u64 z) := by
  have hp := laid_one h none_handles (n := "internal/strconv.uint64pow10") (d := Rows.laid_internal_strconv_uint64pow10) (by kernel_rfl)
  rw [show (Rows.laid_internal_strconv_uint64pow10 : DataW Unit) = Lib.tabData .u64 tab2L by kernel_rfl] at hp
  have hg : Tryz.prog.globalNamed "internal/strconv.uint64pow10" = some 3 := by kernel_rfl
  have tab : Lib.TabIs Tryz.prog W "internal/strconv.uint64pow10" .u64 tab2L :=
    Lib.tabIs_of_head hg (t := 242) (e := 164) (n := 20) (by kernel_rfl) (by kernel_rfl) (by kernel_rfl) (by kernel_rfl) (by kernel_rfl) hp
  unfold Lib.TabIs World.var? at tab
  rw [hg] at tab
  simp only [Option.bind_some] at tab
  cases hb : W.heap[3]? with
  | none => rw [hb] at tab; cases tab
  | some o =>
    rw [hb] at tab
    cases o <;> simp at tab
    rename_i c e fr
    refine ⟨c.toList, e, fr, hb, fun i x hx => ?_⟩
    rw [List.getElem?_map] at hx
    cases hz : tab2L[i]? with
    | none => rw [hz] at hx; cases hx
    | some z =>
      rw [hz] at hx; cases hx
      refine ⟨.int .u64 z, by rw [tab]; simp [hz], by unfold VR; rfl⟩
theorem errstr (u : TypeId) (h : Tryz.prog.typeName? 3 u = some "*errors.errorString") : u = 254 :=
  typeName_ptr_named (nm := "errors.errorString") (by rw [show "*" ++ "errors.errorString" = "*errors.errorString" by decide]; kernel_rfl) (by kernel_rfl) (by decide) u (by rw [show "*" ++ "errors.errorString" = "*errors.errorString" by decide]; exact h)
theorem err0 {W : World} (h : laidMetH Tryz.prog laidL W) : ∃ a : Addr, a.spot = none ∧ ∃ e fr, hpOf W 5 = some (.cells ⟨[.iface 254 (.pointer (some a))]⟩ e fr) := by
  have hs := laid_one h none_handles (n := "strconv.ErrRange") (d := Rows.laid_strconv_ErrRange) (by kernel_rfl)
  have hg : Tryz.prog.globalNamed "strconv.ErrRange" = some 5 := by kernel_rfl
  obtain ⟨a, s, hv, hc, _, _⟩ := laid_sentinel (ti := 143) (tp := 254) (te := 256) (ts := 9) (ms := #[("Error", 257)]) (f := ⟨"s", 9, 0, false, "", "errors", 0⟩) hs hg (by kernel_rfl) (by kernel_rfl) errstr (by kernel_rfl) (by kernel_rfl) rfl rfl (by kernel_rfl) (by kernel_rfl) (by kernel_rfl)
  refine ⟨a, spot_of (h := hpOf W) (by rw [cell_hp]; exact hc), ?_⟩
  unfold World.var? at hv
  rw [hg] at hv
  simp only [Option.bind_some] at hv
  cases hb : W.heap[5]? with
  | none => rw [hb] at hv; cases hv
  | some o =>
    rw [hb] at hv
    cases o <;> simp at hv
    rename_i c e fr
    exact ⟨e, fr, by show W.heap[5]? = _; rw [hb, hv]⟩
theorem err1 {W : World} (h : laidMetH Tryz.prog laidL W) : ∃ a : Addr, a.spot = none ∧ ∃ e fr, hpOf W 4 = some (.cells ⟨[.iface 254 (.pointer (some a))]⟩ e fr) := by
  have hs := laid_one h none_handles (n := "strconv.ErrSyntax") (d := Rows.laid_strconv_ErrSyntax) (by kernel_rfl)
  have hg : Tryz.prog.globalNamed "strconv.ErrSyntax" = some 4 := by kernel_rfl
  obtain ⟨a, s, hv, hc, _, _⟩ := laid_sentinel (ti := 143) (tp := 254) (te := 256) (ts := 9) (ms := #[("Error", 257)]) (f := ⟨"s", 9, 0, false, "", "errors", 0⟩) hs hg (by kernel_rfl) (by kernel_rfl) errstr (by kernel_rfl) (by kernel_rfl) rfl rfl (by kernel_rfl) (by kernel_rfl) (by kernel_rfl)
  refine ⟨a, spot_of (h := hpOf W) (by rw [cell_hp]; exact hc), ?_⟩
  unfold World.var? at hv
  rw [hg] at hv
  simp only [Option.bind_some] at hv
  cases hb : W.heap[4]? with
  | none => rw [hb] at hv; cases hv
  | some o =>
    rw [hb] at hv
    cases o <;> simp at hv
    rename_i c e fr
    exact ⟨e, fr, by show W.heap[4]? = _; rw [hb, hv]⟩
theorem err2 {W : World} (h : laidMetH Tryz.prog laidL W) : ∃ a : Addr, a.spot = none ∧ ∃ e fr, hpOf W 1 = some (.cells ⟨[.iface 254 (.pointer (some a))]⟩ e fr) := by
  have hs := laid_one h none_handles (n := "slipway/hold.errFull") (d := Rows.laid_slipway_hold_errFull) (by kernel_rfl)
  have hg : Tryz.prog.globalNamed "slipway/hold.errFull" = some 1 := by kernel_rfl
  obtain ⟨a, s, hv, hc, _, _⟩ := laid_sentinel (ti := 143) (tp := 254) (te := 256) (ts := 9) (ms := #[("Error", 257)]) (f := ⟨"s", 9, 0, false, "", "errors", 0⟩) hs hg (by kernel_rfl) (by kernel_rfl) errstr (by kernel_rfl) (by kernel_rfl) rfl rfl (by kernel_rfl) (by kernel_rfl) (by kernel_rfl)
  refine ⟨a, spot_of (h := hpOf W) (by rw [cell_hp]; exact hc), ?_⟩
  unfold World.var? at hv
  rw [hg] at hv
  simp only [Option.bind_some] at hv
  cases hb : W.heap[1]? with
  | none => rw [hb] at hv; cases hv
  | some o =>
    rw [hb] at hv
    cases o <;> simp at hv
    rename_i c e fr
    exact ⟨e, fr, by show W.heap[1]? = _; rw [hb, hv]⟩
theorem err3 {W : World} (h : laidMetH Tryz.prog laidL W) : ∃ a : Addr, a.spot = none ∧ ∃ e fr, hpOf W 0 = some (.cells ⟨[.iface 254 (.pointer (some a))]⟩ e fr) := by
  have hs := laid_one h none_handles (n := "slipway/hold.errSealed") (d := Rows.laid_slipway_hold_errSealed) (by kernel_rfl)
  have hg : Tryz.prog.globalNamed "slipway/hold.errSealed" = some 0 := by kernel_rfl
  obtain ⟨a, s, hv, hc, _, _⟩ := laid_sentinel (ti := 143) (tp := 254) (te := 256) (ts := 9) (ms := #[("Error", 257)]) (f := ⟨"s", 9, 0, false, "", "errors", 0⟩) hs hg (by kernel_rfl) (by kernel_rfl) errstr (by kernel_rfl) (by kernel_rfl) rfl rfl (by kernel_rfl) (by kernel_rfl) (by kernel_rfl)
  refine ⟨a, spot_of (h := hpOf W) (by rw [cell_hp]; exact hc), ?_⟩
  unfold World.var? at hv
  rw [hg] at hv
  simp only [Option.bind_some] at hv
  cases hb : W.heap[0]? with
  | none => rw [hb] at hv; cases hv
  | some o =>
    rw [hb] at hv
    cases o <;> simp at hv
    rename_i c e fr
    exact ⟨e, fr, by show W.heap[0]? = _; rw [hb, hv]⟩
def tabL : List (Nat × List CV) := [(6, tab0L.map fun z => CV.int .u8 z), (7, tab1L.map fun z => CV.int .u8 z), (3, tab2L.map fun z => CV.int .u64 z), (5, [.ifc 254 (.ptr (8 + 0) 0)]), (4, [.ifc 254 (.ptr (8 + 1) 0)]), (1, [.ifc 254 (.ptr (8 + 2) 0)]), (0, [.ifc 254 (.ptr (8 + 3) 0)])]
def erN : Nat := 4
theorem tabs_of {W : World} (h : laidMetH Tryz.prog laidL W) : ∃ bs : List Addr, bs.length = erN ∧ ∀ x ∈ tabL, TabAt (σ0 8 bs) (hpOf W) x.1 x.2 := by
  obtain ⟨a0, s0, e0, f0, c0⟩ := err0 h
  obtain ⟨a1, s1, e1, f1, c1⟩ := err1 h
  obtain ⟨a2, s2, e2, f2, c2⟩ := err2 h
  obtain ⟨a3, s3, e3, f3, c3⟩ := err3 h
  refine ⟨[a0, a1, a2, a3], rfl, ?_⟩
  intro x hx
  simp only [tabL, List.mem_cons, List.mem_nil_iff, or_false] at hx
  rcases hx with rfl | rfl | rfl | rfl | rfl | rfl | rfl
  · exact tab0 h _
  · exact tab1 h _
  · exact tab2 h _
  · exact ⟨_, e0, f0, c0, fun i c hc => by
      cases i with
      | zero => cases hc; exact ⟨_, rfl, err_vr (j := 0) rfl s0⟩
      | succ i => cases hc⟩
  · exact ⟨_, e1, f1, c1, fun i c hc => by
      cases i with
      | zero => cases hc; exact ⟨_, rfl, err_vr (j := 1) rfl s1⟩
      | succ i => cases hc⟩
  · exact ⟨_, e2, f2, c2, fun i c hc => by
      cases i with
      | zero => cases hc; exact ⟨_, rfl, err_vr (j := 2) rfl s2⟩
      | succ i => cases hc⟩
  · exact ⟨_, e3, f3, c3, fun i c hc => by
      cases i with
      | zero => cases hc; exact ⟨_, rfl, err_vr (j := 3) rfl s3⟩
      | succ i => cases hc⟩
def glN : Nat := 8
end Go.Proofs.YtfedjbekelfnpaaGreatDoor
