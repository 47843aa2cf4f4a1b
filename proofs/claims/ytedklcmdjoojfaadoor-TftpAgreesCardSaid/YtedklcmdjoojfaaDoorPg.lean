/-
  Code of the small machine: regions, loops, calls; what it reckons to 'true' holds of the machine's own walk.
-/
import Derived.Test.YtedklcmdjoojfaaDoorPf
import Derived.Test.YtedklcmdjoojfaaDoorPc
import Derived.Test.YtedklcmdjoojfaaDoorRows
import Derived.Test.YtedklcmdjoojfaaDoorTie
import Derived.Test.YtedklcmdjoojfaaDoorCards
import Derived.Stop.LaidErr
import Derived.Lib.LaidTab
import Derived.Shelf.Vars
import Derived.SevenTiedAt
import Derived.Test.YtedklcmdjoojfaaDoorPe
import Derived.Test.YtedklcmdjoojfaaDoorPd
set_option linter.unusedSimpArgs false
set_option linter.unusedVariables false
namespace Go.Ix
open Go Go.Hw
class Both (R : Type) where
  an : R → R → R
instance : Both Bool := ⟨fun a b => a && b⟩
instance : Both Nat := ⟨fun a b => bif Nat.beq a 0 then b else a⟩
instance {α : Type} : Both (Option α) := ⟨fun a _ => a⟩
section
variable {R : Type} [Both R]
def entB (P : Program) (g : Nat) : Bool := match P.funcs[g]? with
  | some fn => (match fn.body with | some _ => true | none => false) && !(fn.name == "runtime.NumGoroutine")
  | none => false
theorem entB_ok (P : Program) : EnterOk P (entB P) := by
  intro f hf
  unfold entB at hf
  split at hf
  · rename_i fn hfn
    simp only [Bool.and_eq_true, Bool.not_eq_true'] at hf
    refine ⟨fn, hfn, ?_, hf.2⟩
    cases hb : fn.body with
    | none => rw [hb] at hf; simp at hf
    | some c => rfl
  · cases hf
abbrev Call (R : Type) := Nat → List CV → CH → (CV → CH → R) → R
def vksOk (P : Program) : List TypeId → List CV → Bool
  | [], [] => true
  | t :: l, x :: m => vkOk P t x && vksOk P l m
  | _, _ => false
def rsOk (P : Program) (t : TypeId) (x : CV) : Bool :=
  match P.underlying t with
  | some (.tuple ⟨[]⟩) => true
  | some (.tuple ⟨ts⟩) => match x with
    | .tup l => vksOk P ts l
    | _ => false
  | _ => vkOk P t x
def invX (P : Program) (name : String) (t : TypeId) : Option Nat := match P.info? t with
  | some i => match i.methods.find? (·.name == name) with
    | some m => match m.path.toList, m.func with
      | [], some (f, pr) => match P.underlying t with
        | some (.pointer _) => bif pr then some f else none
        | some _ => bif pr then none else some f
        | none => none
      | _, _ => none
    | none => none
  | none => none
def allK (fl : Nat → R) (k : CV → CH → R) : List (CV × CH) → R
  | [] => fl 21
  | [(y, H')] => k y H'
  | (y, H') :: z :: l => Both.an (k y H') (allK fl k (z :: l))
def tagO : Op → Nat
  | .move _ => 1 | .assign _ => 2 | .pick .. => 3 | .alloc _ => 4 | .box .. => 5 | .build .. => 6 | .buildSlice .. => 7 | .insert .. => 8 | .load .. => 9 | .store .. => 10
  | .nilCheck _ => 11 | .binOp .. => 12 | .unOp .. => 13 | .convert .. => 14 | .makeInterface .. => 15 | .makeFunc .. => 16 | .makeMap .. => 17 | .makeSlice .. => 18 | .slice .. => 19 | .fieldAddr .. => 20
  | .field .. => 21 | .indexAddr .. => 22 | .index .. => 23 | .lookup .. => 24 | .mapUpdate .. => 25 | .mapEntry .. => 26 | .entryStore .. => 27 | .range .. => 28 | .next .. => 29 | .entry _ => 30
  | .typeAssert .. => 31 | .extract .. => 32 | .call ⟨.builtin .append, _, _⟩ => 41 | .call ⟨.builtin .copy, _, _⟩ => 42 | .call ⟨.builtin .len, _, _⟩ => 43 | .call ⟨.builtin _, _, _⟩ => 44 | .call ⟨.invoke .., _, _⟩ => 45 | .call _ => 46
  | .panic _ => 47 | .sliceToArrayPointer .. => 48 | .ready _ => 49 | .waits _ => 50
  | _ => 51
def opX (fl : Nat → R) (P : Program) (G : Nat) (call : Call R) (o : Oper) (env : CE) (H : CH) (k : CV → CH → R) : R :=
  match vX P G H env o with
  | some y => k y H
  | none => match eX P G H env o with
    | some (y, H') => k y H'
    | none => match o.op with
      | .call ⟨.value f, args, _⟩ => match evC G env f with
        | some (.fn g fs cs) => match evCs G env args.toList with
          | some vs => bif entB P g then call g (fs ++ (vs ++ cs)) H fun y H' => bif rsOk P o.type y then k y H' else fl 1
              else (match exOf P g with
              | some e => match extX e H (fs ++ (vs ++ cs)) with
                | some y => bif rsOk P o.type y then k y H else fl 1
                | none => fl 20
              | none => fl (1000 + g))
          | none => fl 2
        | _ => fl 3
      | .call ⟨.invoke r name, args, _⟩ => match evC G env r with
        | some (.ifc t x) => match evCs G env args.toList with
          | some vs => match invX P name t with
            | some g => bif entB P g then call g (x :: vs) H k else fl (1000 + g)
            | none => fl 24
          | none => fl 2
        | _ => fl 25
      | .entry x => match evC G env x with
        | some x => match entX H x with
          | some y => k y H
          | none => fl 23
        | none => fl 2
      | .next x false => match evC G env x with
        | some x => match mnX H x with
          | some l => allK fl k l
          | none => fl 22
        | none => fl 2
      | _ => fl (2000 + tagO o.op)
def gdX (l : List Oper) (j : Nat) (env : CE) : Option (Option Bool) := match gdstL l j with
  | some d => match env.get d with
    | some (.bool c) => some (some c)
    | some (.tup _) => some none
    | _ => none
  | none => none
def stepX (fl : Nat → R) (P : Program) (G : Nat) (call : Call R) (n : Nat) (all : List Oper) (o : Oper) (env : CE) (H : CH) (k : CE → CH → R) : R :=
  bif okDst n o.dst then
    match o.guard with
    | none => opX fl P G call o env H fun y H' => k (putE env o.dst y) H'
    | some (j, want) => match gdX all j env with
      | some c => bif gEq c want then opX fl P G call o env H fun y H' => k (putE env o.dst y) H' else k (putE env o.dst (.tup [])) H
      | none => fl 5
  else fl 6
def opsX (fl : Nat → R) (P : Program) (G : Nat) (call : Call R) (n : Nat) (all : List Oper) : List Oper → CE → CH → (CE → CH → R) → R
  | [], env, H, k => k env H
  | o :: l, env, H, k => stepX fl P G call n all o env H fun env' H' => opsX fl P G call n all l env' H' k
abbrev WX := List (Nat × Oper × CE × CV)
def chkW (P : Program) (G : Nat) (m : Nat) (H : CH) : WX → Bool
  | [] => true
  | (i, o, env, y) :: W => (bit m i || (match vX P G H env o with
    | some z => CV.eq y z
    | none => false)) && chkW P G m H W
def dDX (fl : Nat → R) (P : Program) (G : Nat) (call : Call R) (n : Nat) (all : List Oper) (M : List Nat) : WX → List Nat → CE → CH → (CE → CH → R) → R
  | _, [], env, H, k => k env H
  | W, i :: l, env, H, k =>
    match all[i]? with
    | none => fl 7
    | some o => match clsO P o with
      | .pure => stepX fl P G call n all o env H fun env' H' => dDX fl P G call n all M W l env' H' k
      | .eff => stepX fl P G call n all o env H fun env' H' => bif chkW P G (M.getD i 0) H' W then dDX fl P G call n all M W l env' H' k else fl 8
      | .read => bif okDst n o.dst then
          match o.guard with
          | none => match vX P G H env o with
            | some y => dDX fl P G call n all M ((i, o, env, y) :: W) l (putE env o.dst y) H k
            | none => fl 9
          | some (j, want) => match gdX all j env with
            | some c => bif gEq c want then (match vX P G H env o with
                | some y => dDX fl P G call n all M ((i, o, env, y) :: W) l (putE env o.dst y) H k
                | none => fl 9) else dDX fl P G call n all M W l (putE env o.dst (.tup [])) H k
            | none => fl 5
        else fl 6
def pickO (P : Program) (done : Nat) (M : List Nat) (any : Bool) : List Oper → Nat → Option Nat
  | [], _ => none
  | o :: l, i => bif !bit done i && (Nat.beq (Nat.land (M.getD i 0) done) (M.getD i 0) && (any || (match clsO P o with | .eff => false | _ => true))) then some i else pickO P done M any l (i + 1)
def ordX (P : Program) (ops : List Oper) (M : List Nat) : Nat → Nat → List Nat
  | 0, _ => []
  | f + 1, done => match pickO P done M false ops 0 with
    | some i => i :: ordX P ops M f (Nat.lor done (Nat.shiftLeft 1 i))
    | none => match pickO P done M true ops 0 with
      | some i => i :: ordX P ops M f (Nat.lor done (Nat.shiftLeft 1 i))
      | none => []
def valG (P : Program) (G n : Nat) (all : List Oper) (o : Oper) (env : CE) (H : CH) : Option CV :=
  bif okDst n o.dst then
    match o.guard with
    | none => vX P G H env o
    | some (j, want) => match gdX all j env with
      | some c => bif gEq c want then vX P G H env o else some (.tup [])
      | none => none
  else none
def chkT (P : Program) (G n : Nat) (all : List Oper) (m : Nat) (H : CH) : WX → Bool
  | [] => true
  | (i, o, env, y) :: W => (bit m i || (match valG P G n all o env H with
    | some z => CV.eq y z
    | none => false)) && chkT P G n all m H W
def rdB (done : Nat) (o : Oper) (i : Nat) : Bool := !bit done i && (o.after.toList.all fun e => !Region.binds .any e || bit done e.on)
def pickT (P : Program) (done : Nat) : List Oper → Nat → Option Nat
  | [], _ => none
  | o :: l, i => bif rdB done o i && (match clsO P o with | .eff => false | _ => true) then some i else pickT P done l (i + 1)
def effsT (done : Nat) : List Oper → Nat → List Nat
  | [], _ => []
  | o :: l, i => bif rdB done o i then i :: effsT done l (i + 1) else effsT done l (i + 1)
def allI (run : Nat → R) : Nat → List Nat → R
  | i, [] => run i
  | i, j :: r => Both.an (run i) (allI run j r)
def treeX (fl : Nat → R) (P : Program) (G : Nat) (call : Call R) (n : Nat) (all : List Oper) (M : List Nat) (one : Bool) : Nat → Nat → WX → Lg → CE → CH → (Lg → CE → CH → R) → R
  | 0, done, _, lg, env, H, k => (match pickT P done all 0, effsT done all 0 with
    | none, [] => k lg env H
    | _, _ => fl 31)
  | f + 1, done, W, lg, env, H, k => (match pickT P done all 0 with
    | some i => (match all[i]? with
      | none => fl 7
      | some o => (match valG P G n all o env H with
        | some y => (match clsO P o with
          | .pure => treeX fl P G call n all M one f (Nat.lor done (Nat.shiftLeft 1 i)) W lg (putE env o.dst y) H k
          | .read => treeX fl P G call n all M one f (Nat.lor done (Nat.shiftLeft 1 i)) ((i, o, env, y) :: W) lg (putE env o.dst y) H k
          | .eff => fl 7)
        | none => fl 9))
    | none => (match effsT done all 0 with
      | [] => k lg env H
      | i :: r =>
        let run : Nat → R := fun i => (match all[i]? with
          | none => fl 7
          | some o => (match clsO P o with
            | .eff => stepX fl P G call n all o env H fun env' H' => bif chkT P G n all (M.getD i 0) H' W then treeX fl P G call n all M one f (Nat.lor done (Nat.shiftLeft 1 i)) W ((i, H.nx, H'.nx) :: lg) env' H' k else fl 8
            | _ => fl 7))
        bif one then run i else allI run i r))
abbrev Tre (R : Type) := Call R → Nat → List Oper → CE → CH → (CE → CH → R) → R
def tree1 (fl : Nat → R) (P : Program) (G : Nat) : Tre R := fun call n ops env H k => treeX fl P G call n ops (masks ops []) true ops.length 0 [] [] env H fun _ e h => k e h
def regX (fl : Nat → R) (P : Program) (G : Nat) (tr : Tre R) (call : Call R) (n : Nat) (ops : List Oper) (draw : Bool) (env : CE) (H : CH) (k : CE → CH → R) : R :=
  bif draw then
    (bif orderGood P ops (ordX P ops (masks ops []) ops.length 0) then dDX fl P G call n ops (masks ops []) [] (ordX P ops (masks ops []) ops.length 0) env H k else tr call n ops env H k)
  else opsX fl P G call n ops ops env H k
def loopX (fl : Nat → R) (body : CE → CH → (Exit → CE → CH → R) → R) : Nat → CE → CH → (Exit → CE → CH → R) → R
  | 0, _, _, _ => fl 11
  | m + 1, env, H, k => body env H fun e env' H' => match e with
    | .normal => loopX fl body m env' H' k
    | .exit i => k (.exit i) env' H'
    | .goto l => k (.goto l) env' H'
    | .ret => k .ret env' H'
    | _ => fl 12
def cX (fl : Nat → R) (P : Program) (G : Nat) (tr : Tre R) (call : Call R) (lf : Nat) (n : Nat) : Code → CE → CH → (Exit → CE → CH → R) → R
  | .skip, env, H, k => k .normal env H
  | .region _ ops draw, env, H, k => regX fl P G tr call n ops.toList draw env H fun env' H' => k .normal env' H'
  | .seq x y, env, H, k => cX fl P G tr call lf n x env H fun e env' H' => match e with
    | .normal => cX fl P G tr call lf n y env' H' k
    | .exit i => k (.exit i) env' H'
    | .goto l => k (.goto l) env' H'
    | .ret => k .ret env' H'
    | _ => fl 12
  | .cond c x y, env, H, k => match evC G env c with
    | some (.bool b) => bif b then cX fl P G tr call lf n x env H k else cX fl P G tr call lf n y env H k
    | _ => fl 13
  | .block id c, env, H, k => cX fl P G tr call lf n c env H fun e env' H' => match e with
    | .normal => k .normal env' H'
    | .exit i => bif Nat.beq i id then k .normal env' H' else k (.exit i) env' H'
    | .goto l => k (.goto l) env' H'
    | .ret => k .ret env' H'
    | _ => fl 12
  | .scope c, env, H, k => cX fl P G tr call lf n c env H fun e env' H' => match e with
    | .normal => k .normal env' H'
    | .exit i => k (.exit i) env' H'
    | .ret => k .ret env' H'
    | _ => fl 12
  | .loop c, env, H, k => loopX fl (cX fl P G tr call lf n c) lf env H k
  | .exit id, env, H, k => k (.exit id) env H
  | .label _, env, H, k => k .normal env H
  | .ret, env, H, k => k .ret env H
  | _, _, _, _ => fl 14
def argsX : Nat → List CV → CE
  | _, [] => .leaf
  | i, x :: l => (argsX (i + 1) l).set i (some x)
def resX (P : Program) (H : CH) (env : CE) : List ResultVar → Option (List CV)
  | [] => some []
  | .tmp t :: r => match env.get t, resX P H env r with
    | some x, some l => some (x :: l)
    | _, _ => none
  | .cell a t :: r => match env.get a with
    | some (.ptr b o) => bif (P.underlying t).isSome then (match ldX P H t b o, resX P H env r with
      | some x, some l => some (x :: l)
      | _, _ => none) else none
    | _ => none
def resC : List CV → CV
  | [x] => x
  | l => .tup l
def callX (fl : Nat → R) (P : Program) (G : Nat) (tr : Tre R) (lf : Nat) : Nat → Call R
  | 0, _, _, _, _ => fl 15
  | m + 1, g, args, H, k => match P.funcs[g]? with
    | some fn => match fn.body with
      | some c => bif Nat.ble args.length fn.ntmps then cX (fun i => fl (i + 10000 * g)) P G tr (callX fl P G tr lf m) lf fn.ntmps c (argsX 0 args) H fun e env' H' =>
          (match e with
          | .normal => (match resX P H' env' fn.results.toList with
            | some l => k (resC l) H'
            | none => fl 16)
          | .ret => (match resX P H' env' fn.results.toList with
            | some l => k (resC l) H'
            | none => fl 16)
          | _ => fl 12) else fl 17
      | none => fl 18
    | none => fl 19
end
section
variable {P : Program} {G : Nat} {h0 : Hp}
abbrev no : Nat → Bool := fun _ => false
def CallOk (P : Program) (G : Nat) (h0 : Hp) (call : Call Bool) : Prop := ∀ g args H k, call g args H k = true → ∀ σ h vs, VRs σ args vs → HR P G h0 σ H h →
  ∀ K : Value → Hp → Prop, (∀ σ' y v H' h', Le σ σ' → VR σ' y v → HR P G h0 σ' H' h' → k y H' = true → K v h') → HCalls P g ⟨vs⟩ h K
theorem vkOk_VT {t : TypeId} {σ : Sig} {x : CV} {v : Value} (hk : vkOk P t x = true) (hr : VR σ x v) {F : (vtOf P t).T → Prop} (hf : ∀ y, (vtOf P t).mk y = v → F y) : (vtOf P t).on (some v) F := by
  unfold vkOk at hk
  generalize vtOf P t = vt at hk F hf ⊢
  split at hk
  · exact kOk_on (F := F) hk hr hf
  · split at hk
    · unfold VR at hr; obtain ⟨vs, rfl, hvs⟩ := hr
      exact ksOk_on hk hvs fun y hy => hf y (by show Value.agg ⟨TL.mk _ y⟩ = _; rw [hy])
    · cases hk
theorem vksOk_on {σ : Sig} : ∀ {ts : List TypeId} {l : List CV} {vs : List Value} {F : TVs (mapT (vtOf P) ts) → Prop}, vksOk P ts l = true → VRs σ l vs → (∀ y, TVs.mk (mapT (vtOf P) ts) y = vs → F y) → TVs.on (mapT (vtOf P) ts) vs F
  | [], l, vs, F, hk, hv, hf => by
    cases l with
    | nil => unfold VRs at hv; subst hv; exact hf () rfl
    | cons => cases hk
  | [t], l, vs, F, hk, hv, hf => by
    rcases l with _ | ⟨x, _ | ⟨y, l⟩⟩
    · cases hk
    · unfold VRs at hv; obtain ⟨v, r, rfl, h1, h2⟩ := hv
      unfold VRs at h2; subst h2
      simp only [vksOk, Bool.and_true] at hk
      exact vkOk_VT hk h1 fun y hy => hf y (by simp [TVs.mk, mapT, hy])
    · simp [vksOk] at hk
  | t :: u :: ts, l, vs, F, hk, hv, hf => by
    cases l with
    | nil => cases hk
    | cons x l =>
      unfold VRs at hv; obtain ⟨v, r, rfl, h1, h2⟩ := hv
      simp only [vksOk, Bool.and_eq_true] at hk
      refine vkOk_VT hk.1 h1 fun y hy => ?_
      have hk2 : vksOk P (u :: ts) l = true := by
        cases l with
        | nil => simp [vksOk] at hk
        | cons => simpa [vksOk] using hk.2
      exact vksOk_on (ts := u :: ts) hk2 h2 fun z hz => hf (y, z) (by
        show (vtOf P t).mk y :: TVs.mk (mapT (vtOf P) (u :: ts)) z = _
        rw [hy, hz])
theorem rsOk_ok {t : TypeId} {σ : Sig} {x : CV} {v : Value} (hk : rsOk P t x = true) (hr : VR σ x v) {F : Value → Prop} (hf : F v) : resOn P t v F := by
  unfold rsOk at hk
  unfold resOn
  split at hk
  · rename_i hu; rw [hu]; exact hf
  · rename_i ts hn hu
    rw [hu]; simp only []
    split at hk
    · unfold VR at hr; obtain ⟨vs, rfl, hvs⟩ := hr
      unfold tupOn; simp only []
      exact vksOk_on hk hvs fun y hy => by rw [hy]; exact hf
    · cases hk
  · rename_i h1 h2
    split
    · rename_i hu; exact absurd hu h1
    · rename_i ts hts hu; exact absurd hu (h2 ts)
    · exact vkOk_VT hk hr fun y hy => by rw [hy]; exact hf
theorem allK_ok {k : CV → CH → Bool} : ∀ {l : List (CV × CH)}, allK no k l = true → ∀ y H', (y, H') ∈ l → k y H' = true
  | [], h, y, H', hm => by cases hm
  | [(a, A)], h, y, H', hm => by
    rw [List.mem_singleton] at hm; cases hm; exact h
  | (a, A) :: z :: l, h, y, H', hm => by
    have h2 : (k a A && allK no k (z :: l)) = true := h
    rw [Bool.and_eq_true] at h2
    cases hm with
    | head => exact h2.1
    | tail _ hm => exact allK_ok h2.2 y H' hm
theorem invX_ok {name : String} {t : TypeId} {g : Nat} (hi : invX P name t = some g) {v : Value} {h : Hp} {n : Nat} {K : FuncId × Value → Hp → Prop} (hK : K (g, v) h) : swp P (method (n + 1) t v name) h K := by
  unfold invX at hi
  split at hi
  · rename_i i hinf
    split at hi
    · rename_i m hm
      split at hi
      · rename_i f pr hp hf
        unfold method
        rw [swp_bind']
        refine typeInfo_swp hinf ?_
        rw [hm]
        simp only [hp, swp_bind']
        unfold follow
        rw [swp_pure]
        simp only [hf, swp_bind']
        split at hi
        · rename_i e hu
          cases pr with
          | false => cases hi
          | true =>
            cases hi
            unfold receiverAt
            rw [swp_bind']
            refine underlying_swp hu ?_
            exact hK
        · rename_i d hn hu
          cases pr with
          | true => cases hi
          | false =>
            cases hi
            unfold receiverAt
            rw [swp_bind']
            refine underlying_swp hu ?_
            cases d <;> first | exact hK | exact absurd rfl (hn _)
        · cases hi
      · cases hi
    · cases hi
  · cases hi
theorem opX_ok {call : Call Bool} (hc : CallOk P G h0 call) {o : Oper} {env : CE} {H : CH} {k : CV → CH → Bool} (hx : opX no P G call o env H k = true) {σ : Sig} {ρ : Env} {h : Hp} (he : ER σ env ρ) (hh : HR P G h0 σ H h)
    {K : Value → Hp → Prop} (hK : ∀ σ' y v H' h', Le σ σ' → VR σ' y v → HR P G h0 σ' H' h' → k y H' = true → K v h') : opK P (entB P) o ρ h K := by
  unfold opX at hx
  split at hx
  · rename_i y hy
    obtain ⟨v, h1, h2⟩ := vX_ok (E := entB P) he hh hy
    exact h2 K (hK σ y v H h (Le.refl σ) h1 hh hx)
  · split at hx
    · rename_i y H' hy
      exact eX_ok he hh hy fun σ' v h' hl hv hh' => hK σ' y v H' h' hl hv hh' hx
    · split at hx
      · rename_i f args ts ho
        split at hx
        · rename_i g fs cs hf
          split at hx
          · rename_i vs hvs
            obtain ⟨vf, f1, f2⟩ := evC_ok hf he hh
            obtain ⟨ws, w1, w2, w3, w4⟩ := evCs_ok he hh hvs
            unfold VR at f2; obtain ⟨xs, ys, rfl, x1, y1⟩ := f2
            unfold opK
            rw [ho]
            refine mv_ok f1 (w4 [] _ ?_)
            simp only [List.reverse_nil, List.nil_append]
            unfold callK HCallV
            simp only []
            cases hb : entB P g with
            | false =>
              rw [hb] at hx
              simp only [cond_false] at hx ⊢
              split at hx
              · rename_i e he'
                split at hx
                · rename_i y hy
                  cases hrs : rsOk P o.type y with
                  | false => rw [hrs] at hx; cases hx
                  | true =>
                    rw [hrs] at hx
                    obtain ⟨v, v1, v2⟩ := ext_ok hh he' hy (x1.app (w1.app y1))
                    exact v2 _ (rsOk_ok (F := fun v' => K v' h) hrs v1 (hK σ y v H h (Le.refl σ) v1 hh hx))
                · cases hx
              · cases hx
            | true =>
              rw [hb] at hx
              simp only [cond_true] at hx ⊢
              refine hc _ _ _ _ hx σ h _ (x1.app (w1.app y1)) hh _ ?_
              intro σ' y v H' h' hl hv hh' hky
              cases hrs : rsOk P o.type y with
              | false => rw [hrs] at hky; cases hky
              | true =>
                rw [hrs] at hky
                exact rsOk_ok (F := fun v' => K v' h') hrs hv (hK σ' y v H' h' hl hv hh' hky)
          · cases hx
        · cases hx
      · rename_i r name args ts ho
        split at hx
        · rename_i t x hrx
          split at hx
          · rename_i vs hvs
            split at hx
            · rename_i g hg
              cases hb : entB P g with
              | false => rw [hb] at hx; cases hx
              | true =>
                rw [hb] at hx
                simp only [cond_true] at hx
                obtain ⟨vr, f1, f2⟩ := evC_ok hrx he hh
                obtain ⟨ws, w1, w2, w3, _⟩ := evCs_ok he hh hvs
                unfold VR at f2; obtain ⟨xv, rfl, f3⟩ := f2
                unfold opK
                rw [ho]
                show someAny ρ P o h K
                unfold someAny
                have hokk : (okAll ρ o.op.operands.toList && !isSel o.op) = true := by
                  rw [ho]
                  simp only [Op.operands, Call.operands, isSel, Bool.not_false, Bool.and_true]
                  have : okAll ρ (r :: args.toList) = true := by simp [okAll, (some1 f1).1, w2]
                  simpa using this
                rw [hokk]
                show opS P o (evD ρ) h K
                unfold opS execOp
                rw [ho]
                simp only []
                have hres : resolve (evD ρ) ⟨.invoke r name, args, ts⟩ o.type = (pure { target := .fn (.method name) #[], args := #[.iface t xv] ++ args.map (evD ρ) } : Sem Deferred) := by
                  unfold resolve; simp only [(some1 f1).2]
                rw [hres]
                show swp P (invoke (.fn (.method name) #[]) (#[.iface t xv] ++ args.map (evD ρ))) h (nextK P K)
                have hargs : (#[.iface t xv] ++ args.map (evD ρ) : Array Value) = ⟨.iface t xv :: ws⟩ := by apply Array.ext'; simp [w3]
                rw [hargs]
                have hinv : invoke (.fn (.method name) #[]) ⟨.iface t xv :: ws⟩ = callMethod (.iface t xv) name ⟨ws⟩ := by
                  unfold invoke
                  have e0 : (⟨.iface t xv :: ws⟩ : Array Value)[0]? = some (.iface t xv) := rfl
                  simp only [e0]
                  congr 1
                  apply Array.ext'; simp
                rw [hinv]
                unfold callMethod
                simp only []
                rw [swp_bind', program_swp, swp_bind']
                have hd : P.types.size + Made.depth = (P.types.size + Made.depth - 1) + 1 := by
                  have : 0 < Made.depth := by decide
                  omega
                rw [hd]
                refine invX_ok hg ?_
                have ha : (#[xv] ++ ⟨ws⟩ : Array Value) = ⟨xv :: ws⟩ := by apply Array.ext'; simp
                simp only [ha]
                refine callFunc_swp (entB_ok P) hb ?_
                exact hc _ _ _ _ hx σ h _ (by unfold VRs; exact ⟨xv, ws, rfl, f3, w1⟩) hh _ hK
            · cases hx
          · cases hx
        · cases hx
      · rename_i x ho
        split at hx
        · rename_i c hcx
          split at hx
          · rename_i y hy
            obtain ⟨v, h1, h2⟩ := evC_ok hcx he hh
            obtain ⟨w, p, rfl, g1, g2⟩ := entX_ok (h := h) hh hy h2
            unfold opK
            rw [ho]
            exact mv_ok h1 (g2 K (hK σ y w H h (Le.refl σ) g1 hh hx))
          · cases hx
        · cases hx
      · rename_i x ho
        split at hx
        · rename_i c hcx
          split at hx
          · rename_i l hl
            obtain ⟨v, h1, h2⟩ := evC_ok hcx he hh
            obtain ⟨p, rfl, hn⟩ := mnX_ok (K := K) hh hl h2 fun y H' hm v h' hv hh' => hK σ y v H' h' (Le.refl σ) hv hh' (allK_ok hx y H' hm)
            unfold opK
            rw [ho]
            exact mv_ok h1 hn
          · cases hx
        · cases hx
      · cases hx
theorem gdX_ok {l : List Oper} {j : Nat} {env : CE} {σ : Sig} {ρ : Env} (he : ER σ env ρ) {c : Option Bool} (hg : gdX l j env = some c) {F : Option Bool → Env → Prop} (hF : F c ρ) : gK ρ (gdstL l j) F := by
  unfold gdX at hg
  unfold gK
  split at hg
  · rename_i d hd
    rw [hd]; simp only []
    split at hg
    · rename_i b hb
      cases hg
      obtain ⟨v, h1, h2⟩ := he d _ hb
      unfold VR at h2; subst h2
      rw [h1]; simp only []
      cases b
      · simp only [cond_false]; rw [putd_same h1]; exact hF
      · simp only [cond_true]; rw [putd_same h1]; exact hF
    · rename_i b hb
      cases hg
      obtain ⟨v, h1, h2⟩ := he d _ hb
      unfold VR at h2; obtain ⟨vs, rfl, _⟩ := h2
      rw [h1]; exact hF
    · cases hg
  · cases hg
theorem stepX_ok {call : Call Bool} (hc : CallOk P G h0 call) {n : Nat} {all : List Oper} {o : Oper} {env : CE} {H : CH} {k : CE → CH → Bool} (hx : stepX no P G call n all o env H k = true) {σ : Sig} {ρ : Env} {h : Hp}
    (he : ER σ env ρ) (hh : HR P G h0 σ H h) {X : Env → Hp → Prop} (hX : ∀ σ' env' ρ' H' h', Le σ σ' → ER σ' env' ρ' → HR P G h0 σ' H' h' → k env' H' = true → X ρ' h') : denOp P (entB P) n all o ρ h X := by
  unfold stepX at hx
  cases hd : okDst n o.dst with
  | false => rw [hd] at hx; cases hx
  | true =>
    rw [hd] at hx
    simp only [cond_true] at hx
    unfold denOp
    cases hg : o.guard with
    | none =>
      rw [hg] at hx
      simp only [] at hx ⊢
      rw [hd]
      exact opX_ok hc hx he hh fun σ' y v H' h' hl hv hh' hk => hX σ' _ _ H' h' hl ((he.mono hl).put o.dst hv) hh' hk
    | some g =>
      obtain ⟨j, want⟩ := g
      rw [hg] at hx
      simp only [] at hx ⊢
      split at hx
      · rename_i c hcg
        refine gdX_ok he hcg ?_
        rw [hd]
        simp only [cond_true]
        cases hq : gEq c want with
        | true =>
          rw [hq] at hx
          exact opX_ok hc hx he hh fun σ' y v H' h' hl hv hh' hk => hX σ' _ _ H' h' hl ((he.mono hl).put o.dst hv) hh' hk
        | false =>
          rw [hq] at hx
          exact hX σ _ _ H h (Le.refl σ) (he.put o.dst VR_undef) hh hx
      · cases hx
theorem opsX_ok {call : Call Bool} (hc : CallOk P G h0 call) {n : Nat} {all : List Oper} : ∀ {l : List Oper} {env : CE} {H : CH} {k : CE → CH → Bool} (hx : opsX no P G call n all l env H k = true) {σ : Sig} {ρ : Env} {h : Hp}
    (he : ER σ env ρ) (hh : HR P G h0 σ H h) {X : Env → Hp → Prop} (hX : ∀ σ' env' ρ' H' h', Le σ σ' → ER σ' env' ρ' → HR P G h0 σ' H' h' → k env' H' = true → X ρ' h'), denOps P (entB P) n all l ρ h X := by
  intro l
  induction l with
  | nil => intro env H k hx σ ρ h he hh X hX; exact hX σ env ρ H h (Le.refl σ) he hh hx
  | cons o l ih =>
    intro env H k hx σ ρ h he hh X hX
    unfold denOps
    refine stepX_ok hc (show stepX no P G call n all o env H (fun env' H' => opsX no P G call n all l env' H' k) = true from hx) he hh ?_
    intro σ' env' ρ' H' h' hl he' hh' hk
    exact ih hk he' hh' fun σ'' env'' ρ'' H'' h'' hl' => hX σ'' env'' ρ'' H'' h'' (hl.trans hl')
def WR (P : Program) (σ : Sig) : WX → Watch → Prop
  | [], W => W = []
  | (i, o, env, y) :: r, W => ∃ ρ v W', W = (i, rechk P (entB P) o ρ v) :: W' ∧ ER σ env ρ ∧ VR σ y v ∧ WR P σ r W'
theorem WR.mono {σ σ' : Sig} (hs : Le σ σ') : ∀ {w : WX} {W : Watch}, WR P σ w W → WR P σ' w W := by
  intro w
  induction w with
  | nil => intro W h; exact h
  | cons a w ih =>
    intro W h
    obtain ⟨i, o, env, y⟩ := a
    unfold WR at h ⊢; obtain ⟨ρ, v, W', h1, h2, h3, h4⟩ := h
    exact ⟨ρ, v, W', h1, h2.mono hs, h3.mono hs _ _, ih h4⟩
theorem chkW_ok {m : Nat} {H : CH} {σ : Sig} {h : Hp} (hh : HR P G h0 σ H h) {X : Prop} (hX : X) : ∀ {w : WX} {W : Watch}, chkW P G m H w = true → WR P σ w W → andW m W h X := by
  intro w
  induction w with
  | nil => intro W _ hW; unfold WR at hW; subst hW; exact hX
  | cons a w ih =>
    intro W hc hW
    obtain ⟨i, o, env, y⟩ := a
    unfold WR at hW; obtain ⟨ρ, v, W', rfl, h2, h3, h4⟩ := hW
    simp only [chkW, Bool.and_eq_true, Bool.or_eq_true] at hc
    unfold andW
    cases hb : bit m i with
    | true => exact ih hc.2 h4
    | false =>
      rw [hb] at hc
      refine ⟨?_, ih hc.2 h4⟩
      have h5 := hc.1.resolve_left (by simp)
      split at h5
      · rename_i z hz
        have := CV.eq_eq _ _ h5; subst this
        obtain ⟨v', g1, g2⟩ := vX_ok (E := entB P) h2 hh hz
        have := VR.one _ _ _ h3 g1; subst this
        exact g2 _ ⟨rfl, rfl⟩
      · cases h5
theorem dDX_ok {call : Call Bool} (hc : CallOk P G h0 call) {n : Nat} {all : List Oper} {M : List Nat} : ∀ {l : List Nat} {w : WX} {env : CE} {H : CH} {k : CE → CH → Bool} (hx : dDX no P G call n all M w l env H k = true) {σ : Sig} {ρ : Env} {h : Hp} {W : Watch}
    (he : ER σ env ρ) (hh : HR P G h0 σ H h) (hw : WR P σ w W) {X : Env → Hp → Prop} (hX : ∀ σ' env' ρ' H' h', Le σ σ' → ER σ' env' ρ' → HR P G h0 σ' H' h' → k env' H' = true → X ρ' h'), dD P (entB P) n all M X W l ρ h := by
  intro l
  induction l with
  | nil => intro w env H k hx σ ρ h W he hh hw X hX; exact hX σ env ρ H h (Le.refl σ) he hh hx
  | cons i l ih =>
    intro w env H k hx σ ρ h W he hh hw X hX
    unfold dDX at hx
    unfold dD
    cases ho : all[i]? with
    | none => rw [ho] at hx; cases hx
    | some o =>
      rw [ho] at hx
      simp only [] at hx ⊢
      cases hcl : clsO P o with
      | pure =>
        rw [hcl] at hx
        simp only [] at hx ⊢
        refine stepX_ok hc hx he hh ?_
        intro σ' env' ρ' H' h' hl he' hh' hk
        exact ih hk he' hh' (hw.mono hl) fun σ'' env'' ρ'' H'' h'' hl' => hX σ'' env'' ρ'' H'' h'' (hl.trans hl')
      | eff =>
        rw [hcl] at hx
        simp only [] at hx ⊢
        refine stepX_ok hc hx he hh ?_
        intro σ' env' ρ' H' h' hl he' hh' hk
        cases hck : chkW P G (M.getD i 0) H' w with
        | false => rw [hck] at hk; cases hk
        | true =>
          rw [hck] at hk
          exact chkW_ok hh' (ih hk he' hh' (hw.mono hl) fun σ'' env'' ρ'' H'' h'' hl' => hX σ'' env'' ρ'' H'' h'' (hl.trans hl')) hck (hw.mono hl)
      | read =>
        rw [hcl] at hx
        simp only [] at hx ⊢
        cases hd : okDst n o.dst with
        | false => rw [hd] at hx; cases hx
        | true =>
          rw [hd] at hx
          simp only [cond_true] at hx
          cases hg : o.guard with
          | none =>
            rw [hg] at hx
            simp only [cond_true] at hx ⊢
            split at hx
            · rename_i y hy
              obtain ⟨v, g1, g2⟩ := vX_ok (E := entB P) he hh hy
              refine g2 _ ?_
              refine ih hx (he.put o.dst g1) hh ?_ hX
              unfold WR; exact ⟨ρ, v, W, rfl, he, g1, hw⟩
            · cases hx
          | some g =>
            obtain ⟨j, want⟩ := g
            rw [hg] at hx
            simp only [cond_true] at hx ⊢
            split at hx
            · rename_i c hcg
              refine gdX_ok he hcg ?_
              cases hq : gEq c want with
              | true =>
                rw [hq] at hx
                simp only [cond_true] at hx ⊢
                split at hx
                · rename_i y hy
                  obtain ⟨v, g1, g2⟩ := vX_ok (E := entB P) he hh hy
                  refine g2 _ ?_
                  refine ih hx (he.put o.dst g1) hh ?_ hX
                  unfold WR; exact ⟨ρ, v, W, rfl, he, g1, hw⟩
                · cases hx
              | false =>
                rw [hq] at hx
                simp only [cond_false] at hx ⊢
                exact ih hx (he.put o.dst VR_undef) hh hw hX
            · cases hx
theorem gd_ok {ops : Array Oper} {j : Nat} {env : CE} {σ : Sig} {ρ : Env} (he : ER σ env ρ) {c : Option Bool} (hg : gdX ops.toList j env = some c) : ∃ v, (gdst ops j).bind ρ = some v ∧ blOf v = c := by
  unfold gdX at hg
  rw [gdstL_eq] at hg
  split at hg
  · rename_i d hd
    rw [hd]
    split at hg
    · rename_i b hb
      cases hg
      obtain ⟨v, h1, h2⟩ := he d _ hb
      unfold VR at h2; subst h2
      exact ⟨_, h1, rfl⟩
    · rename_i b hb
      cases hg
      obtain ⟨v, h1, h2⟩ := he d _ hb
      unfold VR at h2; obtain ⟨vs, rfl, _⟩ := h2
      exact ⟨_, h1, rfl⟩
    · cases hg
  · cases hg
theorem valG_ok {n : Nat} {ops : Array Oper} {o : Oper} {env : CE} {H : CH} {y : CV} (hv : valG P G n ops.toList o env H = some y) (hcl : clsO P o ≠ .eff) {σ : Sig} {ρ : Env} {h : Hp} (he : ER σ env ρ) (hh : HR P G h0 σ H h) :
    ∃ v, VR σ y v ∧ YdS P n ops o ρ h v ∧ (clsO P o = .pure → ∀ h', YdS P n ops o ρ h' v) := by
  unfold valG at hv
  cases hd : okDst n o.dst with
  | false => rw [hd] at hv; cases hv
  | true =>
    rw [hd] at hv
    simp only [cond_true] at hv
    have one : vX P G H env o = some y → ∃ v, VR σ y v ∧ ((isSel o.op = false ∧ okAll ρ o.op.operands.toList = true) ∧ Yd P o (evD ρ) h v) ∧
        (clsO P o = .pure → ∀ h', (isSel o.op = false ∧ okAll ρ o.op.operands.toList = true) ∧ Yd P o (evD ρ) h' v) := by
      intro hx
      obtain ⟨v, g1, g2⟩ := vX_ok (E := entB P) he hh hx
      have hk := g2 (Only v h) ⟨rfl, rfl⟩
      refine ⟨v, g1, yd_of_opK (entB_ok P) hcl hk, fun hp h' => ?_⟩
      obtain ⟨v', k1, k2, k3⟩ := detK hcl hk
      obtain ⟨rfl, _⟩ := k1
      exact yd_of_opK (entB_ok P) hcl (k3 hp h')
    unfold YdS
    cases hg : o.guard with
    | none =>
      rw [hg] at hv
      obtain ⟨v, g1, g2, g3⟩ := one hv
      exact ⟨v, g1, ⟨hd, g2⟩, fun hp h' => ⟨hd, g3 hp h'⟩⟩
    | some g =>
      obtain ⟨j, want⟩ := g
      rw [hg] at hv
      simp only [] at hv
      split at hv
      · rename_i c hc
        obtain ⟨cv, b1, b2⟩ := gd_ok he hc
        cases hq : gEq c want with
        | true =>
          rw [hq] at hv
          have hbl : blOf cv = some want := by rw [b2]; exact gEq_eq.1 hq
          obtain ⟨v, g1, g2, g3⟩ := one hv
          exact ⟨v, g1, ⟨hd, cv, b1, by rw [if_pos hbl]; exact g2⟩, fun hp h' => ⟨hd, cv, b1, by rw [if_pos hbl]; exact g3 hp h'⟩⟩
        | false =>
          rw [hq] at hv; cases hv
          have hbl : ¬ blOf cv = some want := by rw [b2]; intro e; rw [gEq_eq.2 e] at hq; cases hq
          exact ⟨undef, VR_undef, ⟨hd, cv, b1, by rw [if_neg hbl]⟩, fun hp h' => ⟨hd, cv, b1, by rw [if_neg hbl]⟩⟩
      · cases hv
def WT (P : Program) (n : Nat) (ops : Array Oper) (σ : Sig) : WX → Watch → Prop
  | [], W => W = []
  | (i, o, env, y) :: r, W => ∃ ρ v W', W = (i, fun h' => YdS P n ops o ρ h' v) :: W' ∧ ER σ env ρ ∧ VR σ y v ∧ clsO P o ≠ .eff ∧ WT P n ops σ r W'
theorem WT.mono {n : Nat} {ops : Array Oper} {σ σ' : Sig} (hs : Le σ σ') : ∀ {w : WX} {W : Watch}, WT P n ops σ w W → WT P n ops σ' w W := by
  intro w
  induction w with
  | nil => intro W h; exact h
  | cons a w ih =>
    intro W h
    obtain ⟨i, o, env, y⟩ := a
    unfold WT at h ⊢; obtain ⟨ρ, v, W', h1, h2, h3, h4, h5⟩ := h
    exact ⟨ρ, v, W', h1, h2.mono hs, h3.mono hs _ _, h4, ih h5⟩
theorem chkT_ok {n : Nat} {ops : Array Oper} {m : Nat} {H : CH} {σ : Sig} {h : Hp} (hh : HR P G h0 σ H h) : ∀ {w : WX} {W : Watch}, chkT P G n ops.toList m H w = true → WT P n ops σ w W → ∀ r ∈ W, bit m r.1 = false → r.2 h := by
  intro w
  induction w with
  | nil => intro W _ hW r hr; unfold WT at hW; subst hW; cases hr
  | cons a w ih =>
    intro W hc hW r hr hb
    obtain ⟨i, o, env, y⟩ := a
    unfold WT at hW; obtain ⟨ρ, v, W', rfl, h2, h3, h4, h5⟩ := hW
    simp only [chkT, Bool.and_eq_true, Bool.or_eq_true] at hc
    cases hr with
    | tail _ hm => exact ih hc.2 h5 r hm hb
    | head =>
      have h6 := hc.1.resolve_left (by rw [hb]; decide)
      split at h6
      · rename_i z hz
        have := CV.eq_eq _ _ h6; subst this
        obtain ⟨v', g1, g2, _⟩ := valG_ok hz h4 h2 hh
        have := VR.one _ _ _ h3 g1; subst this
        exact g2
      · cases h6
def RelL (ops : Array Oper) (done : Nat) (L : Array Bool) : Prop := L.size = ops.size ∧ ∀ j, L.getD j false = bit done j
theorem rdB_ok {ops : Array Oper} {done : Nat} {L : Array Bool} (hr : RelL ops done L) {i : Nat} {o : Oper} (ho : ops.toList[i]? = some o) : rdB done o i = true ↔ i ∈ rdy ops L := by
  have hi : i < ops.size := by have := (List.getElem?_eq_some_iff.1 ho).1; simpa using this
  have ho' : ops[i]? = some o := by rw [← Array.getElem?_toList]; exact ho
  have hd : L.getD i true = bit done i := by
    rw [← hr.2 i, Array.getD_eq_getD_getElem?, Array.getD_eq_getD_getElem?, Array.getElem?_eq_getElem (by rw [hr.1]; exact hi)]; rfl
  unfold rdB
  rw [Go.Hw.mem_ready]
  simp only [Bool.and_eq_true, Bool.not_eq_true', List.all_eq_true, Bool.or_eq_true]
  constructor
  · rintro ⟨h1, h2⟩
    refine ⟨hi, by rw [hd]; exact h1, o, ho', fun e he hb => ?_⟩
    rw [hr.2]
    rcases h2 e he with h3 | h3
    · rw [hb] at h3; cases h3
    · exact h3
  · rintro ⟨_, h1, o', ho2, h2⟩
    rw [ho'] at ho2; cases ho2
    refine ⟨by rw [← hd]; exact h1, fun e he => ?_⟩
    cases hb : Region.binds .any e with
    | false => exact .inl rfl
    | true => exact .inr (by rw [← hr.2]; exact h2 e he hb)
theorem RelL.set {ops : Array Oper} {done : Nat} {L : Array Bool} (hr : RelL ops done L) {i : Nat} (hi : i < ops.size) : RelL ops (Nat.lor done (Nat.shiftLeft 1 i)) (setD L i) := by
  refine ⟨by simp [hr.1], fun j => ?_⟩
  rw [bit_eq]
  have e1 : (Nat.lor done (Nat.shiftLeft 1 i)).testBit j = (done.testBit j || decide (i = j)) := by
    show (done ||| 1 <<< i).testBit j = _
    rw [Nat.testBit_or, Nat.one_shiftLeft, Nat.testBit_two_pow]
  rw [e1, ← bit_eq, ← hr.2 j, Array.getD_eq_getD_getElem?, Array.getD_eq_getD_getElem?]
  by_cases e : i = j
  · subst e
    rw [Array.getElem?_setIfInBounds_self, if_pos (by rw [hr.1]; exact hi)]
    simp
  · rw [Array.getElem?_setIfInBounds_ne e]; simp [e]
theorem pickT_some {done : Nat} : ∀ {l : List Oper} {k i : Nat}, pickT P done l k = some i → ∃ o, k ≤ i ∧ l[i - k]? = some o ∧ rdB done o i = true ∧ clsO P o ≠ .eff := by
  intro l
  induction l with
  | nil => intro k i h; cases h
  | cons o l ih =>
    intro k i h
    unfold pickT at h
    cases hb : rdB done o k && (match clsO P o with | .eff => false | _ => true) with
    | true =>
      rw [hb] at h; cases h
      simp only [Bool.and_eq_true] at hb
      refine ⟨o, Nat.le_refl _, by simp, hb.1, fun e => ?_⟩
      have := hb.2
      rw [e] at this; cases this
    | false =>
      rw [hb] at h
      obtain ⟨o', h1, h2, h3, h4⟩ := ih h
      refine ⟨o', by omega, ?_, h3, h4⟩
      rw [show i - k = (i - (k + 1)) + 1 by omega, List.getElem?_cons_succ]; exact h2
theorem pickT_none {done : Nat} : ∀ {l : List Oper} {k : Nat}, pickT P done l k = none → ∀ {i : Nat} {o : Oper}, l[i]? = some o → rdB done o (k + i) = true → clsO P o = .eff := by
  intro l
  induction l with
  | nil => intro k _ i o h; simp at h
  | cons x l ih =>
    intro k h i o ho hr
    unfold pickT at h
    cases hb : rdB done x k && (match clsO P x with | .eff => false | _ => true) with
    | true => rw [hb] at h; cases h
    | false =>
      rw [hb] at h
      cases i with
      | zero =>
        simp at ho; subst ho
        rw [Nat.add_zero] at hr
        rw [hr] at hb
        cases hc : clsO P x with
        | eff => rfl
        | pure => rw [hc] at hb; cases hb
        | read => rw [hc] at hb; cases hb
      | succ i => simp at ho; exact ih h ho (by rw [show k + 1 + i = k + (i + 1) by omega]; exact hr)
theorem effsT_mem {done : Nat} : ∀ {l : List Oper} {k i : Nat}, i ∈ effsT done l k ↔ ∃ o, k ≤ i ∧ l[i - k]? = some o ∧ rdB done o i = true := by
  intro l
  induction l with
  | nil => intro k i; simp [effsT]
  | cons x l ih =>
    intro k i
    unfold effsT
    have step : (∃ o, k + 1 ≤ i ∧ l[i - (k + 1)]? = some o ∧ rdB done o i = true) ↔ (∃ o, k < i ∧ (x :: l)[i - k]? = some o ∧ rdB done o i = true) := by
      constructor
      · rintro ⟨o, h1, h2, h3⟩
        exact ⟨o, by omega, by rw [show i - k = (i - (k + 1)) + 1 by omega, List.getElem?_cons_succ]; exact h2, h3⟩
      · rintro ⟨o, h1, h2, h3⟩
        rw [show i - k = (i - (k + 1)) + 1 by omega, List.getElem?_cons_succ] at h2
        exact ⟨o, by omega, h2, h3⟩
    cases hb : rdB done x k with
    | true =>
      simp only [cond_true, List.mem_cons, ih, step]
      constructor
      · rintro (rfl | ⟨o, h1, h2, h3⟩)
        · exact ⟨x, Nat.le_refl _, by simp, hb⟩
        · exact ⟨o, by omega, h2, h3⟩
      · rintro ⟨o, h1, h2, h3⟩
        by_cases e : i = k
        · exact .inl e
        · exact .inr ⟨o, by omega, h2, h3⟩
    | false =>
      simp only [cond_false, ih, step]
      constructor
      · rintro ⟨o, h1, h2, h3⟩
        exact ⟨o, by omega, h2, h3⟩
      · rintro ⟨o, h1, h2, h3⟩
        by_cases e : i = k
        · subst e; simp at h2; subst h2; rw [hb] at h3; cases h3
        · exact ⟨o, by omega, h2, h3⟩
theorem allI_ok {run : Nat → Bool} : ∀ {r : List Nat} {i : Nat}, allI run i r = true → ∀ j ∈ i :: r, run j = true := by
  intro r
  induction r with
  | nil => intro i h j hj; rw [List.mem_singleton] at hj; subst hj; exact h
  | cons x r ih =>
    intro i h j hj
    have h2 : (run i && allI run x r) = true := h
    rw [Bool.and_eq_true] at h2
    cases hj with
    | head => exact h2.1
    | tail _ hm => exact ih h2.2 j hm
theorem treeX_ok {call : Call Bool} (hc : CallOk P G h0 call) {n : Nat} {ops : Array Oper} : ∀ (f : Nat) {done : Nat} {w : WX} {lg : Lg} {env : CE} {H : CH} {k : Lg → CE → CH → Bool} (hx : treeX no P G call n ops.toList (masks ops.toList []) false f done w lg env H k = true)
    {σ : Sig} {ρ : Env} {h : Hp} {W : Watch} {L : Array Bool} (he : ER σ env ρ) (hh : HR P G h0 σ H h) (hw : WT P n ops σ w W) (hr : RelL ops done L) {X : Env → Hp → Prop}
    (hX : ∀ σ' lg' env' ρ' H' h', Le σ σ' → ER σ' env' ρ' → HR P G h0 σ' H' h' → k lg' env' H' = true → X ρ' h'), Tr P n ops X f L W ρ h := by
  have noR : ∀ {done : Nat} {L : Array Bool}, RelL ops done L → pickT P done ops.toList 0 = none → effsT done ops.toList 0 = [] → rdy ops L = [] := by
    intro done L hr hp hee
    rw [List.eq_nil_iff_forall_not_mem]
    intro i hi
    obtain ⟨_, _, o, ho, _⟩ := Go.Hw.mem_ready.1 hi
    have ho' : ops.toList[i]? = some o := by rw [Array.getElem?_toList]; exact ho
    have : i ∈ effsT done ops.toList 0 := effsT_mem.2 ⟨o, Nat.zero_le _, by simpa using ho', (rdB_ok hr ho').2 hi⟩
    rw [hee] at this; cases this
  intro f
  induction f with
  | zero =>
    intro done w lg env H k hx σ ρ h W L he hh hw hr X hX
    unfold treeX at hx
    split at hx
    · rename_i hp hee
      exact ⟨noR hr hp hee, hX σ lg env ρ H h (Le.refl σ) he hh hx⟩
    · cases hx
  | succ f ih =>
    intro done w lg env H k hx σ ρ h W L he hh hw hr X hX
    unfold treeX at hx
    split at hx
    · rename_i i hp
      obtain ⟨o, _, ho, hrd, hcl⟩ := pickT_some hp
      rw [Nat.sub_zero] at ho
      have hi : i < ops.size := by have := (List.getElem?_eq_some_iff.1 ho).1; simpa using this
      have hri := (rdB_ok hr ho).1 hrd
      rw [ho] at hx
      simp only [] at hx
      split at hx
      · rename_i y hy
        obtain ⟨v, g1, g2, g3⟩ := valG_ok hy hcl he hh
        cases hk : clsO P o with
        | pure =>
          rw [hk] at hx
          exact .inr (.inl ⟨i, o, v, hri, ho, hk, g3 hk, ih hx (he.put o.dst g1) hh hw (hr.set hi) hX⟩)
        | read =>
          rw [hk] at hx
          refine .inr (.inr (.inl ⟨i, o, v, hri, ho, hk, g2, ih hx (he.put o.dst g1) hh ?_ (hr.set hi) hX⟩))
          unfold WT
          exact ⟨ρ, v, W, rfl, he, g1, hcl, hw⟩
        | eff => exact absurd hk hcl
      · cases hx
    · rename_i hp
      split at hx
      · rename_i hee
        exact .inl ⟨noR hr hp hee, hX σ lg env ρ H h (Le.refl σ) he hh hx⟩
      · rename_i i r hee
        simp only [cond_false] at hx
        have hall := allI_ok hx
        refine .inr (.inr (.inr ⟨?_, ?_⟩))
        · intro hnil
          have him : i ∈ effsT done ops.toList 0 := by rw [hee]; exact List.mem_cons_self ..
          obtain ⟨o, _, ho, hrd⟩ := effsT_mem.1 him
          rw [Nat.sub_zero] at ho
          have := (rdB_ok hr ho).1 hrd
          rw [hnil] at this; cases this
        · intro j hj
          obtain ⟨_, _, o, ho, _⟩ := Go.Hw.mem_ready.1 hj
          have ho' : ops.toList[j]? = some o := by rw [Array.getElem?_toList]; exact ho
          have hjr := (rdB_ok hr ho').2 hj
          have hjm : j ∈ effsT done ops.toList 0 := effsT_mem.2 ⟨o, Nat.zero_le _, by simpa using ho', hjr⟩
          have hcl := pickT_none hp ho' (by rw [Nat.zero_add]; exact hjr)
          have hrun := hall j (by rw [← hee]; exact hjm)
          rw [ho'] at hrun
          simp only [] at hrun
          rw [hcl] at hrun
          simp only [] at hrun
          refine ⟨o, ho', hcl, denOp_step (entB_ok P) (stepX_ok hc hrun he hh ?_)⟩
          intro σ' env' ρ' H' h' hl he' hh' hk
          cases hck : chkT P G n ops.toList ((masks ops.toList []).getD j 0) H' w with
          | false => rw [hck] at hk; cases hk
          | true =>
            rw [hck] at hk
            have hi : j < ops.size := by have := (List.getElem?_eq_some_iff.1 ho').1; simpa using this
            exact ⟨chkT_ok hh' hck (hw.mono hl), ih hk he' hh' (hw.mono hl) (hr.set hi) fun σ'' lg'' env'' ρ'' H'' h'' hl' => hX σ'' lg'' env'' ρ'' H'' h'' (hl.trans hl')⟩
def TreOk (P : Program) (G : Nat) (h0 : Hp) (tr : Tre Bool) : Prop := ∀ call, CallOk P G h0 call → ∀ n id (ops : Array Oper) env H k, tr call n ops.toList env H k = true → ∀ σ ρ h, ER σ env ρ → HR P G h0 σ H h → ∀ Q : Post,
  (∀ σ' env' ρ' H' h', Le σ σ' → ER σ' env' ρ' → HR P G h0 σ' H' h' → k env' H' = true → Q .normal ρ' h') → D P n (.region id ops true) ρ h Q
def treeB (P : Program) (G : Nat) (callO : Call (Option (Lg × CE × CH))) : Tre Bool := fun call n ops env H k =>
  slotsAll P ops (masks ops []) ops 0 && (match treeX (fun _ => none) P G callO n ops (masks ops []) true ops.length 0 [] [] env H fun lg e h => some (lg, e, h) with
  | some (la, ea, HA) => treeX no P G call n ops (masks ops []) false ops.length 0 [] [] env H (fun lb eb HB => oneX G H.nx lb la eb ea HB HA) && k ea HA
  | none => false)
theorem treeB_ok (hm : P.follows .mixedOrders = true) {callO : Call (Option (Lg × CE × CH))} : TreOk P G h0 (treeB P G callO) := by
  intro call hc n id ops env H k hx σ ρ h he hh Q hQ
  unfold treeB at hx
  rw [Bool.and_eq_true] at hx
  obtain ⟨hsl, hx⟩ := hx
  split at hx
  · rename_i la ea HA _
    rw [Bool.and_eq_true] at hx
    obtain ⟨hx, hk⟩ := hx
    refine D_draw_tree hm hsl ?_
    rw [Array.length_toList] at hx
    refine treeX_ok hc ops.size hx he hh (by unfold WT; rfl) ?_ ?_
    · refine ⟨by simp, fun j => ?_⟩
      rw [bit_eq, Nat.zero_testBit, Array.getD_eq_getD_getElem?, Array.getElem?_replicate]
      split <;> rfl
    · intro σ' lg' env' ρ' H' h' hl he' hh' hone
      obtain ⟨τ, t1, t2, t3⟩ := oneX_ok hone (fun b hb => hh.fresh b hb) hl he' hh'
      exact hQ τ ea ρ' HA h' t1 t2 t3 hk
  · cases hx
def DLW (P : Program) (n : Nat) (c : Code) (ρ : Env) (h : Hp) (Q : Post) : Prop :=
  ∀ a w, Ag n ρ a → hpOf w = h → LW P c (fun e a' w' => ∃ ρ', Ag n ρ' a' ∧ Sm (.loop c) a w a' w' ∧ Q e ρ' (hpOf w')) a w
theorem DLW_D {n : Nat} {c : Code} {ρ : Env} {h : Hp} {Q : Post} (hd : DLW P n c ρ h Q) : D P n (.loop c) ρ h Q := fun a w ha hw => LW_loop (hd a w ha hw)
theorem LW.mono {c : Code} {Q Q' : Exit → Act → World → Prop} {a : Act} {w : World} (h : LW P c Q a w) (hq : ∀ e a' w', Q e a' w' → Q' e a' w') : LW P c Q' a w :=
  fun b k cs => let ⟨e, a', w', q, r⟩ := h b k cs; ⟨e, a', w', hq _ _ _ q, r⟩
theorem DLW_round {n : Nat} {c : Code} {ρ : Env} {h : Hp} {Q : Post} (hd : D P n c ρ h (thenQ (fun ρ' h' => DLW P n c ρ' h' Q) Q)) : DLW P n c ρ h Q := by
  intro a w ha hw
  refine LW_round (wp_mono (hd a w ha hw) ?_)
  rintro e a' w' ⟨ρ', h1, h2, h3⟩
  cases e with
  | normal =>
    refine LW.mono (h3 a' w' h1 rfl) ?_
    rintro e a2 w2 ⟨ρ2, g1, g2, g3⟩
    exact ⟨ρ2, g1, ⟨fun t ht => (g2.1 t ht).trans (h2.1 t ht), h2.2.trans g2.2⟩, g3⟩
  | exit i => exact ⟨ρ', h1, h2, h3⟩
  | goto l => exact ⟨ρ', h1, h2, h3⟩
  | ret => exact ⟨ρ', h1, h2, h3⟩
  | panic ch => exact h3.elim
  | outgrown => exact h3.elim
def BodyOk (P : Program) (G : Nat) (h0 : Hp) (n : Nat) (c : Code) (body : CE → CH → (Exit → CE → CH → Bool) → Bool) : Prop :=
  ∀ env H k, body env H k = true → ∀ σ ρ h, ER σ env ρ → HR P G h0 σ H h → ∀ Q : Post, (∀ e σ' env' ρ' H' h', Le σ σ' → ER σ' env' ρ' → HR P G h0 σ' H' h' → k e env' H' = true → Q e ρ' h') → D P n c ρ h Q
theorem loopX_ok {n : Nat} {c : Code} {body : CE → CH → (Exit → CE → CH → Bool) → Bool} (hb : BodyOk P G h0 n c body) : ∀ (m : Nat) (env : CE) (H : CH) (k : Exit → CE → CH → Bool), loopX no body m env H k = true →
    ∀ σ ρ h, ER σ env ρ → HR P G h0 σ H h → ∀ Q : Post, (∀ e σ' env' ρ' H' h', Le σ σ' → ER σ' env' ρ' → HR P G h0 σ' H' h' → k e env' H' = true → Q e ρ' h') → DLW P n c ρ h Q := by
  intro m
  induction m with
  | zero => intro env H k hx; cases hx
  | succ m ih =>
    intro env H k hx σ ρ h he hh Q hQ
    unfold loopX at hx
    refine DLW_round (hb env H _ hx σ ρ h he hh _ ?_)
    intro e σ' env' ρ' H' h' hl he' hh' hk
    cases e with
    | normal => exact ih env' H' k hk σ' ρ' h' he' hh' Q fun e σ'' env'' ρ'' H'' h'' hl' => hQ e σ'' env'' ρ'' H'' h'' (hl.trans hl')
    | exit i => exact hQ _ σ' env' ρ' H' h' hl he' hh' hk
    | goto l => exact hQ _ σ' env' ρ' H' h' hl he' hh' hk
    | ret => exact hQ _ σ' env' ρ' H' h' hl he' hh' hk
    | panic ch => cases hk
    | outgrown => cases hk
theorem cX_ok {call : Call Bool} (hc : CallOk P G h0 call) (hm : P.follows .mixedOrders = true) {tr : Tre Bool} (ht : TreOk P G h0 tr) {lf n : Nat} : ∀ (c : Code), BodyOk P G h0 n c (cX no P G tr call lf n c) := by
  intro c
  induction c with
  | skip => intro env H k hx σ ρ h he hh Q hQ; exact D_skip (hQ _ σ env ρ H h (Le.refl σ) he hh hx)
  | region id ops draw =>
    intro env H k hx σ ρ h he hh Q hQ
    unfold cX regX at hx
    cases draw with
    | false =>
      exact D_region (entB_ok P) (opsX_ok hc hx he hh fun σ' env' ρ' H' h' hl he' hh' hk => hQ _ σ' env' ρ' H' h' hl he' hh' hk)
    | true =>
      simp only [cond_true] at hx
      cases ho : orderGood P ops.toList (ordX P ops.toList (masks ops.toList []) ops.toList.length 0) with
      | false =>
        rw [ho] at hx
        exact ht call hc n id ops env H _ hx σ ρ h he hh Q fun σ' env' ρ' H' h' hl he' hh' hk => hQ _ σ' env' ρ' H' h' hl he' hh' hk
      | true =>
        rw [ho] at hx
        refine D_draw (entB_ok P) hm (l := ordX P ops.toList (masks ops.toList []) ops.toList.length 0) ?_
        unfold denDraw
        rw [ho]
        exact dDX_ok hc hx he hh (W := []) (by unfold WR; rfl) fun σ' env' ρ' H' h' hl he' hh' hk => hQ _ σ' env' ρ' H' h' hl he' hh' hk
  | seq x y ihx ihy =>
    intro env H k hx σ ρ h he hh Q hQ
    unfold cX at hx
    refine D_seq (ihx env H _ hx σ ρ h he hh _ ?_)
    intro e σ' env' ρ' H' h' hl he' hh' hk
    cases e with
    | normal => exact ihy env' H' k hk σ' ρ' h' he' hh' Q fun e σ'' env'' ρ'' H'' h'' hl' => hQ e σ'' env'' ρ'' H'' h'' (hl.trans hl')
    | exit i => exact hQ _ σ' env' ρ' H' h' hl he' hh' hk
    | goto l => exact hQ _ σ' env' ρ' H' h' hl he' hh' hk
    | ret => exact hQ _ σ' env' ρ' H' h' hl he' hh' hk
    | panic ch => cases hk
    | outgrown => cases hk
  | cond c x y ihx ihy =>
    intro env H k hx σ ρ h he hh Q hQ
    unfold cX at hx
    split at hx
    · rename_i b hb
      obtain ⟨v, h1, h2⟩ := evC_ok hb he hh
      unfold VR at h2; subst h2
      refine D_cond h1 ?_
      cases b with
      | true => exact ihx env H k hx σ ρ h he hh Q hQ
      | false => exact ihy env H k hx σ ρ h he hh Q hQ
    · cases hx
  | block id c ih =>
    intro env H k hx σ ρ h he hh Q hQ
    unfold cX at hx
    refine D_block (ih env H _ hx σ ρ h he hh _ ?_)
    intro e σ' env' ρ' H' h' hl he' hh' hk
    cases e with
    | normal => exact hQ _ σ' env' ρ' H' h' hl he' hh' hk
    | exit i =>
      simp only [blockQ]
      simp only [] at hk
      cases hb : Nat.beq i id with
      | true => rw [hb] at hk; exact hQ _ σ' env' ρ' H' h' hl he' hh' hk
      | false => rw [hb] at hk; exact hQ _ σ' env' ρ' H' h' hl he' hh' hk
    | goto l => exact hQ _ σ' env' ρ' H' h' hl he' hh' hk
    | ret => exact hQ _ σ' env' ρ' H' h' hl he' hh' hk
    | panic ch => cases hk
    | outgrown => cases hk
  | loop c ih =>
    intro env H k hx σ ρ h he hh Q hQ
    unfold cX at hx
    exact DLW_D (loopX_ok ih lf env H k hx σ ρ h he hh Q hQ)
  | rangeFunc f ps x y ihx ihy => intro env H k hx; cases hx
  | exit id => intro env H k hx σ ρ h he hh Q hQ; exact D_exit (hQ _ σ env ρ H h (Le.refl σ) he hh hx)
  | scope c ih =>
    intro env H k hx σ ρ h he hh Q hQ
    unfold cX at hx
    refine D_scope (ih env H _ hx σ ρ h he hh _ ?_)
    intro e σ' env' ρ' H' h' hl he' hh' hk
    cases e with
    | normal => exact hQ _ σ' env' ρ' H' h' hl he' hh' hk
    | exit i => exact hQ _ σ' env' ρ' H' h' hl he' hh' hk
    | goto l => cases hk
    | ret => exact hQ _ σ' env' ρ' H' h' hl he' hh' hk
    | panic ch => cases hk
    | outgrown => cases hk
  | label l => intro env H k hx σ ρ h he hh Q hQ; exact D_label (hQ _ σ env ρ H h (Le.refl σ) he hh hx)
  | goto l => intro env H k hx; cases hx
  | ret => intro env H k hx σ ρ h he hh Q hQ; exact D_ret (hQ _ σ env ρ H h (Le.refl σ) he hh hx)
  | refuse s => intro env H k hx; cases hx
theorem argsX_ok {σ : Sig} : ∀ {l : List CV} {vs : List Value} (i : Nat), VRs σ l vs → ER σ (argsX i l) (argsE i vs) := by
  intro l
  induction l with
  | nil => intro vs i h; unfold VRs at h; subst h; intro t x hx; cases hx
  | cons x l ih =>
    intro vs i h
    unfold VRs at h; obtain ⟨v, r, rfl, h1, h2⟩ := h
    exact (ih (i + 1) h2).put (some i) h1
theorem resX_ok {σ : Sig} {H : CH} {h : Hp} {env : CE} {ρ : Env} (he : ER σ env ρ) (hh : HR P G h0 σ H h) : ∀ {rs : List ResultVar} {l : List CV}, resX P H env rs = some l →
    ∃ vs, VRs σ l vs ∧ ∀ (acc : List Value) (F : List Value → Prop), F (acc.reverse ++ vs) → resM P h rs ρ acc F := by
  intro rs
  induction rs with
  | nil => intro l hl; cases hl; exact ⟨[], by unfold VRs; rfl, fun acc F hF => by simpa [resM] using hF⟩
  | cons r rs ih =>
    intro l hl
    cases r with
    | tmp t =>
      simp only [resX] at hl
      split at hl
      · rename_i x l' hx hl'
        cases hl
        obtain ⟨v, h1, h2⟩ := he t x hx
        obtain ⟨vs, h3, h4⟩ := ih hl'
        refine ⟨v :: vs, by unfold VRs; exact ⟨v, vs, rfl, h2, h3⟩, fun acc F hF => ?_⟩
        unfold resM; rw [h1]
        exact h4 _ F (by simpa using hF)
      · cases hl
    | cell a t =>
      simp only [resX] at hl
      split at hl
      · rename_i b o ha
        cases hu : (P.underlying t).isSome with
        | false => rw [hu] at hl; cases hl
        | true =>
          rw [hu] at hl
          simp only [cond_true] at hl
          split at hl
          · rename_i x l' hx hl'
            cases hl
            obtain ⟨v, h1, h2⟩ := he a _ ha
            unfold VR at h2; obtain ⟨p, hp, rfl⟩ := h2
            obtain ⟨w, g1, g2⟩ := ldX_ok hh hx hp
            obtain ⟨vs, h3, h4⟩ := ih hl'
            refine ⟨w :: vs, by unfold VRs; exact ⟨w, vs, rfl, g1, h3⟩, fun acc F hF => ?_⟩
            unfold resM; rw [h1]
            simp only [vK, xP, nn]
            rw [hu]
            exact g2 _ (h4 _ F (by simpa using hF))
          · cases hl
      · cases hl
theorem resC_ok {σ : Sig} {l : List CV} {vs : List Value} (h : VRs σ l vs) : VR σ (resC l) (resV vs) := by
  rcases l with _ | ⟨x, _ | ⟨y, l⟩⟩
  · unfold VRs at h; subst h; exact VR_undef
  · unfold VRs at h; obtain ⟨v, r, rfl, h1, h2⟩ := h
    unfold VRs at h2; subst h2; exact h1
  · have h' := h
    unfold VRs at h; obtain ⟨v, r, rfl, h1, h2⟩ := h
    unfold VRs at h2; obtain ⟨w, r, rfl, h2, h3⟩ := h2
    show VR σ (.tup (x :: y :: l)) (.tuple ⟨v :: w :: r⟩)
    unfold VR; exact ⟨_, rfl, h'⟩
theorem callX_ok (hm : P.follows .mixedOrders = true) {tr : Tre Bool} (ht : TreOk P G h0 tr) {lf : Nat} : ∀ (m : Nat), CallOk P G h0 (callX no P G tr lf m) := by
  intro m
  induction m with
  | zero => intro g args H k hx; cases hx
  | succ m ih =>
    intro g args H k hx σ h vs hv hh K hK
    unfold callX at hx
    split at hx
    · rename_i fn hfn
      split at hx
      · rename_i c hc
        cases hb : Nat.ble args.length fn.ntmps with
        | false => rw [hb] at hx; cases hx
        | true =>
          rw [hb] at hx
          simp only [cond_true] at hx
          refine calls_of_M hfn hc (by simpa [hv.len] using hb) ?_
          refine cX_ok ih hm ht c _ H _ hx σ _ h (argsX_ok 0 hv) hh _ ?_
          intro e σ' env' ρ' H' h' hl he' hh' hk
          have fin : ∀ l, resX P H' env' fn.results.toList = some l → k (resC l) H' = true → resM P h' fn.results.toList ρ' [] fun l => K (resV l) h' := by
            intro l hl' hk'
            obtain ⟨ws, w1, w2⟩ := resX_ok he' hh' hl'
            exact w2 [] _ (hK σ' _ _ H' h' hl (resC_ok w1) hh' hk')
          cases e with
          | normal =>
            simp only [] at hk
            split at hk
            · rename_i l hl'; exact fin l hl' hk
            · cases hk
          | ret =>
            simp only [] at hk
            split at hk
            · rename_i l hl'; exact fin l hl' hk
            · cases hk
          | exit i => cases hk
          | goto l => cases hk
          | panic ch => cases hk
          | outgrown => cases hk
      · cases hx
    · cases hx
end
end Go.Ix

/-
  A closed call, reckoned: it gives what the small machine gives, and leaves all that was there.
-/
set_option linter.unusedSimpArgs false
set_option linter.unusedVariables false
namespace Go.Ix
open Go Go.Hw
def H0 (G e : Nat) : List (Nat × List CV) → CH
  | [] => ⟨.leaf, G + e⟩
  | (g, cs) :: l => ⟨(H0 G e l).t.set g (some (.tab cs)), G + e⟩
def σ0 (G : Nat) (bs : List Addr) : Sig := fun b => if b < G then some ⟨b, 0, 0, 0⟩ else match bs[b - G]? with
  | some a => some ⟨a.block, a.off, 0, 0⟩
  | none => none
theorem H0_get {G e : Nat} : ∀ {l : List (Nat × List CV)} {b : Nat} {o : CO}, (H0 G e l).t.get b = some o → ∃ cs, (b, cs) ∈ l ∧ o = .tab cs := by
  intro l
  induction l with
  | nil => intro b o h; cases h
  | cons x l ih =>
    intro b o h
    obtain ⟨g, cs⟩ := x
    simp only [H0, T.get_set] at h
    split at h
    · rename_i e; subst e; cases h; exact ⟨cs, List.mem_cons_self .., rfl⟩
    · obtain ⟨c, h1, h2⟩ := ih h; exact ⟨c, List.mem_cons_of_mem _ h1, h2⟩
theorem H0_nx {G e : Nat} : ∀ {l : List (Nat × List CV)}, (H0 G e l).nx = G + e
  | [] => rfl
  | (_, _) :: _ => rfl
def TabAt (σ : Sig) (h : Hp) (g : Nat) (cs : List CV) : Prop := ∃ (vs : List Value) (e : TypeId) (fr : Nat × Nat), h g = some (.cells ⟨vs⟩ e fr) ∧ ∀ (i : Nat) (c : CV), cs[i]? = some c → ∃ v, vs[i]? = some v ∧ VR σ c v
theorem H0_ok {P : Program} {G : Nat} {h : Hp} {l : List (Nat × List CV)} {bs : List Addr} (hg : ∀ x ∈ l, x.1 < G) (ht : ∀ x ∈ l, TabAt (σ0 G bs) h x.1 x.2) : HR P G h (σ0 G bs) (H0 G bs.length l) h := by
  refine ⟨?_, ?_, ?_, fun _ _ h => h, ?_⟩
  · intro b o hb
    obtain ⟨cs, h1, rfl⟩ := H0_get hb
    obtain ⟨vs, e, fr, h2, h3⟩ := ht _ h1
    refine ⟨⟨b, 0, 0, 0⟩, _, by simp [σ0, hg _ h1], h2, ?_⟩
    unfold OR
    refine ⟨vs, e, fr, rfl, fun i c hc => ?_⟩
    obtain ⟨v, h4, h5⟩ := h3 i c hc
    exact ⟨v, by simpa using h4, h5⟩
  · intro b b' o o' p p' g1 g2 hne hp hp'
    obtain ⟨cs, h1, rfl⟩ := H0_get g1
    obtain ⟨cs', h2, rfl⟩ := H0_get g2
    unfold σ0 at hp hp'
    rw [if_pos (hg _ h1)] at hp
    rw [if_pos (hg _ h2)] at hp'
    cases hp; cases hp'; exact hne
  · intro b hb
    rw [H0_nx] at hb
    unfold σ0; rw [if_neg (by omega)]
    rw [List.getElem?_eq_none (by omega)]
  · intro g hgg
    exact ⟨⟨g, 0, 0, 0⟩, by simp [σ0, hgg], rfl, rfl⟩
theorem err_vr {G j t : Nat} {bs : List Addr} {a : Addr} (hj : bs[j]? = some a) (hs : a.spot = none) : VR (σ0 G bs) (.ifc t (.ptr (G + j) 0)) (.iface t (.pointer (some a))) := by
  unfold VR
  refine ⟨_, rfl, ?_⟩
  unfold VR
  refine ⟨⟨a.block, a.off, 0, 0⟩, ?_, ?_⟩
  · unfold σ0
    rw [if_neg (by omega), Nat.add_sub_cancel_left, hj]
  · cases a; simp at hs; subst hs; rfl
theorem spot_of {h : Hp} {a : Addr} {v : Value} (hc : cell h a = some v) : a.spot = none := by
  unfold cell at hc
  split at hc
  · split at hc
    · cases hc
    · rename_i hs; simpa using hs
  · cases hc
def runC (P : Program) (G lf m : Nat) : Call Bool := callX no P G (treeB P G (callX (fun _ => none) P G (tree1 (fun _ => none) P G) lf m)) lf m
theorem closed {P : Program} (hm : P.follows .mixedOrders = true) {G e lf m f : Nat} {l : List (Nat × List CV)} (hg : (l.all fun x => Nat.blt x.1 G) = true)
    (hx : runC P G lf m f [] (H0 G e l) (fun y _ => CV.eq y (.bool true)) = true) {h : Hp} {bs : List Addr} (he : bs.length = e) (ht : ∀ x ∈ l, TabAt (σ0 G bs) h x.1 x.2) {K : Value → Hp → Prop}
    (hK : ∀ h', Ext none' h h' → K (.bool true) h') : HCalls P f ⟨[]⟩ h K := by
  have hg' : ∀ x ∈ l, x.1 < G := fun x hx => by have := List.all_eq_true.1 hg x hx; simpa [Nat.blt_eq] using this
  subst he
  refine callX_ok (h0 := h) hm (treeB_ok hm) m f [] _ _ hx (σ0 G bs) h [] (by unfold VRs; rfl) (H0_ok hg' ht) K ?_
  intro σ' y v H' h' hl hv hh' hk
  have := CV.eq_eq _ _ hk; subst this
  unfold VR at hv; subst hv
  exact hK h' fun b o hb _ => hh'.keep b o hb
end Go.Ix

/-
  The frame of the laws: what is laid; a world that meets it; the tables as they are read.
-/
set_option linter.unusedSimpArgs false
set_option linter.unusedVariables false
namespace Go.Proofs.YtedklcmdjoojfaaDoor
open Go Go.Hw Go.Ix
open Go.ChangeShapes Go.WideShapes Go.ChangeAt Go.RowKit
theorem own_knob : ownKnob Tryd.prog.godebug = none := by kernel_rfl
theorem laid_out : laidOutB Tryd.prog = true := by kernel_rfl
theorem follows_mixed : Tryd.prog.follows .mixedOrders = true := by kernel_rfl
noncomputable def low : Nat := (World.holding Tryd.prog default ⟨#[], #[], []⟩).heap.size
def rowOf {H : Type} (d : DataW H) : Array Value := match d with
  | .agg l => (l.flatMap fun
    | .lit (.int k n) => [Value.int k n]
    | .agg m => m.map fun | .lit (.int k n) => Value.int k n | _ => .nilIface
    | _ => []).toArray
  | _ => #[]
def layAt (w : World) (g : Nat) (cs : Array Value) : World :=
  { w with heap := w.heap.modify g fun
      | .cells _ t frozen => .cells cs t frozen
      | o => o }
noncomputable def laidWorld (os : Os) : World :=
  layAt (layAt (layAt (layAt (layAt (World.holding Tryd.prog os ⟨#[.cells #[.string ⟨⟨[118, 97, 108, 117, 101, 32, 111, 117, 116, 32, 111, 102, 32, 114, 97, 110, 103, 101]⟩⟩] 134, .cells #[.string ⟨⟨[105, 110, 118, 97, 108, 105, 100, 32, 115, 121, 110, 116, 97, 120]⟩⟩] 134], #[], []⟩) 2 (rowOf (H := Unit) Rows.laid_math_bits_deBruijn32tab)) 3 (rowOf (H := Unit) Rows.laid_math_bits_deBruijn64tab)) 1 (rowOf (H := Unit) Rows.laid_internal_strconv_uint64pow10)) 5 #[.iface 132 (.pointer (some ⟨low + 0, 0, none⟩))]) 4 #[.iface 132 (.pointer (some ⟨low + 1, 0, none⟩))]
abbrev laidL : List (String × DataW Unit) := Rows.tftpNumbersRow.laid
theorem laid_met (os : Os) (args : Array Value) : laidMetH Tryd.prog laidL ((laidWorld os).forCall (fun _ _ => 0) ⟨#[], args, []⟩).memory := by
  have h : laidMet Tryd.prog laidL ((laidWorld os).forCall (fun _ _ => 0) ⟨#[], args, []⟩).memory := laidMet_of_run' 8 (by kernel_rfl) (by kernel_rfl)
  exact h
theorem none_handles : (laidL.filter fun x => x.2.handleName?.isSome) = [] := by kernel_rfl
def tab0L : List Int := [0, 1, 28, 2, 29, 14, 24, 3, 30, 22, 20, 15, 25, 17, 4, 8, 31, 27, 13, 23, 21, 19, 16, 7, 26, 12, 18, 6, 11, 5, 10, 9]
theorem tab0 {W : World} (h : laidMetH Tryd.prog laidL W) (σ : Sig) : TabAt σ (hpOf W) 2 (tab0L.map fun z => CV.int .u8 z) := by
  have hp := laid_one h none_handles (n := "math/bits.deBruijn32tab") (d := Rows.laid_math_bits_deBruijn32tab) (by kernel_rfl)
  rw [show (Rows.laid_math_bits_deBruijn32tab : DataW Unit) = Lib.tabData .u8 tab0L by kernel_rfl] at hp
  have hg : Tryd.prog.globalNamed "math/bits.deBruijn32tab" = some 2 := by kernel_rfl
  have tab : Lib.TabIs Tryd.prog W "math/bits.deBruijn32tab" .u8 tab0L :=
    Lib.tabIs_of_head hg (t := 123) (e := 5) (n := 32) (by kernel_rfl) (by kernel_rfl) (by kernel_rfl) (by kernel_rfl) (by kernel_rfl) hp
  unfold Lib.TabIs World.var? at tab
  rw [hg] at tab
  simp only [Option.bind_some] at tab
  cases hb : W.heap[2]? with
  | none => rw [hb] at tab; cases tab
  | some o =>
    rw [hb] at tab
    cases o <;> simp at tab
    rename_i c e fr
    refine ⟨c.toList, e, fr, hb, fun i x hx => ?_⟩
    rw [List.getElem?_map] at hx
    cases hz : tab0L[i]? with
    | none => rw [hz] at hx; cases hx
    | some z =>
      rw [hz] at hx; cases hx
      refine ⟨.int .u8 z, by rw [tab]; simp [hz], by unfold VR; rfl⟩
def tab1L : List Int := [0, 1, 56, 2, 57, 49, 28, 3, 61, 58, 42, 50, 38, 29, 17, 4, 62, 47, 59, 36, 45, 43, 51, 22, 53, 39, 33, 30, 24, 18, 12, 5, 63, 55, 48, 27, 60, 41, 37, 16, 46, 35, 44, 21, 52, 32, 23, 11, 54, 26, 40, 15, 34, 20, 31, 10, 25, 14, 19, 9, 13, 8, 7, 6]
theorem tab1 {W : World} (h : laidMetH Tryd.prog laidL W) (σ : Sig) : TabAt σ (hpOf W) 3 (tab1L.map fun z => CV.int .u8 z) := by
  have hp := laid_one h none_handles (n := "math/bits.deBruijn64tab") (d := Rows.laid_math_bits_deBruijn64tab) (by kernel_rfl)
  rw [show (Rows.laid_math_bits_deBruijn64tab : DataW Unit) = Lib.tabData .u8 tab1L by kernel_rfl] at hp
  have hg : Tryd.prog.globalNamed "math/bits.deBruijn64tab" = some 3 := by kernel_rfl
  have tab : Lib.TabIs Tryd.prog W "math/bits.deBruijn64tab" .u8 tab1L :=
    Lib.tabIs_of_head hg (t := 124) (e := 5) (n := 64) (by kernel_rfl) (by kernel_rfl) (by kernel_rfl) (by kernel_rfl) (by kernel_rfl) hp
  unfold Lib.TabIs World.var? at tab
  rw [hg] at tab
  simp only [Option.bind_some] at tab
  cases hb : W.heap[3]? with
  | none => rw [hb] at tab; cases tab
  | some o =>
    rw [hb] at tab
    cases o <;> simp at tab
    rename_i c e fr
    refine ⟨c.toList, e, fr, hb, fun i x hx => ?_⟩
    rw [List.getElem?_map] at hx
    cases hz : tab1L[i]? with
    | none => rw [hz] at hx; cases hx
    | some z =>
      rw [hz] at hx; cases hx
      refine ⟨.int .u8 z, by rw [tab]; simp [hz], by unfold VR; rfl⟩
def tab2L : List Int := [1, 10, 100, 1000, 10000, 100000, 1000000, 10000000, 100000000, 1000000000, 10000000000, 100000000000, 1000000000000, 10000000000000, 100000000000000, 1000000000000000, 10000000000000000, 100000000000000000, 1000000000000000000, 10000000000000000000]
theorem tab2 {W : World} (h : laidMetH Tryd.prog laidL W) (σ : Sig) : TabAt σ (hpOf W) 1 (tab2L.map fun z => CV.int .u64 z) := by
  have hp := laid_one h none_handles (n := "internal/strconv.uint64pow10") (d := Rows.laid_internal_strconv_uint64pow10) (by kernel_rfl)
  rw [show (Rows.laid_internal_strconv_uint64pow10 : DataW Unit) = Lib.tabData .u64 tab2L by kernel_rfl] at hp
  have hg : Tryd.prog.globalNamed "internal/strconv.uint64pow10" = some 1 := by kernel_rfl
  have tab : Lib.TabIs Tryd.prog W "internal/strconv.uint64pow10" .u64 tab2L :=
    Lib.tabIs_of_head hg (t := 106) (e := 80) (n := 20) (by kernel_rfl) (by kernel_rfl) (by kernel_rfl) (by kernel_rfl) (by kernel_rfl) hp
  unfold Lib.TabIs World.var? at tab
  rw [hg] at tab
  simp only [Option.bind_some] at tab
  cases hb : W.heap[1]? with
  | none => rw [hb] at tab; cases tab
  | some o =>
    rw [hb] at tab
    cases o <;> simp at tab
    rename_i c e fr
    refine ⟨c.toList, e, fr, hb, fun i x hx => ?_⟩
    rw [List.getElem?_map] at hx
    cases hz : tab2L[i]? with
    | none => rw [hz] at hx; cases hx
    | some z =>
      rw [hz] at hx; cases hx
      refine ⟨.int .u64 z, by rw [tab]; simp [hz], by unfold VR; rfl⟩
theorem errstr (u : TypeId) (h : Tryd.prog.typeName? 3 u = some "*errors.errorString") : u = 132 :=
  typeName_ptr_named (nm := "errors.errorString") (by rw [show "*" ++ "errors.errorString" = "*errors.errorString" by decide]; kernel_rfl) (by kernel_rfl) (by decide) u (by rw [show "*" ++ "errors.errorString" = "*errors.errorString" by decide]; exact h)
theorem err0 {W : World} (h : laidMetH Tryd.prog laidL W) : ∃ a : Addr, a.spot = none ∧ ∃ e fr, hpOf W 5 = some (.cells ⟨[.iface 132 (.pointer (some a))]⟩ e fr) := by
  have hs := laid_one h none_handles (n := "strconv.ErrRange") (d := Rows.laid_strconv_ErrRange) (by kernel_rfl)
  have hg : Tryd.prog.globalNamed "strconv.ErrRange" = some 5 := by kernel_rfl
  obtain ⟨a, s, hv, hc, _, _⟩ := laid_sentinel (ti := 99) (tp := 132) (te := 134) (ts := 9) (ms := #[("Error", 135)]) (f := ⟨"s", 9, 0, false, "", "errors", 0⟩) hs hg (by kernel_rfl) (by kernel_rfl) errstr (by kernel_rfl) (by kernel_rfl) rfl rfl (by kernel_rfl) (by kernel_rfl) (by kernel_rfl)
  refine ⟨a, spot_of (h := hpOf W) (by rw [cell_hp]; exact hc), ?_⟩
  unfold World.var? at hv
  rw [hg] at hv
  simp only [Option.bind_some] at hv
  cases hb : W.heap[5]? with
  | none => rw [hb] at hv; cases hv
  | some o =>
    rw [hb] at hv
    cases o <;> simp at hv
    rename_i c e fr
    exact ⟨e, fr, by show W.heap[5]? = _; rw [hb, hv]⟩
theorem err1 {W : World} (h : laidMetH Tryd.prog laidL W) : ∃ a : Addr, a.spot = none ∧ ∃ e fr, hpOf W 4 = some (.cells ⟨[.iface 132 (.pointer (some a))]⟩ e fr) := by
  have hs := laid_one h none_handles (n := "strconv.ErrSyntax") (d := Rows.laid_strconv_ErrSyntax) (by kernel_rfl)
  have hg : Tryd.prog.globalNamed "strconv.ErrSyntax" = some 4 := by kernel_rfl
  obtain ⟨a, s, hv, hc, _, _⟩ := laid_sentinel (ti := 99) (tp := 132) (te := 134) (ts := 9) (ms := #[("Error", 135)]) (f := ⟨"s", 9, 0, false, "", "errors", 0⟩) hs hg (by kernel_rfl) (by kernel_rfl) errstr (by kernel_rfl) (by kernel_rfl) rfl rfl (by kernel_rfl) (by kernel_rfl) (by kernel_rfl)
  refine ⟨a, spot_of (h := hpOf W) (by rw [cell_hp]; exact hc), ?_⟩
  unfold World.var? at hv
  rw [hg] at hv
  simp only [Option.bind_some] at hv
  cases hb : W.heap[4]? with
  | none => rw [hb] at hv; cases hv
  | some o =>
    rw [hb] at hv
    cases o <;> simp at hv
    rename_i c e fr
    exact ⟨e, fr, by show W.heap[4]? = _; rw [hb, hv]⟩
def tabL : List (Nat × List CV) := [(2, tab0L.map fun z => CV.int .u8 z), (3, tab1L.map fun z => CV.int .u8 z), (1, tab2L.map fun z => CV.int .u64 z), (5, [.ifc 132 (.ptr (6 + 0) 0)]), (4, [.ifc 132 (.ptr (6 + 1) 0)])]
def erN : Nat := 2
theorem tabs_of {W : World} (h : laidMetH Tryd.prog laidL W) : ∃ bs : List Addr, bs.length = erN ∧ ∀ x ∈ tabL, TabAt (σ0 6 bs) (hpOf W) x.1 x.2 := by
  obtain ⟨a0, s0, e0, f0, c0⟩ := err0 h
  obtain ⟨a1, s1, e1, f1, c1⟩ := err1 h
  refine ⟨[a0, a1], rfl, ?_⟩
  intro x hx
  simp only [tabL, List.mem_cons, List.mem_nil_iff, or_false] at hx
  rcases hx with rfl | rfl | rfl | rfl | rfl
  · exact tab0 h _
  · exact tab1 h _
  · exact tab2 h _
  · exact ⟨_, e0, f0, c0, fun i c hc => by
      cases i with
      | zero => cases hc; exact ⟨_, rfl, err_vr (j := 0) rfl s0⟩
      | succ i => cases hc⟩
  · exact ⟨_, e1, f1, c1, fun i c hc => by
      cases i with
      | zero => cases hc; exact ⟨_, rfl, err_vr (j := 1) rfl s1⟩
      | succ i => cases hc⟩
def glN : Nat := 6
end Go.Proofs.YtedklcmdjoojfaaDoor

/-
  What is laid is what the walks of layer 17 ask for; what a few calls answer (live).
-/
set_option linter.unusedSimpArgs false
set_option linter.unusedVariables false
namespace Go.Proofs.YtedklcmdjoojfaaDoor
open Go Go.Hw
open Go.ChangeShapes Go.WideShapes Go.ChangeAt Go.RowKit
set_option maxRecDepth 100000 in
theorem live_reckoned : Ix.runC Tryd.prog glN 1000000 1000 8 [] (Ix.H0 glN erN tabL) (fun y _ => Ix.CV.eq y (.bool true)) = true := by kernel_rfl
theorem tab_ext {σ : Ix.Sig} {h h' : Hp} {g : Nat} {cs : List Ix.CV} (H : Ix.TabAt σ h g cs) (he : Ext none' h h') : Ix.TabAt σ h' g cs := by
  obtain ⟨vs, e, fr, h1, h2⟩ := H
  exact ⟨vs, e, fr, he _ _ h1 (fun e => e), h2⟩
def Laid (h : Hp) : Prop := ∃ bs : List Addr, bs.length = erN ∧ ∀ x ∈ tabL, Ix.TabAt (Ix.σ0 glN bs) h x.1 x.2
theorem Laid.ext {h h' : Hp} (H : Laid h) (he : Ext none' h h') : Laid h' := let ⟨bs, h1, h2⟩ := H; ⟨bs, h1, fun x hx => tab_ext (h2 x hx) he⟩
theorem laid_of {W : World} (h : laidMetH Tryd.prog laidL W) : Laid (hpOf W) := tabs_of h
theorem c_live {h : Hp} {K : Bool → Hp → Prop} (L : Laid h) (hK : ∀ h', Ext none' h h' → K true h') : C8 h K := by
  obtain ⟨bs, hb, ht⟩ := L
  unfold C8
  exact (Ix.closed (bs := bs) follows_mixed (by kernel_rfl) live_reckoned hb ht (K := fun v h' => v = .bool true ∧ Ext none' h h') fun h' he => ⟨rfl, he⟩).mono fun v h' ⟨e, he⟩ => by subst e; exact hK h' he
end Go.Proofs.YtedklcmdjoojfaaDoor

/-
  Books begun; lent lists read; what the second form's bound gives (OcM and OcU, over this seat's texts).
-/
set_option linter.unusedSimpArgs false
set_option linter.unusedVariables false
namespace Go.Proofs.YtedklcmdjoojfaaDoor
open Go Go.Hw
theorem bulk_one {H : Type} (d : DataW H) : 1 ≤ Rows.uptoBulk d := by
  cases d with
  | lit l => cases l <;> simp [Rows.uptoBulk]
  | _ => simp [Rows.uptoBulk]
theorem bulk_len {H : Type} (l : List (DataW H)) : l.length ≤ Rows.uptoBulkAll l := by
  induction l with
  | nil => simp [Rows.uptoBulkAll]
  | cons x r ih => have := bulk_one x; simp only [Rows.uptoBulkAll, List.length_cons]; omega
theorem bulk_slice {H : Type} (e s : List (DataW H)) : e.length ≤ Rows.uptoBulk (.slice e s) := by
  have := bulk_len e
  simp only [Rows.uptoBulk]; omega
end Go.Proofs.YtedklcmdjoojfaaDoor

/-
  Packets and choices that a law is handed: opened.
-/
set_option linter.unusedSimpArgs false
set_option linter.unusedVariables false
namespace Go.Proofs.YtedklcmdjoojfaaDoor
open Go Go.Hw
open Go.ChangeShapes Go.WideShapes Go.ChangeAt Go.RowKit
theorem optB_len {o : Opt} {b : Nat} (h : o.1.size + 3 ≤ b) (hv : o.2 ≤ 9223372036854775807) : (optB o).length ≤ 8 * b := by
  have hs : o.1.size = o.1.data.toList.length := by show o.1.data.size = _; simp
  have := dec_lt 19 o.2.toNat (by omega)
  simp only [optB, List.length_append, List.length_cons, List.length_nil]
  omega
theorem optsB_bulk {H : Type} : ∀ (os : List Opt) (ds : List (DataW H)), os.length = ds.length → (∀ (i : Nat) o d, os[i]? = some o → ds[i]? = some d → o.1.size + 3 ≤ Rows.uptoBulk d ∧ o.2 ≤ 9223372036854775807) → (optsB os).length ≤ 8 * Rows.uptoBulkAll ds
  | [], ds, _, _ => by simp [optsB]
  | o :: os, d :: ds, hl, h => by
    have h1 := h 0 o d rfl rfl
    have h2 := optsB_bulk os ds (by simpa using hl) fun i o' d' ho hd => h (i + 1) o' d' ho hd
    have h3 := optB_len h1.1 h1.2
    have e : optsB (o :: os) = optB o ++ optsB os := rfl
    rw [e, List.length_append]
    simp only [Rows.uptoBulkAll]
    omega
section
variable {H : Type} {enc : TypeId × Value → H}
set_option maxRecDepth 100000 in
theorem choice_one {W : World} {sp : Nat → Bool} {held : Bool} {n : Nat} {cs : List Value} {y : DataW H × List MemPlace} (hf : DataW.trod enc Tryd.prog W 0 sp held n 56 cs = some y) :
    ∃ o : Opt, cs = oc o ∧ o.1.size + 3 ≤ Rows.uptoBulk y.1 ∧ -9223372036854775808 ≤ o.2 ∧ o.2 ≤ 9223372036854775807 := by
  have hu : Tryd.prog.underlying 56 = some (.struct #[.mk "Name" 9 0 false "" "" 0, .mk "Value" 3 1 false "" "" 16]) := by kernel_rfl
  obtain ⟨xs, m, _, rfl, hl, hxl, hx⟩ := DataW.trod_struct hu hf
  rw [ch_a] at hl
  have hxl : xs.length = 2 := hxl
  match cs, hl with
  | [u0, u1], _ =>
    match xs, hxl with
    | [y0, y1], _ =>
      have g0 := hx 0 _ rfl
      have g1 := hx 1 _ rfl
      simp only [show Tryd.prog.cellsOf 9 = 1 from by kernel_rfl, show Tryd.prog.cellsOf 3 = 1 from by kernel_rfl, List.drop_zero, List.drop_succ_cons, List.take_succ_cons, List.take_zero, List.getElem?_cons_zero, List.getElem?_cons_succ] at g0 g1
      obtain ⟨s, e0, d0, _⟩ := DataW.trod_string (by kernel_rfl) g0
      obtain ⟨v, e1, d1, hw⟩ := DataW.trod_int (k := .i64) (by kernel_rfl) g1
      cases e0; cases e1
      have hw := wfb hw
      simp [IntKind.min, IntKind.max, IntKind.signed, IntKind.bits] at hw
      refine ⟨(s, v), rfl, ?_, hw.1, hw.2⟩
      rw [d0, d1]
      have hs : s.size = s.data.toList.length := by show s.data.size = _; simp
      simp only [List.map_cons, List.map_nil, Rows.uptoBulk, Rows.uptoBulkAll]
      omega
theorem choices_core {W : World} {held : Bool} {n : Nat} {cs : List Value} {y : DataW H × List MemPlace} (hf : DataW.trod enc Tryd.prog W 0 (fun _ => true) held n 23 cs = some y) :
    ∃ (s : Sl) (os : List Opt), cs = [s.v] ∧ RdO (hpOf W) s os ∧ os.length ≤ Rows.uptoBulk y.1 ∧ (optsB os).length ≤ 8 * Rows.uptoBulk y.1 ∧ (s.c = 0 ∨ ∃ elems spare, y.1 = .slice elems spare ∧ elems.length + spare.length = s.c) := by
  rcases DataW.trod_slice (e := 56) (by kernel_rfl) hf with ⟨h0, hx⟩ | ⟨a, len, cap, elems, rest, m, _, h1, hx, _, hl, _, hlen, hel, hsp, _⟩
  · exact ⟨⟨none, 0, 0⟩, [], h0, ⟨rfl, Nat.le_refl _, by intro i v hi; simp at hi⟩, by simp, by simp [optsB], .inl rfl⟩
  · rw [ch_a] at hel
    have each : ∀ i ∈ List.range len, ∃ o : Opt, (∃ d, (elems.map (·.1))[i]? = some d ∧ o.1.size + 3 ≤ Rows.uptoBulk d ∧ o.2 ≤ 9223372036854775807) ∧ cell (hpOf W) (a.add (i * 2)) = some (.string o.1) ∧ cell (hpOf W) (a.add (i * 2 + 1)) = some (.int .i64 o.2) := by
      intro i hi
      have hi := List.mem_range.1 hi
      have h2 := hel i hi
      rw [List.getElem?_eq_getElem (by omega)] at h2
      obtain ⟨cs, h3, h4⟩ := Option.bind_eq_some_iff.1 h2
      obtain ⟨o, rfl, hb, _, hv⟩ := choice_one h4
      have c := (World.cells?_some h3).2.2
      have c0 := c 0 (by omega)
      have c1 := c 1 (by omega)
      rw [add_add] at c0 c1
      refine ⟨o, ⟨elems[i].1, by rw [List.getElem?_map, List.getElem?_eq_getElem (by omega)]; rfl, hb, hv⟩, ?_, ?_⟩
      · rw [cell_hp]; exact c0
      · rw [cell_hp]; exact c1
    obtain ⟨os, hol, ho⟩ := pick_all (fun (i : Nat) (o : Opt) => (∃ d, (elems.map (·.1))[i]? = some d ∧ o.1.size + 3 ≤ Rows.uptoBulk d ∧ o.2 ≤ 9223372036854775807) ∧ cell (hpOf W) (a.add (i * 2)) = some (.string o.1) ∧ cell (hpOf W) (a.add (i * 2 + 1)) = some (.int .i64 o.2)) each
    simp only [List.length_range] at hol
    have hox : ∀ (i : Nat) o, os[i]? = some o → (∃ d, (elems.map (·.1))[i]? = some d ∧ o.1.size + 3 ≤ Rows.uptoBulk d ∧ o.2 ≤ 9223372036854775807) ∧ cell (hpOf W) (a.add (i * 2)) = some (.string o.1) ∧ cell (hpOf W) (a.add (i * 2 + 1)) = some (.int .i64 o.2) := by
      intro i o hi
      have hil : i < len := by rw [← hol]; exact (List.getElem?_eq_some_iff.1 hi).1
      obtain ⟨o', h1, h2⟩ := ho i i (by simp [hil])
      rw [hi] at h1
      cases h1
      exact h2
    have hb := optsB_bulk os (elems.map (·.1)) (by simp; omega) fun i o d h1 h2 => by
      obtain ⟨⟨d', h3, h4⟩, _⟩ := hox i o h1
      rw [h2] at h3
      cases h3
      exact h4
    have hsl := (hsp rfl).1
    refine ⟨⟨some a, len, cap⟩, os, h1, ⟨hol.symm, hl, ?_⟩, ?_, ?_, ?_⟩
    · intro i v hi
      have hlt := (List.getElem?_eq_some_iff.1 hi).1
      rw [oc_len] at hlt
      obtain ⟨j, hj⟩ : ∃ j, i = j * 2 ∨ i = j * 2 + 1 := ⟨i / 2, by omega⟩
      have hk : j < os.length := by omega
      obtain ⟨g1, g2⟩ := oc_get os j hk
      obtain ⟨_, k1, k2⟩ := hox j _ (List.getElem?_eq_getElem hk)
      refine ⟨a, rfl, ?_⟩
      rcases hj with rfl | rfl
      · rw [g1] at hi
        cases hi
        exact k1
      · rw [g2] at hi
        cases hi
        exact k2
    · rw [hx]
      have := bulk_slice (H := H) (elems.map (·.1)) (rest.map (·.1))
      simp only [List.length_map] at this
      dsimp only
      omega
    · rw [hx]
      simp only [Rows.uptoBulk]
      omega
    · refine .inr ⟨_, _, by rw [hx], ?_⟩
      simp only [List.length_map]
      omega
end
end Go.Proofs.YtedklcmdjoojfaaDoor

/-
  Choices and an offer that a law is handed: opened.
-/
set_option linter.unusedSimpArgs false
set_option linter.unusedVariables false
namespace Go.Proofs.YtedklcmdjoojfaaDoor
open Go Go.Hw
open Go.ChangeShapes Go.WideShapes Go.ChangeAt Go.RowKit
section
variable {H : Type} {enc : TypeId × Value → H}
set_option maxRecDepth 100000 in
theorem choices_open {r : Reach} {W : World} {b0 : Nat} {held : Bool} {v : Value} {d : DataW H} {ps : List MemPlace} (hwt : ∀ n ∈ d.weights Tryd.prog 23, n ≤ reachBytes) (hval : Value.okWide Tryd.prog W r b0 23 v) (hd : DataW.Trod enc Tryd.prog W 0 (fun _ => true) held 23 v d ps) :
    ∃ (s : Sl) (os : List Opt), v = s.v ∧ RdO (hpOf W) s os ∧ os.length ≤ 5864062014635 := by
  obtain ⟨p, n, c, rfl⟩ := WideShapes.okWide_slice (e := 56) (by kernel_rfl) hval
  obtain ⟨fuel, hf⟩ := hd
  replace hf : DataW.trod enc Tryd.prog W 0 (fun _ => true) held fuel 23 [.slice p n c] = some (d, ps) := hf
  obtain ⟨s, os, e, ho, hol, hob, hoc⟩ := choices_core hf
  cases s with
  | mk p' n' c' =>
  simp only [Sl.v, List.cons.injEq, Value.slice.injEq, and_true] at e
  obtain ⟨rfl, rfl, rfl⟩ := e
  refine ⟨⟨p, n, c⟩, os, rfl, ho, ?_⟩
  have hn := ho.n
  have hc := ho.c
  rcases hoc with h | ⟨el, sp, hd, hls⟩
  · simp only at hn hc h; omega
  · have := hwt ((el.length + sp.length) * Tryd.prog.bytesOf 56) (by
      rw [show d = _ from hd]; simp only [DataW.weights, show Tryd.prog.underlying 23 = some (.slice 56) from by kernel_rfl]; simp)
    rw [ch_b] at this
    unfold reachBytes at this
    simp only at hn hc hls
    omega
set_option maxRecDepth 100000 in
theorem offer_open {r : Reach} {W : World} {b0 : Nat} {held : Bool} {v : Value} {d : DataW H} {ps : List MemPlace} (hval : Value.okWide Tryd.prog W r b0 46 v) (hd : DataW.Trod enc Tryd.prog W 0 (fun _ => true) held 46 v d ps) :
    ∃ (bl wi si mo : Int) (nm : ByteArray), v = .agg #[.int .i64 bl, .int .i64 wi, .int .i64 si, .int .i64 mo, .string nm] := by
  have hu : Tryd.prog.underlying 46 = some (.struct #[.mk "Block" 3 0 false "" "" 0, .mk "Window" 3 1 false "" "" 8, .mk "Size" 3 2 false "" "" 16, .mk "Most" 3 3 false "" "" 24, .mk "Name" 9 4 false "" "" 32]) := by kernel_rfl
  obtain ⟨⟨cs⟩, rfl, hsz⟩ := okWide_struct hu hval
  obtain ⟨fuel, hf⟩ := hd
  replace hf : DataW.trod enc Tryd.prog W 0 (fun _ => true) held fuel 46 cs = some (d, ps) := hf
  obtain ⟨xs, m, _, hxe, hl, hxl, hx⟩ := DataW.trod_struct hu hf
  rw [show Tryd.prog.cellsOf 46 = 5 from by kernel_rfl] at hl
  have hxl : xs.length = 5 := hxl
  match cs, hl with
  | [u0, u1, u2, u3, u4], _ =>
    match xs, hxl with
    | [y0, y1, y2, y3, y4], _ =>
      have g0 := hx 0 _ rfl
      have g1 := hx 1 _ rfl
      have g2 := hx 2 _ rfl
      have g3 := hx 3 _ rfl
      have g4 := hx 4 _ rfl
      simp only [show Tryd.prog.cellsOf 9 = 1 from by kernel_rfl, show Tryd.prog.cellsOf 3 = 1 from by kernel_rfl,
        List.drop_zero, List.drop_succ_cons, List.take_succ_cons, List.take_zero, List.getElem?_cons_zero, List.getElem?_cons_succ] at g0 g1 g2 g3 g4
      obtain ⟨bl, e0, _, _⟩ := DataW.trod_int (k := .i64) (by kernel_rfl) g0
      obtain ⟨wi, e1, _, _⟩ := DataW.trod_int (k := .i64) (by kernel_rfl) g1
      obtain ⟨si, e2, _, _⟩ := DataW.trod_int (k := .i64) (by kernel_rfl) g2
      obtain ⟨mo, e3, _, _⟩ := DataW.trod_int (k := .i64) (by kernel_rfl) g3
      obtain ⟨nm, e4, _, _⟩ := DataW.trod_string (by kernel_rfl) g4
      cases e0; cases e1; cases e2; cases e3; cases e4
      exact ⟨bl, wi, si, mo, nm, rfl⟩
end
end Go.Proofs.YtedklcmdjoojfaaDoor

set_option linter.unusedVariables false
set_option maxRecDepth 100000
namespace Go.Proofs.YtedklcmdjoojfaaDoor
open Go Go.Hw
noncomputable def B6 : Code := match Tryd.f6.body with | some c => c | none => .skip
def N6 (x0 : Sl) (x1 : Sl) (x2_0 : Int) (x2_1 : Int) (x2_2 : Int) (x2_3 : Int) (x2_4 : ByteArray) (h : Hp) (K : Bool → Hp → Prop) : Prop :=
  nw h (.cells ⟨[.int .i64 x2_0, .int .i64 x2_1, .int .i64 x2_2, .int .i64 x2_3, .string x2_4]⟩ 46) fun b0 h0 =>
  C8 h0 fun b1 h1 =>
  bif (!b1) then
    K false h1
  else
    C9 x0 h1 fun s0 h2 =>
    C9 x1 h2 fun s1 h3 =>
    xS (cell h3 ((bk b0).add 4)) fun s2 =>
    C21 s0 s2 h3 fun n0 b2 h4 =>
    xI .i64 (cell h4 (bk b0)) fun n1 =>
    xI .i64 (cell h4 ((bk b0).add 1)) fun n2 =>
    xI .i64 (cell h4 ((bk b0).add 2)) fun n3 =>
    C22 s0 n1 n2 n3 h4 fun n4 n5 s3 h5 =>
    xI .i64 (cell h5 ((bk b0).add 3)) fun n6 =>
    C23 s0 s1 n6 h5 fun n7 n8 n9 h6 =>
    xI .i64 (cell h6 (bk b0)) fun n10 =>
    xI .i64 (cell h6 ((bk b0).add 1)) fun n11 =>
    xI .i64 (cell h6 ((bk b0).add 2)) fun n12 =>
    C22 s0 n10 n11 n12 h6 fun n13 n14 s4 h7 =>
    C12 s0 x0 h7 fun b3 h8 =>
    C12 s1 x1 h8 fun b4 h9 =>
    xS (cell h9 ((bk b0).add 4)) fun s5 =>
    C24 x0 s5 h9 fun n15 b5 h10 =>
    xI .i64 (cell h10 (bk b0)) fun n16 =>
    xI .i64 (cell h10 ((bk b0).add 1)) fun n17 =>
    xI .i64 (cell h10 ((bk b0).add 2)) fun n18 =>
    C25 x0 n16 n17 n18 h10 fun n19 n20 s6 h11 =>
    xI .i64 (cell h11 ((bk b0).add 3)) fun n21 =>
    C26 x0 x1 n21 h11 fun n22 n23 n24 h12 =>
    C27 s3 s6 h12 fun b6 h13 =>
    C27 s4 s6 h13 fun b7 h14 =>
    bif (!b3) then
      K false h14
    else
      bif (!b4) then
        K false h14
      else
        bif (!b6) then
          K false h14
        else
          bif (!b7) then
            K false h14
          else
            bif (n0 != n15) then
              K false h14
            else
              bif (!(b2 == b5)) then
                K false h14
              else
                bif (n4 != n19) then
                  K false h14
                else
                  bif (n5 != n20) then
                    K false h14
                  else
                    bif (n7 != n22) then
                      K false h14
                    else
                      bif (n8 != n23) then
                        K false h14
                      else
                        bif (n9 != n24) then
                          K false h14
                        else
                          bif (n13 != n19) then
                            K false h14
                          else
                            bif (n14 != n20) then
                              K false h14
                            else
                              nw h14 (.cells ⟨[.slice s3.p s3.n s3.c, .slice s4.p s4.n s4.c]⟩ 23) fun b8 h15 =>
                              C20 ⟨some (bk b8), 2, 2⟩ h15 fun b9 h16 =>
                              K b9 h16
theorem S6 {x0 : Sl} {x1 : Sl} {x2_0 : Int} {x2_1 : Int} {x2_2 : Int} {x2_3 : Int} {x2_4 : ByteArray} {h : Hp} {K : Bool → Hp → Prop} (hn : N6 x0 x1 x2_0 x2_1 x2_2 x2_3 x2_4 h K) : C6 x0 x1 x2_0 x2_1 x2_2 x2_3 x2_4 h K := by
  refine calls_of_D Tryd.func6 (c := B6) rfl (by kernel_rfl) ?_
  refine den_sound hE hm _ .leaf _ _ _ (annOk_leaf) ?_
  refine cast ?_ hn
  kernel_rfl
end Go.Proofs.YtedklcmdjoojfaaDoor
