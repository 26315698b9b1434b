/- Zh11: each operation of the abstract machine stands for the program's. -/
import Derived.Test.YtkhaebkijoefjaaGreatDoorZh10
namespace Go.Zh
open Go.RowKit
set_option linter.unusedVariables false

variable {B : Nat} {gl : List Nat} {φ : Phi} {A A' : AH} {w w' : World} {P : Program} {β : Type} {nt : Nat} {T : Tr Value} {a : Act} {G : World → Prop}

theorem opt1_some {α : Type} {x : Option α} {k : α → Option β} {r : β} (h : opt1 x k = some r) : ∃ v, x = some v ∧ k v = some r := by
  cases x with
  | none => cases h
  | some v => exact ⟨v, rfl, h⟩

def Enters (P : Program) (f : Nat) : Prop := ∃ fn, P.funcs[f]? = some fn ∧ (fn.name == "runtime.NumGoroutine") = false ∧ fn.body.isNone = false

/-- What a call comes to. -/
def CallOK (B : Nat) (gl : List Nat) (P : Program) (G : World → Prop) (call : CallK β) : Prop :=
  ∀ f args A k r, call f args A k = some r → ∀ φ w vargs, G w → R B gl φ A w → VRs φ args vargs →
    Enters P f ∧ Calls P f vargs.toArray w fun e w' => ∃ v A' v' ψ, k v A' = some r ∧ e = .returned v' ∧ Ext φ ψ ∧ R B gl ψ A' w' ∧ VR ψ v v' ∧ Below B w w'

/-- What the world's operation comes to, seen from the abstract machine. -/
def Wps (B : Nat) (gl : List Nat) (P : Program) (φ : Phi) (w : World) (a : Act) (o : Oper) (A' : AH) (v : Value) : Prop :=
  ∀ next Q, (∀ ψ v' w', Ext φ ψ → R B gl ψ A' w' → VR ψ v v' → Below B w w' → next (a.put o.dst v') w') → o.wp P a w next Q

/-- The same, with what the abstract machine hands on behind the operation. -/
def WpK (B : Nat) (gl : List Nat) (P : Program) (φ : Phi) (w : World) (a : Act) (o : Oper) (k : Value → AH → Option β) (r : β) : Prop :=
  ∀ next Q, (∀ v A' ψ v' w', k v A' = some r → Ext φ ψ → R B gl ψ A' w' → VR ψ v v' → Below B w w' → next (a.put o.dst v') w') → o.wp P a w next Q

theorem WpK.of {o : Oper} {k : Value → AH → Option β} {r : β} (h : ∃ v A', k v A' = some r ∧ Wps B gl P φ w a o A' v) : WpK B gl P φ w a o k r := by
  obtain ⟨v, A', h1, h2⟩ := h
  intro next Q hn
  exact h2 next Q fun ψ v' w' g1 g2 g3 g4 => hn v A' ψ v' w' h1 g1 g2 g3 g4

theorem wps_value {o : Oper} {s : Sem Value} {v : Value} (he : execOp a.eval o = (do pure (.value (← s)))) (hy : AppOK B gl P φ w (s.run P w) A' v) : Wps B gl P φ w a o A' v := by
  obtain ⟨v', w', ψ, h1, h2, h3, h4, h5⟩ := hy
  intro next Q hn
  unfold Oper.wp
  rw [he]
  simp only [Sem.run_bind, h1, Result.andThen_ok, Sem.run_pure, Oper.upon]
  exact hn ψ v' w' h2 h3 h4 h5

/-- An operation that leaves memory as it is. -/
theorem wps_quiet (hR : R B gl φ A w) {o : Oper} {s : Sem Value} {v v' : Value} (he : execOp a.eval o = (do pure (.value (← s)))) (hs : s.run P w = .ok v' w) (hv : VR φ v v') : Wps B gl P φ w a o A v :=
  wps_value he ⟨v', w, φ, hs, Ext.refl _, hR, hv, Below.refl _ _⟩

theorem wps_pure (hR : R B gl φ A w) {o : Oper} {v v' : Value} (he : execOp a.eval o = pure (.value v')) (hv : VR φ v v') : Wps B gl P φ w a o A v := by
  intro next Q hn
  unfold Oper.wp
  rw [he]
  exact hn φ v' w (Ext.refl _) hR hv (Below.refl _ _)

theorem undefV_vr : VR φ undefV undef := .tuple rfl (fun i v v' h => by simp at h)

theorem wps_unit {o : Oper} {s : Sem Unit} (he : execOp a.eval o = (do s; pure .skip)) (hs : s.run P w = .ok () w') (hR : R B gl φ A' w') (hB : Below B w w') : Wps B gl P φ w a o A' undefV := by
  intro next Q hn
  unfold Oper.wp
  rw [he]
  simp only [Sem.run_bind, hs, Result.andThen_ok, Sem.run_pure, Oper.upon]
  exact hn φ undef w' (Ext.refl _) hR undefV_vr hB

theorem opdo_sim (hR : R B gl φ A w) (hT : TR φ nt T a) {x : Option Operand} {y : Option Opd} (hp : prepO gl x = some y) {v : Option Value} (hv : opdo T y = some v) : VRo φ v (x.map a.eval) := by
  cases x with
  | none => cases hp; cases hv; trivial
  | some x =>
    simp only [prepO] at hp
    split at hp
    · rename_i y hy
      cases hp
      simp only [opdo] at hv
      split at hv
      · rename_i v hv'
        cases hv
        exact hT.opd hR hy hv'
      · cases hv
    · cases hp

theorem prepFs_sim (hR : R B gl φ A w) (hT : TR φ nt T a) {pl : List (Nat × Nat)} : ∀ {ps : List (Nat × Operand)} {qs : List (Nat × Nat × Opd)} {vs : List (Nat × Nat × Value)}, prepFs gl pl ps = some qs → opdps T qs = some vs →
    (ps.map fun (i, x) => (i, a.eval x)).length = vs.length ∧ ∀ (i : Nat) p q, (ps.map fun (i, x) => (i, a.eval x))[i]? = some p → vs[i]? = some q → pl[p.1]? = some (q.1, q.2.1) ∧ VR φ q.2.2 p.2
  | [], qs, vs, hp, hv => by cases hp; cases hv; simp
  | (j, x) :: ps, qs, vs, hp, hv => by
    simp only [prepFs] at hp
    split at hp
    case h_2 => cases hp
    rename_i off size y h1 h2
    split at hp
    case h_2 => cases hp
    rename_i r hr
    cases hp
    simp only [opdps] at hv
    split at hv
    case h_2 => cases hv
    rename_i v hv1
    split at hv
    case h_2 => cases hv
    rename_i vs' hv2
    cases hv
    obtain ⟨l1, l2⟩ := prepFs_sim hR hT hr hv2
    refine ⟨by simpa using l1, fun i p q hp hq => ?_⟩
    cases i with
    | zero => simp at hp hq; subst hp; subst hq; exact ⟨h1, hT.opd hR h2 hv1⟩
    | succ i => exact l2 i p q (by simpa using hp) (by simpa using hq)

theorem prepEs_sim (hR : R B gl φ A w) (hT : TR φ nt T a) {e : Nat} : ∀ {ps : List (Nat × Operand)} {qs : List (Nat × Nat × Opd)} {vs : List (Nat × Nat × Value)}, prepEs gl e ps = some qs → opdps T qs = some vs →
    (ps.map fun (i, x) => (i, a.eval x)).length = vs.length ∧ ∀ (i : Nat) p q, (ps.map fun (i, x) => (i, a.eval x))[i]? = some p → vs[i]? = some q → q.1 = p.1 * e ∧ q.2.1 = e ∧ VR φ q.2.2 p.2
  | [], qs, vs, hp, hv => by cases hp; cases hv; simp
  | (j, x) :: ps, qs, vs, hp, hv => by
    simp only [prepEs] at hp
    split at hp
    case h_2 => cases hp
    rename_i y h2
    split at hp
    case h_2 => cases hp
    rename_i r hr
    cases hp
    simp only [opdps] at hv
    split at hv
    case h_2 => cases hv
    rename_i v hv1
    split at hv
    case h_2 => cases hv
    rename_i vs' hv2
    cases hv
    obtain ⟨l1, l2⟩ := prepEs_sim hR hT hr hv2
    refine ⟨by simpa using l1, fun i p q hp hq => ?_⟩
    cases i with
    | zero => simp at hp hq; subst hp; subst hq; exact ⟨rfl, rfl, hT.opd hR h2 hv1⟩
    | succ i => exact l2 i p q (by simpa using hp) (by simpa using hq)

theorem run_callFunc {f : Nat} (h : Enters P f) (args : Array Value) (w : World) : (callFunc f args).run P w = .ok (.enter f args) w := by
  obtain ⟨fn, h1, h2, h3⟩ := h
  simp only [callFunc, Sem.run_bind, run_program, Result.andThen_ok, h1, h2, h3, Bool.false_eq_true, if_false, Sem.run_pure]

/-- A call of a function with a body. -/
theorem wps_call {call : CallK β} (hcall : CallOK B gl P G call) (hG : G w) (hR : R B gl φ A w) {o : Oper} {f : Nat} {args vargs : List Value} (hv : VRs φ args vargs)
    (he : (execOp a.eval o).run P w = (callFunc f vargs.toArray).run P w) {k : Value → AH → Option β} {r : β} (hk : call f args A k = some r) :
    WpK B gl P φ w a o k r := by
  obtain ⟨hent, h2⟩ := hcall f args A k r hk φ w vargs hG hR hv
  intro next Q hn
  unfold Oper.wp
  rw [he, run_callFunc hent]
  simp only [Oper.upon]
  refine h2.mono ?_
  rintro e w' ⟨v, A', v', ψ, h1, rfl, g1, g2, g3, g4⟩
  exact hn v A' ψ v' w' h1 g1 g2 g3 g4

theorem elemInfo_spec {t e : TypeId} {i : TypeInfo} (h : elemInfo P t = some (e, i)) : P.underlying t = some (.slice e) ∧ P.info? e = some i := by
  unfold elemInfo at h
  split at h
  case h_2 => cases h
  rename_i e' he
  split at h
  case h_2 => cases h
  rename_i i' hi
  cases h
  exact ⟨he, hi⟩

theorem zeroOf_info {e : TypeId} {i : TypeInfo} {z : List Value} (hi : P.info? e = some i) (hz : zeroOf P e = some z) : ∃ zv, i.zero = some zv ∧ zv.cells.size = i.size := by
  obtain ⟨i', zv, h1, h2, _, h4, _⟩ := zeroOf_spec hz
  rw [hi] at h1
  cases h1
  exact ⟨zv, h2, h4⟩

theorem nat_cond {a b : Bool} {α : Type} {x y : α} (h : (bif a && b then some x else none) = some y) : a = true ∧ b = true ∧ x = y := by
  cases a <;> cases b <;> simp at h ⊢
  exact h

theorem sim_call {call : CallK β} (hcall : CallOK B gl P G call) (hG : G w) (hR : R B gl φ A w) (hT : TR φ nt T a) {dst : Option Tmp} {c : Call} {type : TypeId} {pos : String} {after : Array Edge} {guard : Option (Nat × Bool)}
    {ao : AOp} (hp : prepCall P gl c = some ao) {k : Value → AH → Option β} {r : β} (hk : aop call T A ao k = some r) :
    WpK B gl P φ w a ⟨dst, .call c, type, pos, after, guard⟩ k r := by
  unfold prepCall at hp
  split at hp
  · -- a function by its number
    rename_i f hc
    split at hp
    case h_2 => cases hp
    rename_i args ha
    cases hp
    obtain ⟨vs, e1, hk⟩ := opt1_some hk
    have hv := hT.opds hR ha e1
    refine wps_call hcall hG hR hv ?_ hk
    have harr : (#[] : Array Value) ++ c.args.map a.eval ++ #[] = (c.args.toList.map a.eval).toArray := by
      apply Array.ext'; simp
    simp only [execOp, resolve, hc, Act.eval, Deferred.ofValue, Sem.run_bind, Sem.run_pure, Result.andThen_ok, invoke]
    exact congrArg (fun x => (callFunc f x).run P w) harr
  · -- a function value
    rename_i x hx hc
    split at hp
    case h_2 => cases hp
    rename_i y args hy ha
    cases hp
    obtain ⟨fv, e0, hk⟩ := opt1_some hk
    obtain ⟨vs, e1, hk⟩ := opt1_some hk
    have hv := hT.opds hR ha e1
    have hf := hT.opd hR hy e0
    split at hk
    case h_2 => cases hk
    rename_i f first cap _
    rw [appK_eq, appK_eq] at hk
    generalize hfv : a.eval x = fv' at hf
    cases hf with
    | func h1 h2 h3 h4 =>
    rename_i f' c'
    have hall : VRs φ (first ++ vs ++ cap) (f'.toList ++ c.args.toList.map a.eval ++ c'.toList) := ((show VRs φ first f'.toList from ⟨h1, h2⟩).append hv).append ⟨h3, h4⟩
    refine wps_call hcall hG hR hall ?_ hk
    have harr : f' ++ c.args.map a.eval ++ c' = (f'.toList ++ c.args.toList.map a.eval ++ c'.toList).toArray := by
      apply Array.ext'; simp
    simp only [execOp, resolve, hc, hfv, Deferred.ofValue, Sem.run_bind, Sem.run_pure, Result.andThen_ok, invoke]
    exact congrArg (fun x => (callFunc f x).run P w) harr
  · -- len
    rename_i hc
    split at hp
    case h_2 => cases hp
    rename_i t x ht hx
    split at hp
    case h_2 => cases hp
    rename_i d y hd hy
    cases hp
    obtain ⟨v, e1, hk⟩ := opt1_some hk
    cases hl : lenD d v with
    | false => simp [hl] at hk
    | true =>
      simp only [hl, cond_true] at hk
      obtain ⟨u, u', h1, h2, h3⟩ := hR.len (P := P) (ty := type) hd (hT.opd hR hy e1) hl hk
      refine WpK.of ⟨u, _, h1, wps_quiet hR (s := Builtin.len_ #[t] type #[a.eval x]) ?_ h2 h3⟩
      have ha : c.args.map a.eval = #[a.eval x] := by apply Array.ext'; simp [hx]
      have hta : c.argTypes = #[t] := by apply Array.ext'; simp [ht]
      simp only [execOp, resolve, hc, invoke, builtin, ha, hta]
      rfl
  · -- min
    rename_i hc
    split at hp
    case h_2 => cases hp
    rename_i x y hx
    split at hp
    case h_2 => cases hp
    rename_i xo yo hxo hyo
    cases hp
    obtain ⟨xv, e1, hk⟩ := opt1_some hk
    obtain ⟨yv, e2, hk⟩ := opt1_some hk
    obtain ⟨u, u', h1, h2, h3⟩ := mm_sim (P := P) (w := w) (mx := false) (ts := c.argTypes) (ty := type) (hT.opd hR hxo e1) (hT.opd hR hyo e2) hk
    refine WpK.of ⟨u, _, h1, wps_quiet hR (s := Builtin.min_ c.argTypes type #[a.eval x, a.eval y]) ?_ h2 h3⟩
    have ha : c.args.map a.eval = #[a.eval x, a.eval y] := by apply Array.ext'; simp [hx]
    simp only [execOp, resolve, hc, invoke, builtin, ha]
    rfl
  · -- max
    rename_i hc
    split at hp
    case h_2 => cases hp
    rename_i x y hx
    split at hp
    case h_2 => cases hp
    rename_i xo yo hxo hyo
    cases hp
    obtain ⟨xv, e1, hk⟩ := opt1_some hk
    obtain ⟨yv, e2, hk⟩ := opt1_some hk
    obtain ⟨u, u', h1, h2, h3⟩ := mm_sim (P := P) (w := w) (mx := true) (ts := c.argTypes) (ty := type) (hT.opd hR hxo e1) (hT.opd hR hyo e2) hk
    refine WpK.of ⟨u, _, h1, wps_quiet hR (s := Builtin.max_ c.argTypes type #[a.eval x, a.eval y]) ?_ h2 h3⟩
    have ha : c.args.map a.eval = #[a.eval x, a.eval y] := by apply Array.ext'; simp [hx]
    simp only [execOp, resolve, hc, invoke, builtin, ha]
    rfl
  · -- append
    rename_i hc
    split at hp
    case h_2 => cases hp
    rename_i t xt s x ht hx
    split at hp
    case h_2 => cases hp
    rename_i e i d ys yx he hd hys hyx
    split at hp
    case h_2 => cases hp
    rename_i z hz
    cases hi : isIntD d with
    | true => rw [hi] at hp; cases hp
    | false =>
      rw [hi] at hp
      cases hp
      obtain ⟨sv, e1, hk⟩ := opt1_some hk
      obtain ⟨xv, e2, hk⟩ := opt1_some hk
      split at hk
      case h_2 => cases hk
      rename_i n vs hn
      obtain ⟨he1, he2⟩ := elemInfo_spec he
      obtain ⟨zv, hz1, hz2⟩ := zeroOf_info he2 hz
      obtain ⟨v, A', h1, h2⟩ := hR.app (P := P) (ty := type) he1 he2 hz1 hd (fun k e => by rw [e] at hi; cases hi) hz2 (hT.opd hR hyx e2) hn (hT.opd hR hys e1) hk
      refine WpK.of ⟨v, A', h1, wps_value (s := Builtin.append_ #[t, xt] type #[a.eval s, a.eval x]) ?_ h2⟩
      have ha : c.args.map a.eval = #[a.eval s, a.eval x] := by apply Array.ext'; simp [hx]
      have hta : c.argTypes = #[t, xt] := by apply Array.ext'; simp [ht]
      simp only [execOp, resolve, hc, invoke, builtin, ha, hta]
      rfl
  · cases hp

end Go.Zh
