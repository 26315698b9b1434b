/- Zh12: all operations. -/
import Derived.Test.YtkhaebkijoefjaaGreatDoorZh11
namespace Go.Zh
open Go.RowKit
set_option linter.unusedVariables false

variable {B : Nat} {gl : List Nat} {φ : Phi} {A A' : AH} {w w' : World} {P : Program} {β : Type} {nt : Nat} {T : Tr Value} {a : Act} {G : World → Prop}

theorem exec_nilCheck {ρ : Operand → Value} {x : Operand} {q : Addr} (h : ρ x = .pointer (some q)) (dst : Option Tmp) (type : TypeId) (pos : String) (after : Array Edge) (guard : Option (Nat × Bool)) :
    execOp ρ ⟨dst, .nilCheck x, type, pos, after, guard⟩ = pure (.value (.pointer (some q))) := by
  have : execOp ρ ⟨dst, .nilCheck x, type, pos, after, guard⟩ = (fun v => execOp (fun _ => v) ⟨dst, .nilCheck x, type, pos, after, guard⟩) (ρ x) := rfl
  rw [this, h]; rfl

set_option maxHeartbeats 4000000 in
/-- All but calls. -/
theorem sim_op {call : CallK β} (hcall : CallOK B gl P G call) (hG : G w) (hR : R B gl φ A w) (hT : TR φ nt T a) {o : Oper} {ao : AOp} (hp : prepOp P gl o.op = some ao) {k : Value → AH → Option β} {r : β}
    (hk : aop call T A ao k = some r) (hne : ∀ c, o.op ≠ .call c) : ∃ v A', k v A' = some r ∧ Wps B gl P φ w a o A' v := by
  obtain ⟨dst, op, type, pos, after, guard⟩ := o
  dsimp only at hp
  have quiet : ∀ {s : Sem Value} {v : Value}, execOp a.eval ⟨dst, op, type, pos, after, guard⟩ = (do pure (.value (← s))) → (∃ u v', k u A = some r ∧ s.run P w = .ok v' w ∧ VR φ u v') →
      ∃ v A', k v A' = some r ∧ Wps B gl P φ w a ⟨dst, op, type, pos, after, guard⟩ A' v := by
    intro s v he h
    obtain ⟨u, v', h1, h2, h3⟩ := h
    exact ⟨u, A, h1, wps_quiet hR he h2 h3⟩
  cases op with
  | move x =>
    simp only [prepOp] at hp
    split at hp
    case h_2 => cases hp
    rename_i y hy
    cases hp
    obtain ⟨v, e1, hk⟩ := opt1_some hk
    exact ⟨v, A, hk, wps_pure hR rfl (hT.opd hR hy e1)⟩
  | assign x =>
    simp only [prepOp] at hp
    split at hp
    case h_2 => cases hp
    rename_i y hy
    cases hp
    obtain ⟨v, e1, hk⟩ := opt1_some hk
    exact ⟨v, A, hk, wps_pure hR rfl (hT.opd hR hy e1)⟩
  | pick c x y =>
    simp only [prepOp] at hp
    split at hp
    case h_2 => cases hp
    rename_i c' x' y' hc hx hy
    cases hp
    obtain ⟨cv, e1, hk⟩ := opt1_some hk
    have hcv := hT.opd hR hc e1
    split at hk
    · obtain ⟨v, e2, hk⟩ := opt1_some hk
      generalize hq : a.eval c = q at hcv
      cases hcv
      refine ⟨v, A, hk, wps_pure hR ?_ (hT.opd hR hx e2)⟩
      show ((do pure (.value (if ← asBool (a.eval c) then a.eval x else a.eval y))) : Sem Next) = _
      rw [hq]; rfl
    · obtain ⟨v, e2, hk⟩ := opt1_some hk
      generalize hq : a.eval c = q at hcv
      cases hcv
      refine ⟨v, A, hk, wps_pure hR ?_ (hT.opd hR hy e2)⟩
      show ((do pure (.value (if ← asBool (a.eval c) then a.eval x else a.eval y))) : Sem Next) = _
      rw [hq]; rfl
    · cases hk
  | alloc t =>
    simp only [prepOp] at hp
    split at hp
    case h_2 => cases hp
    rename_i z hz
    cases hp
    obtain ⟨i, zv, h1, h2, h3, h4, h5, h6⟩ := zeroOf_spec hz
    subst h3
    obtain ⟨v, A', g1, g2⟩ := hR.var (P := P) (t := t) (v' := zv) (h5 φ) hk
    refine ⟨v, A', g1, wps_value (s := Instr.alloc t true (.tuple #[])) rfl ?_⟩
    have : (Instr.alloc t true (.tuple #[])).run P w = ((do pure (.pointer (some (← newVar t zv))) : Sem Value)).run P w := by
      simp only [Instr.alloc, Sem.run_bind, h6, Result.andThen_ok]
    rw [this]
    exact g2
  | box t x =>
    simp only [prepOp] at hp
    split at hp
    case h_2 => cases hp
    rename_i y hy
    cases hp
    obtain ⟨v, e1, hk⟩ := opt1_some hk
    obtain ⟨v', A', g1, g2⟩ := hR.var (P := P) (t := t) (v' := a.eval x) (hT.opd hR hy e1).cells hk
    exact ⟨v', A', g1, wps_value (s := Instr.box t (a.eval x)) rfl g2⟩
  | build t ps =>
    simp only [prepOp] at hp
    split at hp
    case h_2 => cases hp
    rename_i fs hfs
    split at hp
    case h_2 => cases hp
    rename_i pl z hpl hz
    split at hp
    case h_2 => cases hp
    rename_i qs hqs
    cases hp
    obtain ⟨vs, e1, hk⟩ := opt1_some hk
    obtain ⟨l1, l2⟩ := prepFs_sim hR hT hqs e1
    have hl : (ps.map fun (i, x) => (i, a.eval x)).toList = ps.toList.map fun (i, x) => (i, a.eval x) := by simp
    exact quiet (s := Instr.build t (ps.map fun (i, x) => (i, a.eval x))) (v := undefV) rfl (build_sim hfs hpl hz (by rw [hl]; exact l1) (by rw [hl]; exact l2) hk)
  | buildSlice t len ps =>
    simp only [prepOp] at hp
    split at hp
    case h_2 => cases hp
    rename_i e i he
    split at hp
    case h_2 => cases hp
    rename_i z qs hz hqs
    obtain ⟨c1, c2, hp⟩ := nat_cond hp
    subst hp
    obtain ⟨vs, e1, hk⟩ := opt1_some hk
    obtain ⟨l1, l2⟩ := prepEs_sim hR hT hqs e1
    obtain ⟨he1, he2⟩ := elemInfo_spec he
    have hl : (ps.map fun (i, x) => (i, a.eval x)).toList = ps.toList.map fun (i, x) => (i, a.eval x) := by simp
    have hne : i.size ≠ 0 := by have := Nat.ble_iff c2; omega
    obtain ⟨v, A', g1, g2⟩ := hR.bslice (P := P) he1 he2 hz hne (Nat.ble_iff c1) (by rw [hl]; exact l1) (by rw [hl]; exact l2) hk
    exact ⟨v, A', g1, wps_value (s := Instr.buildSlice t len (ps.map fun (i, x) => (i, a.eval x))) rfl g2⟩
  | load t x =>
    simp only [prepOp] at hp
    split at hp
    case h_2 => cases hp
    rename_i n y hn hy
    cases hp
    obtain ⟨v, e1, hk⟩ := opt1_some hk
    exact quiet (s := Instr.loadAt t (a.eval x)) (v := undefV) rfl (hR.load hn (hT.opd hR hy e1) hk)
  | store t x v =>
    simp only [prepOp] at hp
    split at hp
    case h_2 => cases hp
    rename_i i x' v' hi hx hv
    cases hp
    obtain ⟨xv, e1, hk⟩ := opt1_some hk
    obtain ⟨vv, e2, hk⟩ := opt1_some hk
    obtain ⟨A', w2, g1, g2, g3, g4⟩ := hR.store hi (hT.opd hR hx e1) (hT.opd hR hv e2) hk
    exact ⟨undefV, A', g1, wps_unit (s := Instr.storeAt t (a.eval x) (a.eval v)) rfl g2 g3 g4⟩
  | nilCheck x =>
    simp only [prepOp] at hp
    split at hp
    case h_2 => cases hp
    rename_i y hy
    cases hp
    obtain ⟨v, e1, hk⟩ := opt1_some hk
    have hv := hT.opd hR hy e1
    split at hk
    case h_2 => cases hk
    refine ⟨_, A, hk, wps_pure hR ?_ hv⟩
    generalize hq : a.eval x = q at hv
    cases hv
    exact exec_nilCheck hq _ _ _ _ _
  | binOp op t x y yt =>
    simp only [prepOp] at hp
    split at hp
    case h_2 => cases hp
    rename_i x' hx
    have fin : ∀ v, k v A = some r → ∀ q, q = op → Bin P q t x y (a.eval x) (a.eval y) v → (∀ φ, VR φ v v) → ∃ v A', k v A' = some r ∧ Wps B gl P φ w a ⟨dst, .binOp op t x y yt, type, pos, after, guard⟩ A' v := by
      intro v hk q hq hb hv
      subst hq
      exact ⟨v, A, hk, wps_quiet hR (s := do eqGuard q t x y (a.eval x) (a.eval y); binOp q t (a.eval x) (a.eval y)) rfl (hb w) (hv φ)⟩
    cases hn : isNilConst y with
    | true =>
      rw [hn, cond_true] at hp
      split at hp
      case h_2 => cases hp
      rename_i e he
      cases hp
      obtain ⟨xv, e1, hk⟩ := opt1_some hk
      obtain ⟨v, g1, g2, g3⟩ := anil_sim (P := P) (xo := x) (yo := y) he (hT.opd hR hx e1) hk
      refine fin v g1 op rfl ?_ g3
      have : a.eval y = .slice none 0 0 := by
        unfold isNilConst at hn
        split at hn
        · rfl
        · cases hn
      rw [this]
      exact g2
    | false =>
      rw [hn, cond_false] at hp
      split at hp
      case h_2 => cases hp
      rename_i y' hy
      split at hp
      · rename_i l hl
        cases hp
        obtain ⟨xv, e1, hk⟩ := opt1_some hk
        obtain ⟨yv, e2, hk⟩ := opt1_some hk
        obtain ⟨v, g1, g2, g3⟩ := eqs_sim (P := P) (xo := x) (yo := y) hl (hT.opd hR hx e1) (hT.opd hR hy e2) hk
        exact fin v g1 _ rfl g2 g3
      · rename_i l hl
        cases hp
        obtain ⟨xv, e1, hk⟩ := opt1_some hk
        obtain ⟨yv, e2, hk⟩ := opt1_some hk
        obtain ⟨v, g1, g2, g3⟩ := eqs_sim (P := P) (xo := x) (yo := y) hl (hT.opd hR hx e1) (hT.opd hR hy e2) hk
        exact fin v g1 _ rfl g2 g3
      · rename_i op' _ _ _ _
        cases hp
        obtain ⟨xv, e1, hk⟩ := opt1_some hk
        obtain ⟨yv, e2, hk⟩ := opt1_some hk
        have ht : ((∀ b, xv ≠ .bool b) ∨ P.underlying t = some .bool) ∧ abin op' xv yv (fun v => k v A) = some r := by
          cases hbt : isBoolT P t with
          | true =>
            rw [hbt] at hk
            refine ⟨.inr ?_, ?_⟩
            · unfold isBoolT at hbt
              split at hbt
              · assumption
              · cases hbt
            · cases xv <;> exact hk
          | false =>
            rw [hbt] at hk
            cases xv <;> first
              | exact ⟨.inl (fun b e => by cases e), hk⟩
              | cases hk
        obtain ⟨v, g1, g2, g3⟩ := abin_sim (P := P) (xo := x) (yo := y) (hT.opd hR hx e1) (hT.opd hR hy e2) ht.1 ht.2
        exact fin v g1 _ rfl g2 g3
  | unOp op t x =>
    simp only [prepOp] at hp
    split at hp
    case h_2 => cases hp
    rename_i y hy
    cases hp
    obtain ⟨v, e1, hk⟩ := opt1_some hk
    obtain ⟨u, g1, g2, g3⟩ := aun_sim (P := P) (hT.opd hR hy e1) hk
    exact quiet (s := Op.unary op (a.eval x)) (v := undefV) rfl ⟨u, u, g1, g2 w, g3 φ⟩
  | convert s d x =>
    simp only [prepOp] at hp
    split at hp
    · rename_i sd kd y hs hd hy
      cases hp
      obtain ⟨v, e1, hk⟩ := opt1_some hk
      exact quiet (s := convert s d (a.eval x)) (v := undefV) rfl (cint_sim hs hd (hT.opd hR hy e1) hk)
    · rename_i sd y hs hd hy
      cases hp
      obtain ⟨v, e1, hk⟩ := opt1_some hk
      exact quiet (s := convert s d (a.eval x)) (v := undefV) rfl (cstr_sim hs hd (hT.opd hR hy e1) hk)
    · cases hp
  | makeFunc fn first cap =>
    simp only [prepOp] at hp
    split at hp
    case h_2 => cases hp
    rename_i f c hf hc
    cases hp
    obtain ⟨fs, e1, hk⟩ := opt1_some hk
    obtain ⟨cs, e2, hk⟩ := opt1_some hk
    have h1 := hT.opds hR hf e1
    have h2 := hT.opds hR hc e2
    refine ⟨_, A, hk, wps_pure hR (v' := .func fn (first.map a.eval) (cap.map a.eval)) rfl (.func ?_ ?_ ?_ ?_)⟩
    · simpa using h1.1
    · simpa using h1.2
    · simpa using h2.1
    · simpa using h2.2
  | makeMap t res =>
    cases res with
    | some x => simp [prepOp] at hp
    | none =>
      simp only [prepOp] at hp
      cases hp
      obtain ⟨b, A', ψ, g1, g2, g3, g4, g5⟩ := hR.mkmap (k := fun b A => k (.map (some b)) A) (r := r) hk
      exact ⟨_, A', g1, wps_value (s := Instr.makeMap t none) rfl ⟨_, _, ψ, rfl, g2, g3, .map g4, g5⟩⟩
  | makeSlice t l c =>
    simp only [prepOp] at hp
    split at hp
    case h_2 => cases hp
    rename_i e i l' c' he hl hc
    split at hp
    case h_2 => cases hp
    rename_i z hz
    cases hq : Nat.ble 1 i.size with
    | false => rw [hq] at hp; cases hp
    | true =>
      rw [hq] at hp
      cases hp
      obtain ⟨lv, e1, hk⟩ := opt1_some hk
      obtain ⟨cv, e2, hk⟩ := opt1_some hk
      obtain ⟨he1, he2⟩ := elemInfo_spec he
      have hne : i.size ≠ 0 := by have := Nat.ble_iff hq; omega
      obtain ⟨v, A', g1, g2⟩ := hR.make (P := P) he1 he2 hz hne (hT.opd hR hl e1) (hT.opd hR hc e2) hk
      exact ⟨v, A', g1, wps_value (s := Instr.makeSlice t (a.eval l) (a.eval c)) rfl g2⟩
  | slice t x lo hi mx =>
    simp only [prepOp] at hp
    split at hp
    · rename_i x' lo' hi' ht hx hlo hhi hmx
      cases hp
      obtain ⟨xv, e1, hk⟩ := opt1_some hk
      obtain ⟨lv, e2, hk⟩ := opt1_some hk
      obtain ⟨hv, e3, hk⟩ := opt1_some hk
      have hm : mx = none := by
        cases mx with
        | none => rfl
        | some m => simp only [prepO] at hmx; split at hmx <;> cases hmx
      subst hm
      exact quiet (s := Instr.sliceAt t (a.eval x) (lo.map a.eval) (hi.map a.eval) none) (v := undefV) rfl (sliceT_sim ht (hT.opd hR hx e1) (opdo_sim hR hT hlo e2) (opdo_sim hR hT hhi e3) hk)
    · rename_i e x' lo' hi' mx' ht hx hlo hhi hmx
      split at hp
      case h_2 => cases hp
      rename_i i hi'
      cases hp
      obtain ⟨xv, e1, hk⟩ := opt1_some hk
      obtain ⟨lv, e2, hk⟩ := opt1_some hk
      obtain ⟨hv, e3, hk⟩ := opt1_some hk
      obtain ⟨mv, e4, hk⟩ := opt1_some hk
      exact quiet (s := Instr.sliceAt t (a.eval x) (lo.map a.eval) (hi.map a.eval) (mx.map a.eval)) (v := undefV) rfl (hR.sliceS ht hi' (hT.opd hR hx e1) (opdo_sim hR hT hlo e2) (opdo_sim hR hT hhi e3) (opdo_sim hR hT hmx e4) hk)
    · cases hp
  | fieldAddr s x f =>
    simp only [prepOp] at hp
    split at hp
    case h_2 => cases hp
    rename_i off y ho hy
    cases hp
    obtain ⟨v, e1, hk⟩ := opt1_some hk
    exact quiet (s := Instr.fieldAt s (a.eval x) f) (v := undefV) rfl (faddr_sim ho (hT.opd hR hy e1) hk)
  | field t x f =>
    simp only [prepOp] at hp
    split at hp
    case h_2 => cases hp
    rename_i fs y hfs hy
    split at hp
    case h_2 => cases hp
    rename_i fd hfd
    split at hp
    case h_2 => cases hp
    rename_i n hn
    cases hp
    obtain ⟨v, e1, hk⟩ := opt1_some hk
    have hv := hT.opd hR hy e1
    generalize hq : a.eval x = q at hv
    cases hv with
    | agg h1 h2 =>
      rename_i c c'
      obtain ⟨u, u', g1, g2, g3⟩ := part_sim (w := w) hn (off := fd.offset) ⟨h1, h2⟩ hk
      refine quiet (s := Instr.field t (a.eval x) f) (v := undefV) rfl ⟨u, u', g1, ?_, g3⟩
      rw [hq]
      simp only [Instr.field, Sem.run_bind, run_underlying hfs, Result.andThen_ok, hfd, asAgg, Sem.run_pure, g2]
    | _ => simp [apart] at hk
  | indexAddr t x i =>
    simp only [prepOp] at hp
    split at hp
    · rename_i e x' i' ht hx hi
      split at hp
      case h_2 => cases hp
      rename_i inf hinf
      cases hp
      obtain ⟨xv, e1, hk⟩ := opt1_some hk
      obtain ⟨iv, e2, hk⟩ := opt1_some hk
      exact quiet (s := Instr.indexAt t (a.eval x) (a.eval i)) (v := undefV) rfl (idxS_sim ht hinf (hT.opd hR hx e1) (hT.opd hR hi e2) hk)
    · rename_i len e x' i' ht hx hi
      split at hp
      case h_2 => cases hp
      rename_i inf hinf
      cases hp
      obtain ⟨xv, e1, hk⟩ := opt1_some hk
      obtain ⟨iv, e2, hk⟩ := opt1_some hk
      exact quiet (s := Instr.indexAt t (a.eval x) (a.eval i)) (v := undefV) rfl (idxA_sim ht hinf (hT.opd hR hx e1) (hT.opd hR hi e2) hk)
    · cases hp
  | index t x i =>
    simp only [prepOp] at hp
    split at hp
    · rename_i x' i' ht hx hi
      cases hp
      obtain ⟨xv, e1, hk⟩ := opt1_some hk
      obtain ⟨iv, e2, hk⟩ := opt1_some hk
      exact quiet (s := Instr.index t (a.eval x) (a.eval i)) (v := undefV) rfl (idxT_sim ht (hT.opd hR hx e1) (hT.opd hR hi e2) hk)
    · rename_i len e x' i' ht hx hi
      split at hp
      case h_2 => cases hp
      rename_i inf n hinf hn
      cases hp
      obtain ⟨xv, e1, hk⟩ := opt1_some hk
      obtain ⟨iv, e2, hk⟩ := opt1_some hk
      exact quiet (s := Instr.index t (a.eval x) (a.eval i)) (v := undefV) rfl (idxV_sim ht hinf hn (hT.opd hR hx e1) (hT.opd hR hi e2) hk)
    · cases hp
  | lookup t m x ok =>
    simp only [prepOp] at hp
    split at hp
    case h_2 => cases hp
    rename_i kt et m' x' ht hm hx
    split at hp
    case h_2 => cases hp
    rename_i d i hd hi
    split at hp
    case h_2 => cases hp
    rename_i z hz
    cases hc : constOK z with
    | false => rw [hc] at hp; cases hp
    | true =>
      rw [hc] at hp
      cases hp
      obtain ⟨mv, e1, hk⟩ := opt1_some hk
      obtain ⟨xv, e2, hk⟩ := opt1_some hk
      exact quiet (s := Instr.lookup t (a.eval m) (a.eval x) ok) (v := undefV) rfl (hR.lookup ht hd hi hz (constOK_vr hc) (hT.opd hR hm e1) (hT.opd hR hx e2) hk)
  | mapUpdate t m x v =>
    simp only [prepOp] at hp
    split at hp
    case h_2 => cases hp
    rename_i kt et m' x' v' ht hm hx hv
    split at hp
    case h_2 => cases hp
    rename_i d hd
    cases hp
    obtain ⟨mv, e1, hk⟩ := opt1_some hk
    obtain ⟨xv, e2, hk⟩ := opt1_some hk
    obtain ⟨vv, e3, hk⟩ := opt1_some hk
    obtain ⟨A', w2, g1, g2, g3, g4⟩ := hR.mapset ht hd (hT.opd hR hm e1) (hT.opd hR hx e2) (hT.opd hR hv e3) hk
    exact ⟨undefV, A', g1, wps_unit (s := Instr.mapUpdate t (a.eval m) (a.eval x) (a.eval v)) rfl g2 g3 g4⟩
  | insert t m x v =>
    simp only [prepOp] at hp
    split at hp
    case h_2 => cases hp
    rename_i kt et m' x' v' ht hm hx hv
    split at hp
    case h_2 => cases hp
    rename_i d hd
    cases hp
    obtain ⟨mv, e1, hk⟩ := opt1_some hk
    obtain ⟨xv, e2, hk⟩ := opt1_some hk
    obtain ⟨vv, e3, hk⟩ := opt1_some hk
    obtain ⟨A', w2, g1, g2, g3, g4⟩ := hR.mapset ht hd (hT.opd hR hm e1) (hT.opd hR hx e2) (hT.opd hR hv e3) hk
    exact ⟨undefV, A', g1, wps_unit (s := Instr.mapUpdate t (a.eval m) (a.eval x) (a.eval v)) rfl g2 g3 g4⟩
  | range t x =>
    simp only [prepOp] at hp
    split at hp
    case h_2 => cases hp
    rename_i y hy
    cases hs : isStrT P t with
    | false => rw [hs] at hp; cases hp
    | true =>
      rw [hs] at hp
      cases hp
      have ht : P.underlying t = some .string := by
        unfold isStrT at hs
        split at hs
        · assumption
        · cases hs
      obtain ⟨v, e1, hk⟩ := opt1_some hk
      obtain ⟨u, A', g1, g2⟩ := hR.rangeS (P := P) ht (hT.opd hR hy e1) hk
      exact ⟨u, A', g1, wps_value (s := Instr.range t (a.eval x)) rfl g2⟩
  | next x b =>
    cases b with
    | false => simp [prepOp] at hp
    | true =>
      simp only [prepOp] at hp
      split at hp
      case h_2 => cases hp
      rename_i y hy
      cases hp
      obtain ⟨v, e1, hk⟩ := opt1_some hk
      obtain ⟨u, A', g1, g2⟩ := hR.nextS (P := P) (ty := type) (hT.opd hR hy e1) hk
      exact ⟨u, A', g1, wps_value (s := Instr.next (a.eval x) true type) rfl g2⟩
  | extract x i =>
    simp only [prepOp] at hp
    split at hp
    case h_2 => cases hp
    rename_i y hy
    cases hp
    obtain ⟨v, e1, hk⟩ := opt1_some hk
    exact quiet (s := Instr.extract (a.eval x) i) (v := undefV) rfl (ext_sim (hT.opd hR hy e1) hk)
  | call c => exact absurd rfl (hne c)
  | _ => simp [prepOp] at hp

/-- **Each operation of the abstract machine stands for the program's.** -/
theorem sim {call : CallK β} (hcall : CallOK B gl P G call) (hG : G w) (hR : R B gl φ A w) (hT : TR φ nt T a) {o : Oper} {ao : AOp} (hp : prepOp P gl o.op = some ao) {k : Value → AH → Option β} {r : β}
    (hk : aop call T A ao k = some r) : WpK B gl P φ w a o k r := by
  by_cases hc : ∃ c, o.op = .call c
  · obtain ⟨c, hc⟩ := hc
    obtain ⟨dst, op, type, pos, after, guard⟩ := o
    dsimp only at hc hp
    subst hc
    exact sim_call hcall hG hR hT (by simpa only [prepOp] using hp) hk
  · exact WpK.of (sim_op hcall hG hR hT hp hk fun c e => hc ⟨c, e⟩)

end Go.Zh
