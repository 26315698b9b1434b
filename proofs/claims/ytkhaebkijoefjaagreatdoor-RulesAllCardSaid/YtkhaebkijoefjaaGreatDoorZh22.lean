/- Zh22: a function that defers one call of a closure, at one place of its text, where nothing panics. -/
import Derived.Test.YtkhaebkijoefjaaGreatDoorZh21
import Derived.Defers
namespace Go.Zh
open Go.RowKit
set_option linter.unusedVariables false

section
variable {B : Nat} {gl : List Nat} {P : Program} {G : World → Prop}

theorem fn_defer_ok (hst : ∀ w w', G w → Below B w w' → G w') (hm : P.follows .mixedOrders = true) {F f nt np : Nat} {g : Func} {a b c y : Code} {a' b' c' y' : AC} {rs : List (Nat × Option (Option Nat))} {id d1 fd : Nat} {o1 o2 : Oper}
    {caps : Array Operand} {caps' : List Opd} {ty1 ty2 : TypeId} {pos1 pos2 : String} {af1 af2 : Array Edge} (hf : P.funcs[f]? = some g) (hb : g.body = some (.seq a (.seq b (.seq c (.seq (.region id #[o1, o2] false) y))))) (hnt : g.ntmps = nt)
    (ho1 : o1 = ⟨some d1, .makeFunc (.func fd) #[] caps, ty1, pos1, af1, none⟩) (ho2 : o2 = ⟨none, .defer ⟨.value (.tmp d1), #[], #[]⟩, ty2, pos2, af2, none⟩) (hrs : resTs P g.results.toList = some rs)
    (ha : prepC P gl nt a = some a') (hb' : prepC P gl nt b = some b') (hc : prepC P gl nt c = some c') (hy : prepC P gl nt y = some y') (hcaps : prepOpds gl caps.toList = some caps') (hd1 : d1 < nt) (hent : Enters P f) (hentd : Enters P fd)
    (hdef : ∀ (vs : Array Value) (w : World), vs.size = caps.size → CallsD P fd vs .returning w fun e u w' => e = .returned (.tuple #[]) ∧ u = .returning ∧ w' = w) :
    FnOK B gl P G F f ⟨nt, np, .seq a' (.seq b' (.seq c' (.seq (.ops [⟨.mkfn (.func fd) [] caps', some d1, none⟩]) y'))), rs⟩ := by
  intro call hcall β args A k r hk φ w vargs hG hR hv
  refine ⟨hent, ?_⟩
  unfold runFn at hk
  split at hk
  case h_2 => cases hk
  rename_i hle
  have hle : args.length ≤ nt := Nat.ble_iff hle
  obtain ⟨T, hk, hT⟩ := argsF_spec hk
  refine calls_of_wp_defers hf hb ?_
  have hsz : (vargs.toArray ++ Array.replicate (g.ntmps - vargs.toArray.size) undef).size = nt := by
    have := hv.1
    simp
    omega
  have hTR : TR φ nt T { tmps := vargs.toArray ++ Array.replicate (g.ntmps - vargs.toArray.size) undef, defers := [] } := by
    refine ⟨hsz, fun t v h => ?_⟩
    rcases hT t v h with ⟨j, rfl, hj⟩ | h1
    · obtain ⟨v', e, hr⟩ := hv.get hj
      refine ⟨v', ?_, hr⟩
      have : j < vargs.length := by
        rcases Nat.lt_or_ge j vargs.length with h' | h'
        · exact h'
        · rw [List.getElem?_eq_none h'] at e; cases e
      rw [Nat.zero_add, Array.getElem?_append_left (by simpa using this)]
      simpa using e
    · rw [blank_get] at h1; cases h1
  generalize hR0 : (fun (e : Ending) (w' : World) => ∃ v A' v' ψ, k v A' = some r ∧ e = .returned v' ∧ Ext φ ψ ∧ R B gl ψ A' w' ∧ VR ψ v v' ∧ Below B w w') = RR
  let k0 : Ex → Tr Value → AH → Option β := fun e T A => match e with
    | .exit _ => none
    | _ => resF T A rs fun vs => k (resV vs) A
  -- the results, at a state that stands for the abstract one
  have fin : ∀ (T' : Tr Value) (A' : AH) (ψ : Phi) (a' : Act) (w' : World), resF T' A' rs (fun vs => k (resV vs) A') = some r → Ext φ ψ → R B gl ψ A' w' → TR ψ nt T' a' → Below B w w' →
      ∃ v, (results g a'.tmps).run P w' = .ok v w' ∧ RR (.returned v) w' := by
    intro T' A' ψ a' w' h h3 h4 h5 h7
    obtain ⟨vs, vs', g1, g2, g3⟩ := resF_sim h4 h5 hrs h
    refine ⟨if h : vs'.toArray.size = 1 then vs'.toArray[0] else .tuple vs'.toArray, ?_, ?_⟩
    · rw [results_eq, Array.mapM_eq_mapM_toList]
      simp only [Sem.run_bind, Sem.run_map, g3, Result.andThen_ok, Sem.run_pure]
    · subst hR0
      exact ⟨resV vs, A', _, ψ, g1, rfl, h3, h4, resV_sim g2, h7⟩
  -- an end ahead of the deferred call
  have early : ∀ (Q : Exit → Act → World → Prop), (∀ e a w, e ≠ .normal → bodyPostD P g RR e a w → Q e a w) → ∀ (e : Ex) (T' : Tr Value) (A' : AH) (ψ : Phi) (a' : Act) (w' : World), e ≠ .normal → k0 e T' A' = some r → Ext φ ψ →
      R B gl ψ A' w' → TR ψ nt T' a' → a'.defers = [] → Below B w w' → Q (exOf e) a' w' := by
    intro Q hQ e T' A' ψ a' w' hne h1 h3 h4 h5 h6 h7
    cases e with
    | normal => exact absurd rfl hne
    | exit i => cases h1
    | ret =>
      refine hQ .ret a' w' (by simp) ?_
      show Leaves P g a'.tmps RR a'.defers .returning w'
      rw [h6]
      exact fin T' A' ψ a' w' h1 h3 h4 h5 h7
  have ncases : ∀ (e : Ex), e = .normal ∨ e ≠ .normal := fun e => by cases e <;> simp
  -- a
  refine wp_seq (code_sim hcall hst hm F a a' ha β T A _ r φ _ w _ hk hG hR hTR ?_)
  intro e T1 A1 ψ1 a1 w1 h1 hG1 hx1 hR1 hT1 hd1' hb1
  rcases ncases e with rfl | hne
  case inr =>
    refine early _ (fun e a w hne h => by cases e <;> first | exact absurd rfl hne | exact h) e T1 A1 ψ1 a1 w1 hne ?_ hx1 hR1 hT1 hd1' hb1
    cases e <;> first | exact absurd rfl hne | exact h1
  change execF call F (.seq b' (.seq c' (.seq (.ops [⟨.mkfn (.func fd) [] caps', some d1, none⟩]) y'))) T1 A1 k0 = some r at h1
  show (Code.seq b (.seq c (.seq (.region id #[o1, o2] false) y))).wp P _ a1 w1
  -- b
  refine wp_seq (code_sim hcall hst hm F b b' hb' β T1 A1 _ r ψ1 _ w1 _ h1 hG1 hR1 hT1 ?_)
  intro e T2 A2 ψ2 a2 w2 h2 hG2 hx2 hR2 hT2 hd2' hb2
  rcases ncases e with rfl | hne
  case inr =>
    refine early _ (fun e a w hne h => by cases e <;> first | exact absurd rfl hne | exact h) e T2 A2 ψ2 a2 w2 hne ?_ (hx1.trans hx2) hR2 hT2 (hd2'.trans hd1') (hb1.trans hb2)
    cases e <;> first | exact absurd rfl hne | exact h2
  change execF call F (.seq c' (.seq (.ops [⟨.mkfn (.func fd) [] caps', some d1, none⟩]) y')) T2 A2 k0 = some r at h2
  show (Code.seq c (.seq (.region id #[o1, o2] false) y)).wp P _ a2 w2
  -- c
  refine wp_seq (code_sim hcall hst hm F c c' hc β T2 A2 _ r ψ2 _ w2 _ h2 hG2 hR2 hT2 ?_)
  intro e T3 A3 ψ3 a3 w3 h3 hG3 hx3 hR3 hT3 hd3' hb3
  rcases ncases e with rfl | hne
  case inr =>
    refine early _ (fun e a w hne h => by cases e <;> first | exact absurd rfl hne | exact h) e T3 A3 ψ3 a3 w3 hne ?_ ((hx1.trans hx2).trans hx3) hR3 hT3 ((hd3'.trans hd2').trans hd1') ((hb1.trans hb2).trans hb3)
    cases e <;> first | exact absurd rfl hne | exact h3
  have hx : Ext φ ψ3 := (hx1.trans hx2).trans hx3
  have hbl : Below B w w3 := (hb1.trans hb2).trans hb3
  have hd3 : a3.defers = [] := (hd3'.trans hd2').trans hd1'
  change runF call (.mkfn (.func fd) [] caps') (some d1) T3 A3 (fun T A => execF call F y' T A k0) = some r at h3
  show (Code.seq (.region id #[o1, o2] false) y).wp P _ a3 w3
  -- the closure, and that its call is deferred
  unfold runF at h3
  rw [aopF_eq] at h3
  change opt1 (opds T3 caps') (fun cap => putF T3 (some d1) (.func (.func fd) ⟨[]⟩ ⟨cap⟩) fun T => execF call F y' T A3 k0) = some r at h3
  obtain ⟨cap, e1, h3⟩ := opt1_some h3
  rw [putF_eq] at h3
  have hcv := hT3.opds hR3 hcaps e1
  have he0 : ∀ ρ : Operand → Value, (#[] : Array Operand).map ρ = #[] := fun ρ => by simp
  let fv : Value := .func (.func fd) #[] (caps.map a3.eval)
  have hfv : VR ψ3 (.func (.func fd) ⟨[]⟩ ⟨cap⟩) fv := by
    refine .func rfl (fun i v v' h => by simp at h) ?_ ?_
    · simpa using hcv.1
    · simpa using hcv.2
  have hT4 : TR ψ3 nt (T3.set d1 (.func (.func fd) ⟨[]⟩ ⟨cap⟩)) (a3.put (some d1) fv) := hT3.put hd1 hfv
  let dd : Deferred := { target := .fn (.func fd) (caps.map a3.eval), args := #[] ++ #[] }
  let a4 : Act := { a3.put (some d1) fv with defers := [dd] }
  have hT4' : TR ψ3 nt (T3.set d1 (.func (.func fd) ⟨[]⟩ ⟨cap⟩)) a4 := ⟨hT4.size, hT4.get⟩
  have hev : (a3.put (some d1) fv).eval (.tmp d1) = fv := by
    have : d1 < a3.tmps.size := by rw [hT3.size]; exact hd1
    simp [Act.eval, Act.put, this]
  refine wp_seq (wp_region_lit (l := [o1, o2]) ?_)
  subst ho1
  subst ho2
  refine wpList_plain rfl fun K hK => ?_
  have hrun1 : (execOp a3.eval ⟨some d1, .makeFunc (.func fd) #[] caps, ty1, pos1, af1, none⟩).run P w3 = .ok (.value fv) w3 := by
    have hexec : execOp a3.eval ⟨some d1, .makeFunc (.func fd) #[] caps, ty1, pos1, af1, none⟩ = pure (.value (.func (.func fd) ((#[] : Array Operand).map a3.eval) (caps.map a3.eval))) := rfl
    rw [hexec, he0]; rfl
  unfold Oper.wp
  rw [hrun1]
  show K (a3.put (some d1) fv) w3
  refine hK _ _ (wpList_plain rfl fun K2 hK2 => ?_)
  have hrun : (execOp (a3.put (some d1) fv).eval ⟨none, .defer ⟨.value (.tmp d1), #[], #[]⟩, ty2, pos2, af2, none⟩).run P w3 = .ok (.defer dd) w3 := by
    show (do pure (.defer (← Deferred.ofValue ((a3.put (some d1) fv).eval (.tmp d1)) (#[].map (a3.put (some d1) fv).eval))) : Sem Next).run P w3 = _
    rw [hev, he0]
    rfl
  unfold Oper.wp
  rw [hrun]
  have hK2' := hK2 a4 w3
  have ha4 : ({ a3.put (some d1) fv with defers := dd :: (a3.put (some d1) fv).defers } : Act) = a4 := by
    show ({ a3.put (some d1) fv with defers := dd :: a3.defers } : Act) = _
    rw [hd3]
  show K2 ({ a3.put (some d1) fv with defers := dd :: (a3.put (some d1) fv).defers } : Act) w3
  rw [ha4]
  refine hK2' (wpList_nil ?_)
  show y.wp P _ a4 w3
  refine code_sim hcall hst hm F y y' hy β _ A3 k0 r ψ3 a4 w3 _ h3 hG3 hR3 hT4' ?_
  intro e T5 A5 ψ5 a5 w5 h5 hG5 hx5 hR5 hT5 hd5 hb5
  have late : resF T5 A5 rs (fun vs => k (resV vs) A5) = some r → Leaves P g a5.tmps RR a5.defers .returning w5 := by
    intro h
    rw [hd5]
    refine ⟨by simp, .func fd, caps.map a3.eval, fd, (#[] ++ #[]) ++ caps.map a3.eval, rfl, run_callFunc hentd _ _, ?_⟩
    refine (hdef _ _ (by simp)).mono ?_
    rintro e u w' ⟨rfl, rfl, rfl⟩
    exact fin T5 A5 ψ5 a5 _ h (hx.trans hx5) hR5 hT5 (hbl.trans hb5)
  cases e with
  | normal => exact late h5
  | ret => exact late h5
  | exit i => cases h5

end
end Go.Zh
