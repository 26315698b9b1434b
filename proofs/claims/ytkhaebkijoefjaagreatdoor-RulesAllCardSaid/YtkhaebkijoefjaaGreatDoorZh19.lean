/- Zh19: whole code, whole functions. -/
import Derived.Test.YtkhaebkijoefjaaGreatDoorZh18
namespace Go.Zh
open Go.RowKit
set_option linter.unusedVariables false

def exOf : Ex → Exit
  | .normal => .normal
  | .exit id => .exit id
  | .ret => .ret

section
variable {B : Nat} {gl : List Nat} {P : Program} {β : Type} {nt : Nat} {G : World → Prop} {call : PolyCall}

def PostE (B : Nat) (gl : List Nat) (G : World → Prop) (nt : Nat) (φ : Phi) (a : Act) (w : World) (k : Ex → Tr Value → AH → Option β) (r : β) (Q : Exit → Act → World → Prop) : Prop :=
  ∀ e T' A' ψ a' w', k e T' A' = some r → G w' → Ext φ ψ → R B gl ψ A' w' → TR ψ nt T' a' → a'.defers = a.defers → Below B w w' → Q (exOf e) a' w'

theorem PostE.mono {φ ψ : Phi} {a a' : Act} {w w' : World} {k : Ex → Tr Value → AH → Option β} {r : β} {Q : Exit → Act → World → Prop} (h : PostE B gl G nt φ a w k r Q) (hx : Ext φ ψ) (hd : a'.defers = a.defers) (hb : Below B w w') :
    PostE B gl G nt ψ a' w' k r Q := fun e T' A' χ a'' w'' h1 h2 h3 h4 h5 h6 h7 => h e T' A' χ a'' w'' h1 h2 (hx.trans h3) h4 h5 (h6.trans hd) (hb.trans h7)

/-- A piece of code does what its compiled form does. -/
def CodeOK (B : Nat) (gl : List Nat) (P : Program) (G : World → Prop) (nt : Nat) (c : Code) (body : (β : Type) → CodeK β) : Prop :=
  ∀ (β : Type) (T : Tr Value) (A : AH) (k : Ex → Tr Value → AH → Option β) (r : β) (φ : Phi) (a : Act) (w : World) (Q : Exit → Act → World → Prop), body β T A k = some r → G w → R B gl φ A w → TR φ nt T a →
    PostE B gl G nt φ a w k r Q → c.wp P Q a w

theorem CodeOK.seq {x y : Code} {bx bY : (β : Type) → CodeK β} (hx : CodeOK B gl P G nt x bx) (hy : CodeOK B gl P G nt y bY) :
    CodeOK B gl P G nt (.seq x y) (fun β T A k => bx β T A fun e T A => thenK e T A (fun T A => bY β T A k) k) := by
  intro β T A k r φ a w Q hk hG hR hT hn
  refine wp_seq (hx β T A _ r φ a w _ hk hG hR hT ?_)
  intro e T' A' ψ a' w' h1 h2 h3 h4 h5 h6 h7
  cases e with
  | normal => exact hy β T' A' k r ψ a' w' Q h1 h2 h4 h5 (hn.mono h3 h6 h7)
  | exit id => exact hn (.exit id) T' A' ψ a' w' h1 h2 h3 h4 h5 h6 h7
  | ret => exact hn .ret T' A' ψ a' w' h1 h2 h3 h4 h5 h6 h7

theorem CodeOK.rounds {c : Code} {b : (β : Type) → CodeK β} (hc : CodeOK B gl P G nt c b) : ∀ (n : Nat) (β : Type) (T : Tr Value) (A : AH) (k : Ex → Tr Value → AH → Option β) (r : β) (φ : Phi) (a : Act) (w : World)
    (Q : Exit → Act → World → Prop), roundsF (b β) n T A k = some r → G w → R B gl φ A w → TR φ nt T a → PostE B gl G nt φ a w k r Q → Code.rounds P c Q n a w
  | 0, β, T, A, k, r, φ, a, w, Q, hk, _, _, _, _ => by cases hk
  | n + 1, β, T, A, k, r, φ, a, w, Q, hk, hG, hR, hT, hn => by
    change b β T A (fun e T A => thenK e T A (fun T A => roundsF (b β) n T A k) k) = some r at hk
    refine hc β T A _ r φ a w _ hk hG hR hT ?_
    intro e T' A' ψ a' w' h1 h2 h3 h4 h5 h6 h7
    cases e with
    | normal => exact CodeOK.rounds hc n β T' A' k r ψ a' w' Q h1 h2 h4 h5 (hn.mono h3 h6 h7)
    | exit id => exact hn (.exit id) T' A' ψ a' w' h1 h2 h3 h4 h5 h6 h7
    | ret => exact hn .ret T' A' ψ a' w' h1 h2 h3 h4 h5 h6 h7

theorem Post.of {φ : Phi} {a : Act} {w : World} {k : Ex → Tr Value → AH → Option β} {r : β} {Q : Exit → Act → World → Prop} (h : PostE B gl G nt φ a w k r Q) : Post B gl G nt φ a w (fun T A => k .normal T A) r (Q .normal) :=
  fun T' A' ψ a' w' h1 h2 h3 h4 h5 h6 h7 => h .normal T' A' ψ a' w' h1 h2 h3 h4 h5 h6 h7

/-- **Code.** -/
theorem code_sim (hcall : ∀ β, CallOK B gl P G (call β)) (hst : ∀ w w', G w → Below B w w' → G w') (hm : P.follows .mixedOrders = true) (F : Nat) : ∀ (c : Code) (ac : AC), prepC P gl nt c = some ac →
    CodeOK B gl P G nt c (fun β => execF call F ac) := by
  intro c
  induction c with
  | skip =>
    intro ac hp; cases hp
    intro β T A k r φ a w Q hk hG hR hT hn
    exact wp_skip (hn .normal T A φ a w hk hG (Ext.refl _) hR hT rfl (Below.refl _ _))
  | label l =>
    intro ac hp; cases hp
    intro β T A k r φ a w Q hk hG hR hT hn
    exact wp_label (hn .normal T A φ a w hk hG (Ext.refl _) hR hT rfl (Below.refl _ _))
  | region id ops b =>
    intro ac hp
    cases b with
    | false =>
      simp only [prepC] at hp
      split at hp
      case h_2 => cases hp
      rename_i l hl
      cases hp
      intro β T A k r φ a w Q hk hG hR hT hn
      exact region_sim hcall hst hl hk hG hR hT (Post.of hn)
    | true =>
      simp only [prepC] at hp
      split at hp
      case h_2 => cases hp
      rename_i l hl
      cases hok : okD ops.toList (mkDs (aheads ops.toList []) l) (aheads ops.toList []) with
      | false => rw [hok] at hp; cases hp
      | true =>
        rw [hok] at hp
        cases hp
        intro β T A k r φ a w Q hk hG hR hT hn
        exact draw_sim hcall hst hm hl hok hk hG hR hT (Post.of hn)
  | seq x y ihx ihy =>
    intro ac hp
    simp only [prepC] at hp
    split at hp
    case h_2 => cases hp
    rename_i ax ay hx hy
    cases hp
    exact CodeOK.seq (ihx _ hx) (ihy _ hy)
  | cond c x y ihx ihy =>
    intro ac hp
    simp only [prepC] at hp
    split at hp
    case h_2 => cases hp
    rename_i c' ax ay hc hx hy
    cases hp
    intro β T A k r φ a w Q hk hG hR hT hn
    change opdK T c' (fun v => asBoolK v fun b => @Bool.rec (fun _ => Option β) (execF call F ay T A k) (execF call F ax T A k) b) = some r at hk
    rw [opdK_eq] at hk
    obtain ⟨v, e1, hk⟩ := opt1_some hk
    have hv := hT.opd hR hc e1
    unfold asBoolK at hk
    split at hk
    case h_2 => cases hk
    rename_i b
    have hb : a.eval c = .bool b := (hv.bool_of).1 b rfl
    cases b with
    | true => exact wp_cond_true hb (ihx _ hx β T A k r φ a w Q hk hG hR hT hn)
    | false => exact wp_cond_false hb (ihy _ hy β T A k r φ a w Q hk hG hR hT hn)
  | block id x ih =>
    intro ac hp
    simp only [prepC] at hp
    split at hp
    case h_2 => cases hp
    rename_i ax hx
    cases hp
    intro β T A k r φ a w Q hk hG hR hT hn
    refine wp_block (ih _ hx β T A _ r φ a w _ hk hG hR hT ?_)
    intro e T' A' ψ a' w' h1 h2 h3 h4 h5 h6 h7
    cases e with
    | normal => exact hn .normal T' A' ψ a' w' h1 h2 h3 h4 h5 h6 h7
    | ret => exact hn .ret T' A' ψ a' w' h1 h2 h3 h4 h5 h6 h7
    | exit i =>
      change @Bool.rec (fun _ => Option β) (k (.exit i) T' A') (k .normal T' A') (Nat.beq i id) = some r at h1
      show if i = id then Q .normal a' w' else Q (.exit i) a' w'
      cases hb : Nat.beq i id with
      | true =>
        rw [hb] at h1
        rw [if_pos (Nat.beq_iff hb)]
        exact hn .normal T' A' ψ a' w' h1 h2 h3 h4 h5 h6 h7
      | false =>
        rw [hb] at h1
        rw [if_neg (fun e => by rw [e] at hb; simp at hb)]
        exact hn (.exit i) T' A' ψ a' w' h1 h2 h3 h4 h5 h6 h7
  | exit id =>
    intro ac hp; cases hp
    intro β T A k r φ a w Q hk hG hR hT hn
    exact wp_exit (hn (.exit id) T A φ a w hk hG (Ext.refl _) hR hT rfl (Below.refl _ _))
  | loop x ih =>
    intro ac hp
    simp only [prepC] at hp
    split at hp
    case h_2 => cases hp
    rename_i ax hx
    cases hp
    intro β T A k r φ a w Q hk hG hR hT hn
    exact wp_loop_rounds F (CodeOK.rounds (ih _ hx) F β T A k r φ a w Q hk hG hR hT hn)
  | ret =>
    intro ac hp; cases hp
    intro β T A k r φ a w Q hk hG hR hT hn
    exact wp_ret (hn .ret T A φ a w hk hG (Ext.refl _) hR hT rfl (Below.refl _ _))
  | _ => intro ac hp; simp [prepC] at hp

/-! ### functions -/
theorem argsF_spec {l : List Value} : ∀ {i : Nat} {T : Tr Value} {k : Tr Value → Option β} {r : β}, argsF l i T k = some r → ∃ T', k T' = some r ∧ ∀ (t : Nat) v, T'.get t = some v → (∃ j, t = i + j ∧ l[j]? = some v) ∨ T.get t = some v := by
  induction l with
  | nil => intro i T k r h; exact ⟨T, h, fun t v hv => .inr hv⟩
  | cons x l ih =>
    intro i T k r h
    change T.putK i x (fun T => natK (Nat.succ i) fun i => argsF l i T k) = some r at h
    rw [Tr.putK_eq, natK_eq] at h
    obtain ⟨T', h1, h2⟩ := ih h
    refine ⟨T', h1, fun t v hv => ?_⟩
    rcases h2 t v hv with ⟨j, rfl, hj⟩ | h3
    · exact .inl ⟨j + 1, by omega, by simpa using hj⟩
    · rw [Tr.get_set] at h3
      split at h3
      · rename_i e
        cases h3
        exact .inl ⟨0, by omega, rfl⟩
      · exact .inr h3

def resOne (tmps : Array Value) : ResultVar → Sem Value
  | .tmp t => pure (tmps.getD t undef)
  | .cell a t => do loadVar t (← asAddr (tmps.getD a undef))

theorem results_eq (fn : Func) (tmps : Array Value) : results fn tmps = (do
    let vs ← fn.results.mapM (resOne tmps)
    pure (if h : vs.size = 1 then vs[0] else .tuple vs)) := rfl

theorem loadAt_asAddr {t : TypeId} {p v : Value} {w w' : World} (h : (Instr.loadAt t p).run P w = .ok v w') : (do loadVar t (← asAddr p) : Sem Value).run P w = .ok v w' := by
  cases p with
  | pointer a =>
    cases a with
    | none => simp [Instr.loadAt, Instr.sureAddr, stuck, Sem.run] at h
    | some a => exact h
  | _ => simp [Instr.loadAt, Instr.sureAddr, stuck, Sem.run] at h

theorem resF_sim {φ : Phi} {A : AH} {w : World} {T : Tr Value} {a : Act} (hR : R B gl φ A w) (hT : TR φ nt T a) : ∀ {l : List ResultVar} {rs : List (Nat × Option (Option Nat))}, resTs P l = some rs → ∀ {k : List Value → Option β} {r : β},
    resF T A rs k = some r → ∃ vs vs', k vs = some r ∧ VRs φ vs vs' ∧ (l.mapM (resOne a.tmps)).run P w = .ok vs' w := by
  intro l
  induction l with
  | nil =>
    intro rs hp k r hk
    cases hp
    exact ⟨[], [], hk, VRs.nil _, rfl⟩
  | cons x l ih =>
    intro rs hp k r hk
    cases x with
    | tmp t =>
      simp only [resTs] at hp
      split at hp
      case h_2 => cases hp
      rename_i rs' hrs
      cases hp
      change T.getK t (fun v => resF T A rs' fun vs => k (v :: vs)) = some r at hk
      rw [Tr.getK_eq] at hk
      split at hk
      case h_2 => cases hk
      rename_i v hv
      obtain ⟨v', e, hr⟩ := hT.get t v hv
      obtain ⟨vs, vs', h1, h2, h3⟩ := ih hrs hk
      refine ⟨v :: vs, v' :: vs', h1, VRs.cons hr h2, ?_⟩
      rw [List.mapM_cons]
      have : (resOne a.tmps (.tmp t)).run P w = .ok v' w := by simp [resOne, e]
      simp only [Sem.run_bind, this, Result.andThen_ok, h3, Sem.run_pure]
    | cell t ty =>
      simp only [resTs] at hp
      split at hp
      case h_2 => cases hp
      rename_i rs' n hrs hn
      cases hp
      change T.getK t (fun v => aload A n v fun v => resF T A rs' fun vs => k (v :: vs)) = some r at hk
      rw [Tr.getK_eq] at hk
      split at hk
      case h_2 => cases hk
      rename_i p hp
      obtain ⟨p', e, hr⟩ := hT.get t p hp
      obtain ⟨v, v', g1, g2, g3⟩ := hR.load (P := P) hn hr hk
      obtain ⟨vs, vs', h1, h2, h3⟩ := ih hrs g1
      refine ⟨v :: vs, v' :: vs', h1, VRs.cons g3 h2, ?_⟩
      rw [List.mapM_cons]
      have : (resOne a.tmps (.cell t ty)).run P w = .ok v' w := by
        have hp' : a.tmps.getD t undef = p' := by simp [e]
        simp only [resOne, hp']
        exact loadAt_asAddr g2
      simp only [Sem.run_bind, this, Result.andThen_ok, h3, Sem.run_pure]

theorem resV_sim {φ : Phi} {vs vs' : List Value} (h : VRs φ vs vs') : VR φ (resV vs) (if h : vs'.toArray.size = 1 then vs'.toArray[0] else .tuple vs'.toArray) := by
  have hl := h.1
  match vs, vs' with
  | [v], [v'] => exact h.2 0 v v' rfl rfl
  | [], [] => exact .tuple rfl fun i v v' hv => by simp at hv
  | a :: b :: l, a' :: b' :: l' =>
    rw [dif_neg (by simp)]
    exact .tuple h.1 h.2
  | [], _ :: _ => simp at hl
  | _ :: _, [] => simp at hl
  | [_], _ :: _ :: _ => simp at hl
  | _ :: _ :: _, [_] => simp at hl

/-- What is asked of a compiled function. -/
def FnOK (B : Nat) (gl : List Nat) (P : Program) (G : World → Prop) (F : Nat) (f : Nat) (fn : AFn) : Prop :=
  ∀ (call : PolyCall), (∀ β, CallOK B gl P G (call β)) → ∀ (β : Type) (args : List Value) (A : AH) (k : Value → AH → Option β) (r : β), runFn call F fn args A k = some r →
    ∀ φ w vargs, G w → R B gl φ A w → VRs φ args vargs →
      Enters P f ∧ Calls P f vargs.toArray w fun e w' => ∃ v A' v' ψ, k v A' = some r ∧ e = .returned v' ∧ Ext φ ψ ∧ R B gl ψ A' w' ∧ VR ψ v v' ∧ Below B w w'

theorem prepF_spec {f : Nat} {fn : AFn} (h : prepF P gl f = some fn) : ∃ g c rs, P.funcs[f]? = some g ∧ g.body = some c ∧ resTs P g.results.toList = some rs ∧ prepC P gl g.ntmps c = some fn.code ∧ fn.nt = g.ntmps ∧ fn.res = rs := by
  unfold prepF at h
  split at h
  case h_2 => cases h
  rename_i g hg
  split at h
  case h_2 => cases h
  rename_i c rs hc hrs
  split at h
  case h_2 => cases h
  rename_i ac hac
  cases h
  exact ⟨g, c, rs, hg, hc, hrs, hac, rfl, rfl⟩

theorem fn_ok (hst : ∀ w w', G w → Below B w w' → G w') (hm : P.follows .mixedOrders = true) {F f : Nat} {fn : AFn} (hp : prepF P gl f = some fn) (hent : Enters P f) : FnOK B gl P G F f fn := by
  intro call hcall β args A k r hk φ w vargs hG hR hv
  refine ⟨hent, ?_⟩
  obtain ⟨g, c, rs, hf, hb, hrs, hc, hnt, hres⟩ := prepF_spec hp
  unfold runFn at hk
  split at hk
  case h_2 => cases hk
  rename_i hle
  have hle := Nat.ble_iff hle
  obtain ⟨T, hk, hT⟩ := argsF_spec hk
  refine calls_of_wp hf hb ?_
  have hsz : (vargs.toArray ++ Array.replicate (g.ntmps - vargs.toArray.size) undef).size = g.ntmps := by
    have := hv.1
    simp
    omega
  have hTR : TR φ g.ntmps T { tmps := vargs.toArray ++ Array.replicate (g.ntmps - vargs.toArray.size) undef, defers := [] } := by
    refine ⟨hsz, fun t v h => ?_⟩
    rcases hT t v h with ⟨j, rfl, hj⟩ | h1
    · obtain ⟨v', e, hr⟩ := hv.get hj
      refine ⟨v', ?_, hr⟩
      have : j < vargs.length := by
        rcases Nat.lt_or_ge j vargs.length with h' | h'
        · exact h'
        · rw [List.getElem?_eq_none h'] at e; cases e
      rw [Nat.zero_add, Array.getElem?_append_left (by simpa using this)]
      simpa using e
    · rw [blank_get] at h1; cases h1
  refine code_sim hcall hst hm F c fn.code hc β T A _ r φ _ w _ hk hG hR hTR ?_
  intro e T' A' ψ a' w' h1 h2 h3 h4 h5 h6 h7
  have fin : resF T' A' fn.res (fun vs => k (resV vs) A') = some r → a'.defers = [] ∧ ∃ v, (results g a'.tmps).run P w' = .ok v w' ∧
      ∃ u A'' v' χ, k u A'' = some r ∧ Ending.returned v = .returned v' ∧ Ext φ χ ∧ R B gl χ A'' w' ∧ VR χ u v' ∧ Below B w w' := by
    intro h
    rw [hres] at h
    obtain ⟨vs, vs', g1, g2, g3⟩ := resF_sim h4 h5 hrs h
    refine ⟨h6, _, ?_, resV vs, A', _, ψ, g1, rfl, h3, h4, resV_sim g2, h7⟩
    rw [results_eq, Array.mapM_eq_mapM_toList]
    simp only [Sem.run_bind, Sem.run_map, g3, Result.andThen_ok, Sem.run_pure]
  cases e with
  | normal => exact fin h1
  | ret => exact fin h1
  | exit id => cases h1

/-- **A run by the table.** -/
theorem acall_ok {tbl : Tr AFn} {F : Nat} {base : PolyCall} (htbl : ∀ (f : Nat) (fn : AFn), tbl.get f = some fn → FnOK B gl P G F f fn) (hbase : ∀ β, CallOK B gl P G (base β)) : ∀ (n : Nat) (β : Type), CallOK B gl P G (acall tbl F base n β)
  | 0, β => hbase β
  | n + 1, β => by
    intro f args A k r hk φ w vargs hG hR hv
    change (match tbl.get f with | some fn => runFn (acall tbl F base n) F fn args A k | none => base β f args A k) = some r at hk
    split at hk
    · rename_i fn hfn
      exact htbl f fn hfn _ (acall_ok htbl hbase n) β args A k r hk φ w vargs hG hR hv
    · exact hbase β f args A k r hk φ w vargs hG hR hv

end
end Go.Zh
