/- Zh23: summaries of calls that look at rows of the caller's: the rows are compared with those of a closed run. -/
import Derived.Test.YtkhaebkijoefjaaGreatDoorZhS3
namespace Go.Zh
open Go.RowKit
set_option linter.unusedVariables false

def AObj.unown : AObj → AObj
  | .cells q => .cells { q with own := false }
  | o => o

theorem R.freeze {B : Nat} {gl : List Nat} {φ : Phi} {A A' : AH} {w : World} (h : R B gl φ A w) (hn : A'.next = A.next) (hg : ∀ b o', A'.t.get b = some o' → ∃ o, A.t.get b = some o ∧ o' = o.unown) (hown : ∀ b o', A'.t.get b = some o' → o'.own = false) :
    R w.heap.size gl φ A' w := by
  refine ⟨?_, h.inj, fun b s pb hp => by rw [hn]; exact h.dom b s pb hp, fun b o s pb hb ho => (by rw [hown b o hb] at ho; cases ho), Nat.le_refl _, h.glob, ?_, ?_, ?_⟩
  · intro b o' hb
    obtain ⟨o, h1, rfl⟩ := hg b o' hb
    have := h.obj b o h1
    cases o with
    | cells q =>
      simp only [AObj.unown, OR] at this ⊢
      cases hq : q.g with
      | none =>
        simp only [hq] at this ⊢
        obtain ⟨pb, c', T, fz, a1, a2, a3, a4, a5, a6⟩ := this
        exact ⟨pb, c', T, fz, a1, a2, a3, a4, a5, fun e => by cases e⟩
      | some G =>
        simp only [hq] at this ⊢
        exact this
    | map es => exact this
    | iter s p => exact this
  · intro b o' hb
    obtain ⟨o, h1, _⟩ := hg b o' hb
    rw [hn]; exact h.fresh b o h1
  · intro b q s pb hb hp
    obtain ⟨o, h1, h2⟩ := hg b _ hb
    cases o with
    | cells q' => cases h2; exact h.elem b q' s pb h1 hp
    | map es => cases h2
    | iter s p => cases h2
  · intro b q G γ hb hq hlt
    obtain ⟨o, h1, h2⟩ := hg b _ hb
    cases o with
    | cells q' => cases h2; exact h.gens b q' G γ h1 hq hlt
    | map es => cases h2
    | iter s p => cases h2

/-! ### rows of the caller's, to be read only -/
def shR (n : Nat) (q : Blk) : Blk := ⟨q.c.map (sh1 n), q.e, q.g, q.m, q.p, false⟩
def instR (n : Nat) : List Blk → Tr AObj → Nat → Tr AObj
  | [], t, i => t
  | q :: l, t, i => instR n l (t.set i (.cells (shR n q))) (i + 1)
theorem instR_get (n : Nat) : ∀ (l : List Blk) (t : Tr AObj) (i b : Nat), (instR n l t i).get b = if i ≤ b then (match l[b - i]? with | some q => some (.cells (shR n q)) | none => t.get b) else t.get b
  | [], t, i, b => by simp [instR]
  | q :: l, t, i, b => by
    simp only [instR]
    rw [instR_get n l]
    by_cases h1 : i + 1 ≤ b
    · rw [if_pos h1, if_pos (by omega)]
      have : b - i = (b - (i + 1)) + 1 := by omega
      rw [this, List.getElem?_cons_succ]
      cases l[b - (i + 1)]? with
      | some q => rfl
      | none =>
        dsimp only
        rw [Tr.get_set, if_neg (by omega)]
    · rw [if_neg h1, Tr.get_set]
      by_cases h2 : b = i
      · subst h2; simp
      · rw [if_neg h2, if_neg (by omega)]

/-- A call of 'f' at arguments that lead to the rows 'pre' (numbered from 0), which it only reads, answers the plain 'v'. -/
structure SumP where
  f : Nat
  args : List Value
  pre : List Blk
  v : Value

def SumP.heap (S : SumP) (Ag : AH) : AH := ⟨instR Ag.next S.pre Ag.t Ag.next, Ag.next + S.pre.length⟩
def SumP.fits (S : SumP) (K : List Nat) (A : AH) (args : List Value) : Bool := veqs (eqV K) args S.args && eqBs K A K S.pre && distinct K

theorem eqVs_vrs {φ ψ : Phi} {next : Nat} {K : List Nat} : ∀ {us ts vs' : List Value}, veqs (eqV K) us ts = true → VRs ψ us vs' → VRs (joined φ ψ next K) (ts.map (sh next)) vs'
  | [], [], vs', _, hv => by
    have := hv.1
    cases vs' with
    | nil => exact VRs.nil _
    | cons v vs' => simp at this
  | u :: us, t :: ts, vs', h, hv => by
    simp only [veqs, Bool.and_eq_true] at h
    cases vs' with
    | nil => have := hv.1; simp at this
    | cons v vs' =>
      exact VRs.cons (eqV_vr h.1 (hv.2 0 _ _ rfl rfl)) (eqVs_vrs h.2 ⟨by have := hv.1; simpa using this, fun i a b ha hb => hv.2 (i + 1) a b (by simpa using ha) (by simpa using hb)⟩)
  | [], _ :: _, _, h, _ => by cases h
  | _ :: _, [], _, h, _ => by cases h

theorem sumP_ok {B0 B : Nat} {gl : List Nat} {Ag A : AH} {P : Program} {β : Type} (hB : B0 ≤ B) (hn : noOwn Ag) {inner : PolyCall} (hin : ∀ B', B0 ≤ B' → ∀ β, CallOK B' gl P (Glob B0 gl Ag) (inner β)) {S : SumP} (hpl : plainV S.v = true)
    (hrun : inner Bool S.f (S.args.map (sh Ag.next)) (S.heap Ag) (fun v A1 => match veq v S.v with | true => some true | false => none) = some true) {K : List Nat} {args : List Value} (hfit : S.fits K A args = true)
    {k : Value → AH → Option β} {r : β} (hk : k S.v A = some r) {φ : Phi} {w : World} {vargs : List Value} (hG : Glob B0 gl Ag w) (hR : R B gl φ A w) (hv : VRs φ args vargs) :
    Enters P S.f ∧ Calls P S.f vargs.toArray w fun e w' => ∃ v A' v' ψ, k v A' = some r ∧ e = .returned v' ∧ Ext φ ψ ∧ R B gl ψ A' w' ∧ VR ψ v v' ∧ Below B w w' := by
  unfold SumP.fits at hfit
  simp only [Bool.and_eq_true] at hfit
  obtain ⟨⟨f1, f2⟩, f3⟩ := hfit
  obtain ⟨φg, hRg, hlow⟩ := id hG
  obtain ⟨_, hR2⟩ := lay_R (S := ⟨S.f, [], S.v, S.pre⟩) (K := K) hRg hR hB (fun b s pb hp => Nat.lt_of_lt_of_le (hlow b s pb hp) hB) f2 f3
  have hR3 : R w.heap.size gl (joined φg φ Ag.next K) (S.heap Ag) w := by
    refine hR2.freeze rfl ?_ ?_
    · intro b o' hb
      change (instR Ag.next S.pre Ag.t Ag.next).get b = some o' at hb
      rw [instR_get] at hb
      show ∃ o, (instT Ag.next S.pre Ag.t Ag.next).get b = some o ∧ _
      rw [instT_get]
      have old : Ag.t.get b = some o' → ∃ o, Ag.t.get b = some o ∧ o' = o.unown := fun h => by
        refine ⟨o', h, ?_⟩
        have := hn b o' h
        cases o' with
        | cells q => obtain ⟨c, e, g, m, p, own⟩ := q; simp only [AObj.own] at this; subst this; rfl
        | map es => rfl
        | iter s p => rfl
      by_cases h1 : Ag.next ≤ b
      · rw [if_pos h1] at hb ⊢
        cases hq : S.pre[b - Ag.next]? with
        | none => rw [hq] at hb; exact old hb
        | some q => rw [hq] at hb; cases hb; exact ⟨_, rfl, rfl⟩
      · rw [if_neg h1] at hb ⊢
        exact old hb
    · intro b o' hb
      change (instR Ag.next S.pre Ag.t Ag.next).get b = some o' at hb
      rw [instR_get] at hb
      by_cases h1 : Ag.next ≤ b
      · rw [if_pos h1] at hb
        cases hq : S.pre[b - Ag.next]? with
        | none => rw [hq] at hb; exact hn b o' hb
        | some q => rw [hq] at hb; cases hb; rfl
      · rw [if_neg h1] at hb
        exact hn b o' hb
  obtain ⟨hent, hcalls⟩ := hin w.heap.size (Nat.le_trans hB hR.base) Bool _ _ _ _ _ hrun _ w vargs hG hR3 (eqVs_vrs f1 hv)
  refine ⟨hent, hcalls.mono ?_⟩
  rintro e w' ⟨v, A1, v', ψ, h1, rfl, h3, h4, h5, h6⟩
  split at h1
  case h_2 => cases h1
  rename_i hq
  have := veq_eq hq
  subst this
  have hv' := plainV_eq hpl h5
  subst hv'
  exact ⟨_, A, _, φ, hk, rfl, Ext.refl _, hR.same h6.size fun k hk => h6.block k hk, plainV_refl hpl, h6.mono hR.base⟩

end Go.Zh
