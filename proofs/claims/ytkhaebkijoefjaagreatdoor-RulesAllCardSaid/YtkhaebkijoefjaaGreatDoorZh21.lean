/- Zh21: summaries stand for calls. -/
import Derived.Test.YtkhaebkijoefjaaGreatDoorZh20
namespace Go.Zh
open Go.RowKit
set_option linter.unusedVariables false

section
variable {B0 B : Nat} {gl : List Nat} {Ag A : AH} {P : Program} {β : Type}

/-- How the rows of the answer are numbered in the caller's memory. -/
def joined (φ ψ : Phi) (next : Nat) (K : List Nat) : Phi := fun b s => if b < next then φ b s else match K[b - next]? with | some k => ψ k s | none => none

theorem eqA_spec {K : List Nat} {b j : Nat} (h : eqA K b j = true) : K[j]? = some b := by
  unfold eqA at h
  split at h
  · rename_i b' hb; rw [Nat.beq_iff h]; exact hb
  · cases h

theorem joined_new {φ ψ : Phi} {next : Nat} {K : List Nat} {j k : Nat} (h : K[j]? = some k) (s : Option Nat) : joined φ ψ next K (next + j) s = ψ k s := by
  unfold joined
  rw [if_neg (by omega), show next + j - next = j from by omega, h]

theorem eq1_vr {φ ψ : Phi} {next : Nat} {K : List Nat} {u t v' : Value} (h : eq1 K u t = true) (hv : VR ψ u v') : VR (joined φ ψ next K) (sh1 next t) v' := by
  unfold eq1 at h
  split at h
  · rename_i a b
    simp only [beq_iff_eq] at h
    subst h
    cases hv
    exact .bool _
  · rename_i k a l b
    simp only [Bool.and_eq_true] at h
    have h1 := kindEq_eq h.1
    have h2 : a = b := by have := h.2; rw [eqI_eq] at this; exact eq_of_beq this
    subst h1; subst h2
    cases hv
    exact .int _ _
  · rw [← bytes_eq h]
    cases hv
    exact .string _
  · cases hv; exact .ptrNil
  · rename_i b o s j o' s'
    simp only [Bool.and_eq_true] at h
    obtain ⟨⟨h1, h2⟩, h3⟩ := h
    have h1 := eqA_spec h1
    have h2 := Nat.beq_iff h2
    have h3 := obeq_eq h3
    subst h2; subst h3
    cases hv with
    | ptr hb => exact .ptr (by show joined φ ψ next K (next + j) _ = _; rw [joined_new h1]; exact hb)
  · cases hv; exact .sliceNil
  · rename_i b o s l c j o' s' l' c'
    simp only [Bool.and_eq_true] at h
    obtain ⟨⟨⟨⟨h1, h2⟩, h3⟩, h4⟩, h5⟩ := h
    have h1 := eqA_spec h1
    have h2 := Nat.beq_iff h2
    have h3 := obeq_eq h3
    have h4 := Nat.beq_iff h4
    have h5 := Nat.beq_iff h5
    subst h2; subst h3; subst h4; subst h5
    cases hv with
    | slice hb ho hc hl => exact .slice (by show joined φ ψ next K (next + j) _ = _; rw [joined_new h1]; exact hb) ho hc hl
  · cases h

theorem eq1s_vrs {φ ψ : Phi} {next : Nat} {K : List Nat} : ∀ {us ts vs' : List Value}, veqs (eq1 K) us ts = true → VRs ψ us vs' → VRs (joined φ ψ next K) (ts.map (sh1 next)) vs'
  | [], [], vs', _, hv => by
    have := hv.1
    cases vs' with
    | nil => exact VRs.nil _
    | cons v vs' => simp at this
  | u :: us, t :: ts, vs', h, hv => by
    simp only [veqs, Bool.and_eq_true] at h
    cases vs' with
    | nil => have := hv.1; simp at this
    | cons v vs' =>
      exact VRs.cons (eq1_vr h.1 (hv.2 0 _ _ rfl rfl)) (eq1s_vrs h.2 ⟨by have := hv.1; simpa using this, fun i a b ha hb => hv.2 (i + 1) a b (by simpa using ha) (by simpa using hb)⟩)
  | [], _ :: _, _, h, _ => by cases h
  | _ :: _, [], _, h, _ => by cases h

theorem eqV_vr {φ ψ : Phi} {next : Nat} {K : List Nat} {u t v' : Value} (h : eqV K u t = true) (hv : VR ψ u v') : VR (joined φ ψ next K) (sh next t) v' := by
  unfold eqV at h
  split at h
  · rename_i a b
    cases hv with
    | agg h1 h2 =>
      have := eq1s_vrs (φ := φ) (next := next) h ⟨h1, h2⟩
      exact .agg this.1 this.2
  · rename_i a b
    cases hv with
    | tuple h1 h2 =>
      rename_i c'
      have key : ∀ (us ts vs' : List Value), veqs (eqG K) us ts = true → VRs ψ us vs' → VRs (joined φ ψ next K) (ts.map fun | .agg c => .agg ⟨c.toList.map (sh1 next)⟩ | v => sh1 next v) vs' := by
        intro us
        induction us with
        | nil =>
          intro ts vs' h hv
          cases ts with
          | cons t ts => cases h
          | nil =>
            cases vs' with
            | nil => exact VRs.nil _
            | cons v vs' => have := hv.1; simp at this
        | cons u us ih =>
          intro ts vs' h hv
          cases ts with
          | nil => cases h
          | cons t ts =>
            simp only [veqs, Bool.and_eq_true] at h
            cases vs' with
            | nil => have := hv.1; simp at this
            | cons v vs' =>
              refine VRs.cons ?_ (ih ts vs' h.2 ⟨by have := hv.1; simpa using this, fun i a b ha hb => hv.2 (i + 1) a b (by simpa using ha) (by simpa using hb)⟩)
              have hr := hv.2 0 _ _ rfl rfl
              have h0 := h.1
              unfold eqG at h0
              split at h0
              · cases hr with
                | agg h1 h2 =>
                  have := eq1s_vrs (φ := φ) (next := next) h0 ⟨h1, h2⟩
                  exact .agg this.1 this.2
              · rename_i hne
                have := eq1_vr (φ := φ) (next := next) h0 hr
                cases t with
                | agg c =>
                  exfalso
                  unfold eq1 at h0
                  cases u <;> simp at h0
                | _ => exact this
      have := key _ _ _ h ⟨h1, h2⟩
      exact .tuple this.1 this.2
  · rename_i hne1 hne2
    have := eq1_vr (φ := φ) (next := next) h hv
    unfold sh
    split
    · exfalso
      unfold eq1 at h
      cases u <;> simp at h
    · exfalso
      unfold eq1 at h
      cases u <;> simp at h
    · exact this

theorem eqB_or {φ ψ : Phi} {next : Nat} {K : List Nat} {w : World} {j k : Nat} {q t : Blk} (hk : K[j]? = some k) (h : eqB K q t = true) (ho : OR ψ w k (.cells q)) : OR (joined φ ψ next K) w (next + j) (.cells (shB next t)) := by
  unfold eqB at h
  simp only [Bool.and_eq_true] at h
  obtain ⟨⟨⟨⟨⟨h0, h1⟩, h2⟩, h3⟩, h4⟩, h5⟩ := h
  have h2 := Nat.beq_iff h2
  have h3 := obeq_eq h3
  have h4 := Nat.beq_iff h4
  have h5 := Nat.beq_iff h5
  have hlen : q.c.length = (t.c.map (sh1 next)).length := by
    have : ∀ (a b : List Value), veqs (eq1 K) a b = true → a.length = b.length := by
      intro a
      induction a with
      | nil => intro b hb; cases b with
               | nil => rfl
               | cons x b => cases hb
      | cons x a ih => intro b hb; cases b with
                       | nil => cases hb
                       | cons y b => simp only [veqs, Bool.and_eq_true] at hb; simp [ih b hb.2]
    rw [List.length_map]; exact this _ _ h1
  have hone : ∀ (a b : List Value), veqs (eq1 K) a b = true → ∀ (i : Nat) v, (b.map (sh1 next))[i]? = some v → ∃ u, a[i]? = some u ∧ ∀ v', VR ψ u v' → VR (joined φ ψ next K) v v' := by
    intro a
    induction a with
    | nil => intro b hb i v hv; cases b with
             | nil => simp at hv
             | cons x b => cases hb
    | cons x a ih => intro b hb i v hv; cases b with
                     | nil => cases hb
                     | cons y b =>
                       simp only [veqs, Bool.and_eq_true] at hb
                       cases i with
                       | zero => simp at hv; subst hv; exact ⟨x, rfl, fun v' hr => eq1_vr hb.1 hr⟩
                       | succ i => obtain ⟨u, e, hu⟩ := ih b hb.2 i v (by simpa using hv); exact ⟨u, by simpa using e, hu⟩
  simp only [OR, shB] at ho ⊢
  rw [← h2, ← h3, ← h4, ← h5]
  cases hg : q.g with
  | none =>
    simp only [hg] at ho ⊢
    obtain ⟨pb, c', T, fz, a1, a2, a3, a4, a5, a6⟩ := ho
    exact ⟨pb, c', T, fz, by rw [joined_new hk]; exact a1, a2, eq1s_vrs h1 a3, a4, a5, fun _ => a6 h0⟩
  | some G =>
    simp only [hg] at ho ⊢
    obtain ⟨a1, a2, a3⟩ := ho
    refine ⟨a1, by rw [← hlen]; exact a2, fun γ g1 g2 => ?_⟩
    obtain ⟨pb, c', T, b1, b2, b3, b4, b5⟩ := a3 γ g1 g2
    refine ⟨pb, c', T, by rw [joined_new hk]; exact b1, b2, b3, b4, fun i v hc hv => ?_⟩
    obtain ⟨u, e, hu⟩ := hone _ _ h1 i v hv
    obtain ⟨v', e', hr⟩ := b5 i u (by rw [hlen]; exact hc) e
    exact ⟨v', e', hu v' hr⟩

theorem eqBs_spec {K : List Nat} {A : AH} : ∀ {ks : List Nat} {ts : List Blk}, eqBs K A ks ts = true → ks.length = ts.length ∧ ∀ (j k : Nat) (t : Blk), ks[j]? = some k → ts[j]? = some t → ∃ q, A.blk k = some q ∧ eqB K q t = true
  | [], [], _ => ⟨rfl, fun j k t h => by simp at h⟩
  | k :: ks, t :: ts, h => by
    simp only [eqBs, Bool.and_eq_true] at h
    obtain ⟨h1, h2⟩ := h
    obtain ⟨l, r⟩ := eqBs_spec h2
    refine ⟨by simp [l], fun j k' t' hk ht => ?_⟩
    cases j with
    | zero =>
      simp at hk ht
      subst hk; subst ht
      split at h1
      · rename_i q hq; exact ⟨q, hq, h1⟩
      · cases h1
    | succ j => exact r j k' t' (by simpa using hk) (by simpa using ht)
  | [], _ :: _, h => by cases h
  | _ :: _, [], h => by cases h

theorem distinct_spec : ∀ {K : List Nat}, distinct K = true → ∀ (i j k : Nat), K[i]? = some k → K[j]? = some k → i = j
  | [], _, i, j, k, h, _ => by simp at h
  | x :: K, h, i, j, k, hi, hj => by
    simp only [distinct, Bool.and_eq_true, Bool.not_eq_true'] at h
    obtain ⟨h1, h2⟩ := h
    have hn : ∀ j', K[j']? ≠ some x := fun j' e => by
      have := hasN_iff.2 (List.mem_of_getElem? e)
      rw [h1] at this; cases this
    cases i with
    | zero =>
      cases j with
      | zero => rfl
      | succ j => simp at hi hj; subst hi; exact absurd hj (hn j)
    | succ i =>
      cases j with
      | zero => simp at hi hj; subst hj; exact absurd hi (hn i)
      | succ j => rw [distinct_spec h2 i j k (by simpa using hi) (by simpa using hj)]

/-- The rows of the answer, laid in the caller's memory. -/
theorem lay_R {φ ψ : Phi} {A1 : AH} {w : World} {Bw : Nat} {S : Sum} {K : List Nat} (hR : R B gl φ A w) (hR1 : R Bw gl ψ A1 w) (hB : B ≤ Bw) (hlow : ∀ b s pb, φ b s = some pb → pb.r < Bw) (hbs : eqBs K A1 K S.blks = true)
    (hd : distinct K = true) : Ext φ (joined φ ψ A.next K) ∧ R B gl (joined φ ψ A.next K) ⟨instT A.next S.blks A.t A.next, A.next + S.blks.length⟩ w := by
  obtain ⟨hlen, hblk⟩ := eqBs_spec hbs
  have hx : Ext φ (joined φ ψ A.next K) := fun b s pb h => by
    unfold joined
    rw [if_pos (hR.dom b s pb h).1]; exact h
  have cut : ∀ b s pb, joined φ ψ A.next K b s = some pb → (b < A.next ∧ φ b s = some pb) ∨ ∃ k, A.next ≤ b ∧ K[b - A.next]? = some k ∧ ψ k s = some pb := by
    intro b s pb h
    unfold joined at h
    split at h
    · rename_i hb; exact .inl ⟨hb, h⟩
    · rename_i hb
      split at h
      · rename_i k hk; exact .inr ⟨k, by omega, hk, h⟩
      · cases h
  have hkept : ∀ (j k : Nat), K[j]? = some k → ∃ q t, A1.blk k = some q ∧ S.blks[j]? = some t ∧ eqB K q t = true := fun j k hk => by
    have hj : j < K.length := by
      rcases Nat.lt_or_ge j K.length with h | h
      · exact h
      · rw [List.getElem?_eq_none h] at hk; cases hk
    have ht : S.blks[j]? = some (S.blks[j]'(by omega)) := List.getElem?_eq_getElem (by omega)
    obtain ⟨q, h1, h2⟩ := hblk j k _ hk ht
    exact ⟨q, _, h1, ht, h2⟩
  have hhigh : ∀ (j k : Nat) s pb, K[j]? = some k → ψ k s = some pb → Bw ≤ pb.r := fun j k s pb hk hp => by
    obtain ⟨q, t, h1, _, h3⟩ := hkept j k hk
    unfold eqB at h3
    simp only [Bool.and_eq_true] at h3
    exact hR1.own k (.cells q) s pb (AH.blk_some h1) (by simpa [AObj.own] using h3.1.1.1.1.1) hp
  have hget : ∀ b o, (instT A.next S.blks A.t A.next).get b = some o → (b < A.next ∧ A.t.get b = some o) ∨ ∃ k t, A.next ≤ b ∧ K[b - A.next]? = some k ∧ S.blks[b - A.next]? = some t ∧ o = .cells (shB A.next t) := by
    intro b o h
    rw [instT_get] at h
    by_cases hb : A.next ≤ b
    · rw [if_pos hb] at h
      cases ht : S.blks[b - A.next]? with
      | none =>
        rw [ht] at h
        have := hR.fresh b o h; omega
      | some t =>
        rw [ht] at h
        have hj : b - A.next < S.blks.length := by
          rcases Nat.lt_or_ge (b - A.next) S.blks.length with h' | h'
          · exact h'
          · rw [List.getElem?_eq_none h'] at ht; cases ht
        refine .inr ⟨K[b - A.next]'(by omega), t, hb, List.getElem?_eq_getElem _, rfl, ?_⟩
        simpa using h.symm
    · rw [if_neg hb] at h
      exact .inl ⟨by omega, h⟩
  refine ⟨hx, ?_, ?_, ?_, ?_, hR.base, ?_, ?_, ?_, ?_⟩
  · intro b o h
    rcases hget b o h with ⟨h1, h2⟩ | ⟨k, t, h1, h2, h3, rfl⟩
    · exact (hR.obj b o h2).keep hx fun s pb _ => rfl
    · obtain ⟨q, g1, g2⟩ := hblk _ k t h2 h3
      have := eqB_or (φ := φ) (next := A.next) h2 g2 (hR1.obj k _ (AH.blk_some g1))
      rw [show A.next + (b - A.next) = b from by omega] at this
      exact this
  · intro b s pb b' s' pb' h h' he
    rcases cut b s pb h with ⟨h1, h2⟩ | ⟨k, h1, h2, h3⟩ <;> rcases cut b' s' pb' h' with ⟨g1, g2⟩ | ⟨k', g1, g2, g3⟩
    · exact hR.inj b s pb b' s' pb' h2 g2 he
    · have := hlow b s pb h2
      have := hhigh _ k' s' pb' g2 g3
      omega
    · have := hlow b' s' pb' g2
      have := hhigh _ k s pb h2 h3
      omega
    · have := hR1.inj k s pb k' s' pb' h3 g3 he
      subst this
      have := distinct_spec hd _ _ _ h2 g2
      omega
  · intro b s pb h
    show b < A.next + S.blks.length ∧ _
    rcases cut b s pb h with ⟨h1, h2⟩ | ⟨k, h1, h2, h3⟩
    · have := hR.dom b s pb h2
      exact ⟨by omega, this.2⟩
    · have hj : b - A.next < K.length := by
        rcases Nat.lt_or_ge (b - A.next) K.length with h' | h'
        · exact h'
        · rw [List.getElem?_eq_none h'] at h2; cases h2
      exact ⟨by omega, (hR1.dom k s pb h3).2⟩
  · intro b o s pb hb ho hp
    rcases cut b s pb hp with ⟨h1, h2⟩ | ⟨k, h1, h2, h3⟩
    · rcases hget b o hb with ⟨g1, g2⟩ | ⟨k, t, g1, _⟩
      · exact hR.own b o s pb g2 ho h2
      · omega
    · exact Nat.le_trans hB (hhigh _ k s pb h2 h3)
  · intro g hg
    obtain ⟨pb, h1, h2⟩ := hR.glob g hg
    exact ⟨pb, hx _ _ _ h1, h2⟩
  · intro b o h
    show b < A.next + S.blks.length
    rcases hget b o h with ⟨h1, h2⟩ | ⟨k, t, h1, h2, h3, _⟩
    · omega
    · have hj : b - A.next < S.blks.length := by
        rcases Nat.lt_or_ge (b - A.next) S.blks.length with h' | h'
        · exact h'
        · rw [List.getElem?_eq_none h'] at h3; cases h3
      omega
  · intro b q s pb hb hp
    rcases hget b _ hb with ⟨g1, g2⟩ | ⟨k, t, g1, g2, g3, g4⟩
    · rcases cut b s pb hp with ⟨h1, h2⟩ | ⟨k, h1, h2, h3⟩
      · exact hR.elem b q s pb g2 h2
      · omega
    · cases g4
      rcases cut b s pb hp with ⟨h1, h2⟩ | ⟨k', h1, h2, h3⟩
      · omega
      · rw [g2] at h2; cases h2
        obtain ⟨q', e1, e2⟩ := hblk _ k t g2 g3
        have := hR1.elem k q' s pb (AH.blk_some e1) h3
        unfold eqB at e2
        simp only [Bool.and_eq_true] at e2
        rw [this, Nat.beq_iff e2.1.1.1.2]; rfl
  · intro b q G γ hb hg hlt
    rcases hget b _ hb with ⟨g1, g2⟩ | ⟨k, t, g1, g2, g3, g4⟩
    · show joined φ ψ A.next K b (some γ) = none
      unfold joined
      rw [if_pos g1]
      exact hR.gens b q G γ g2 hg hlt
    · cases g4
      show joined φ ψ A.next K b (some γ) = none
      unfold joined
      rw [if_neg (by omega), g2]
      obtain ⟨q', e1, e2⟩ := hblk _ k t g2 g3
      unfold eqB at e2
      simp only [Bool.and_eq_true] at e2
      refine hR1.gens k q' G γ (AH.blk_some e1) ?_ hlt
      rw [obeq_eq e2.1.1.2]; exact hg

/-- **One summary.** -/
theorem sum_ok (hB : B0 ≤ B) (hn : noOwn Ag) {inner : PolyCall} (hin : ∀ B', B0 ≤ B' → ∀ β, CallOK B' gl P (Glob B0 gl Ag) (inner β)) {S : Sum} {K : List Nat} (hpl : S.args.all plainV = true)
    (hrun : inner Bool S.f S.args Ag (fun v A1 => match S.check K v A1 with | true => some true | false => none) = some true) {k : Value → AH → Option β} {r : β} (hk : S.lay A k = some r) {φ : Phi} {w : World} {vargs : List Value}
    (hG : Glob B0 gl Ag w) (hR : R B gl φ A w) (hv : VRs φ S.args vargs) :
    Enters P S.f ∧ Calls P S.f vargs.toArray w fun e w' => ∃ v A' v' ψ, k v A' = some r ∧ e = .returned v' ∧ Ext φ ψ ∧ R B gl ψ A' w' ∧ VR ψ v v' ∧ Below B w w' := by
  have hva := plainVs_eq hpl hv
  subst hva
  obtain ⟨φg, hRg⟩ := hG.at hn
  obtain ⟨hent, hcalls⟩ := hin w.heap.size (Nat.le_trans hB hR.base) Bool _ _ _ _ _ hrun φg w S.args hG hRg (plainVs_refl hpl)
  refine ⟨hent, hcalls.mono ?_⟩
  rintro e w' ⟨v, A1, v', ψ, h1, rfl, h3, h4, h5, h6⟩
  split at h1
  case h_2 => cases h1
  rename_i hc
  unfold Sum.check at hc
  simp only [Bool.and_eq_true] at hc
  obtain ⟨⟨c1, c2⟩, c3⟩ := hc
  have hR' := hR.same h6.size fun k hk => h6.block k hk
  obtain ⟨hx, hR2⟩ := lay_R hR' h4 hR.base (fun b s pb hp => (hR.dom b s pb hp).2) c2 c3
  rw [Sum.lay_eq] at hk
  exact ⟨_, _, v', _, hk, rfl, hx, hR2, eqV_vr c1 h5, h6.mono hR.base⟩

end
end Go.Zh
