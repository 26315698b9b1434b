/- Zh18: regions that draw their order: the whole. -/
import Derived.Test.YtkhaebkijoefjaaGreatDoorZh17
namespace Go.Zh
open Go.RowKit
set_option linter.unusedVariables false

section
variable {B : Nat} {gl : List Nat} {P : Program} {β : Type} {nt : Nat} {G : World → Prop} {call : PolyCall}
  {ops : Array Oper} {ds : List DOp} {pr : List (List Nat)} {V : Nat → Value} {HH : Nat → AH} {TT : Nat → Tr Value} {W : Nat → Bool} {S : Nat → Tr Value}

/-- What is known of the run in the order of the numbers. -/
structure Known (call : PolyCall) (ds : List DOp) (V : Nat → Value) (HH : Nat → AH) (TT : Nat → Tr Value) (W : Nat → Bool) (S : Nat → Tr Value) : Prop where
  step : ∀ i d, ds[i]? = some d → StepD call d (TT i) (HH i) (TT (i + 1)) (HH (i + 1)) (V i) (W i) (S i)
  same : ∀ i d, ds[i]? = some d → W i = true → ∀ q ∈ d.ps, aop (call Bool) (S i) (HH q) d.o.ao (fun u _ => some (veq (V i) u)) = some true

theorem dget {i : Nat} {d : DOp} (h : ds[i]? = some d) : dDst ds i = d.o.dst ∧ dTs ds i = d.ts ∧ dEff ds i = d.eff ∧ dPs ds i = d.ps := by
  simp [dDst, dTs, dEff, dPs, h]

theorem Known.up (h : Known call ds V HH TT W S) : ∀ (k p : Nat), p + k ≤ ds.length → (∀ e, p ≤ e → e < p + k → dEff ds e = false) → HH (p + k) = HH p
  | 0, p, _, _ => rfl
  | k + 1, p, hle, he => by
    have h1 := Known.up h k p (by omega) (fun e h1 h2 => he e h1 (by omega))
    have hlt : p + k < ds.length := by omega
    have hd : ds[p + k]? = some ds[p + k] := List.getElem?_eq_getElem hlt
    have h2 := (h.step _ _ hd).same (by rw [← (dget hd).2.2.1]; exact he _ (by omega) (by omega))
    rw [show p + (k + 1) = p + k + 1 from by omega, h2, h1]

theorem Known.const (h : Known call ds V HH TT W S) {p q : Nat} (hp : p ≤ ds.length) (hq : q ≤ ds.length) (he : ∀ e, dEff ds e = true → (e < p ↔ e < q)) : HH p = HH q := by
  have key : ∀ p q, p ≤ q → q ≤ ds.length → (∀ e, dEff ds e = true → (e < p ↔ e < q)) → HH q = HH p := by
    intro p q hpq hq he
    have := h.up (q - p) p (by omega) (fun e h1 h2 => by
      cases hc : dEff ds e with
      | false => rfl
      | true => have := (he e hc).2 (by omega); omega)
    rw [show p + (q - p) = q from by omega] at this
    exact this
  rcases Nat.le_total p q with h1 | h1
  · exact (key p q h1 hq he).symm
  · exact key q p h1 hp fun e hc => (he e hc).symm

theorem Known.tmp0 (h : Known call ds V HH TT W S) {t : Nat} : ∀ i, i ≤ ds.length → (∀ j, j < i → dDst ds j ≠ some t) → (TT i).get t = (TT 0).get t
  | 0, _, _ => rfl
  | i + 1, hi, hj => by
    have hd : ds[i]? = some ds[i] := List.getElem?_eq_getElem (by omega)
    rw [(h.step _ _ hd).tmp, ← Known.tmp0 h i (by omega) (fun j h1 => hj j (by omega))]
    have := hj i (by omega)
    rw [(dget hd).1] at this
    cases hx : ds[i].o.dst with
    | none => rfl
    | some u =>
      rw [hx] at this
      show ((TT i).set u (V i)).get t = _
      rw [Tr.get_set, if_neg (fun e => this (by rw [e]))]

theorem Known.tmp1 (h : Known call ds V HH TT W S) (okd : OKD ops.toList ds pr) {t j : Nat} (hj : dDst ds j = some t) (hjn : j < ds.length) : ∀ i, i ≤ ds.length → j < i → (TT i).get t = some (V j)
  | 0, _, h0 => by omega
  | i + 1, hi, hlt => by
    have hd : ds[i]? = some ds[i] := List.getElem?_eq_getElem (by omega)
    rw [(h.step _ _ hd).tmp]
    by_cases e : j = i
    · subst e
      rw [(dget hd).1] at hj
      rw [hj]
      show ((TT j).set t (V j)).get t = _
      rw [Tr.get_set, if_pos rfl]
    · have h1 := Known.tmp1 h okd hj hjn i (by omega) (by omega)
      have h2 := (okd.two i j (by omega) hjn e t hj).2
      rw [(dget hd).1] at h2
      cases hx : ds[i].o.dst with
      | none => exact h1
      | some u =>
        rw [hx] at h2
        show ((TT i).set u (V i)).get t = _
        rw [Tr.get_set, if_neg (fun e => h2 (by rw [e])), h1]

/-- What holds once some operations have come up. -/
structure Inv (B : Nat) (gl : List Nat) (G : World → Prop) (nt : Nat) (ops : Array Oper) (ds : List DOp) (V : Nat → Value) (HH : Nat → AH) (φ0 : Phi) (a0 : Act) (w0 : World) (φ : Phi) (p : Nat) (listed : Array Bool) (a : Act) (w : World) : Prop where
  size : listed.size = ds.length
  down : ∀ i, listed.getD i false = true → ∀ e ∈ dAft ops.toList i, listed.getD e false = true
  ext : Ext φ0 φ
  ple : p ≤ ds.length
  phase : ∀ e, dEff ds e = true → (listed.getD e false = true ↔ e < p)
  rel : R B gl φ (HH p) w
  good : G w
  below : Below B w0 w
  defers : a.defers = a0.defers
  tsize : a.tmps.size = nt
  vals : ∀ j, listed.getD j false = true → ∀ t, dDst ds j = some t → ∃ v', a.tmps[t]? = some v' ∧ VR φ (V j) v'
  rest : ∀ t, (∀ j, listed.getD j false = true → dDst ds j ≠ some t) → a.tmps[t]? = a0.tmps[t]?

theorem predL (okd : OKD ops.toList ds pr) {listed : Array Bool} (hdc : ∀ i, listed.getD i false = true → ∀ e ∈ dAft ops.toList i, listed.getD e false = true) :
    ∀ i, i < ds.length → (∀ e ∈ dAft ops.toList i, listed.getD e false = true) → ∀ j ∈ dPr pr i, listed.getD j false = true := by
  intro i
  induction i using Nat.strongRecOn with
  | _ i ih =>
    intro hi h j hj
    obtain ⟨e, he, hc⟩ := okd.pre i hi j hj
    rcases hc with rfl | hc
    · exact h _ he
    · have hlt := okd.back i hi e he
      exact ih e hlt (by omega) (hdc e (h e he)) j hc

theorem mem_aft {i : Nat} {o : Oper} (ho : ops[i]? = some o) {e : Nat} : e ∈ dAft ops.toList i ↔ ∃ x ∈ o.after, Region.binds .any x = true ∧ x.on = e := by
  have : ops.toList[i]? = some o := by simpa using ho
  simp only [dAft, this, List.mem_map, List.mem_filter, Array.mem_toList_iff]
  constructor
  · rintro ⟨x, ⟨h1, h2⟩, h3⟩; exact ⟨x, h1, h2, h3⟩
  · rintro ⟨x, h1, h2, h3⟩; exact ⟨x, ⟨h1, h2⟩, h3⟩

theorem getD_ne {listed : Array Bool} {i j : Nat} (h : i ≠ j) : (listed.setIfInBounds i true).getD j false = listed.getD j false := getD_set_ne false h
theorem getD_eq {listed : Array Bool} {i : Nat} (h : i < listed.size) : (listed.setIfInBounds i true).getD i false = true := by
  simp [h]

theorem getD_iff {listed : Array Bool} {i j : Nat} (h : i < listed.size) : (listed.setIfInBounds i true).getD j false = true ↔ (j = i ∨ listed.getD j false = true) := by
  by_cases e : i = j
  · subst e; rw [getD_eq h]; simp
  · rw [getD_ne e]
    constructor
    · exact .inr
    · rintro (h1 | h1)
      · exact absurd h1.symm e
      · exact h1

variable {φ0 : Phi} {a0 : Act} {w0 : World} {Q : Exit → Act → World → Prop} {k : Tr Value → AH → Option β} {r : β}

/-- One operation has come up: what holds behind it. -/
theorem Inv.next (okd : OKD ops.toList ds pr) {φ ψ : Phi} {p p' i : Nat} {listed : Array Bool} {a : Act} {w w' : World} (h : Inv B gl G nt ops ds V HH φ0 a0 w0 φ p listed a w) (hi : i < ds.length)
    (hun : listed.getD i false = false) (haft : ∀ e ∈ dAft ops.toList i, listed.getD e false = true) (hx : Ext φ ψ) (hp' : p' ≤ ds.length) (hph : ∀ e, dEff ds e = true → ((e = i ∨ listed.getD e false = true) ↔ e < p'))
    (hR : R B gl ψ (HH p') w') (hG : G w') (hb : Below B w w') {v' : Value} (hv : VR ψ (V i) v') (hok : dstOK nt (dDst ds i) = true) :
    Inv B gl G nt ops ds V HH φ0 a0 w0 ψ p' (listed.setIfInBounds i true) (a.put (dDst ds i) v') w' := by
  have hsz : i < listed.size := by rw [h.size]; exact hi
  refine ⟨by simp [h.size], ?_, h.ext.trans hx, hp', ?_, hR, hG, h.below.trans hb, (put_defers _ _ _).trans h.defers, ?_, ?_, ?_⟩
  · intro j hj e he
    rw [getD_iff hsz] at hj ⊢
    rcases hj with rfl | hj
    · exact .inr (haft e he)
    · exact .inr (h.down j hj e he)
  · intro e he
    rw [getD_iff hsz]
    exact hph e he
  · cases dDst ds i with
    | none => exact h.tsize
    | some d => simp [Act.put, h.tsize]
  · intro j hj t ht
    rw [getD_iff hsz] at hj
    rcases hj with rfl | hj
    · rw [ht] at hok ⊢
      have : t < nt := by simpa [dstOK] using hok
      exact ⟨v', by simp [Act.put, h.tsize, this], hv⟩
    · obtain ⟨u, h1, h2⟩ := h.vals j hj t ht
      refine ⟨u, ?_, h2.ext hx⟩
      have hji : j ≠ i := fun e => by rw [e, hun] at hj; cases hj
      have hjn : j < ds.length := by
        rw [← h.size]
        rcases Nat.lt_or_ge j listed.size with h' | h'
        · exact h'
        · simp [Array.getElem?_eq_none h'] at hj
      have hne := (okd.two i j hi hjn hji t ht).2
      cases hd : dDst ds i with
      | none => exact h1
      | some d =>
        rw [hd] at hne
        have : d ≠ t := fun e => hne (by rw [e])
        simp only [Act.put]
        rw [Array.getElem?_setIfInBounds_ne this]; exact h1
  · intro t ht
    have h1 := h.rest t fun j hj => ht j ((getD_iff hsz).2 (.inr hj))
    have h2 := ht i ((getD_iff hsz).2 (.inl rfl))
    cases hd : dDst ds i with
    | none => exact h1
    | some d =>
      rw [hd] at h2
      have : d ≠ t := fun e => h2 (by rw [e])
      simp only [Act.put]
      rw [Array.getElem?_setIfInBounds_ne this]; exact h1

/-- A temporary that an operation looks at reads as it does in the order of the numbers. -/
theorem Inv.tmp (okd : OKD ops.toList ds pr) (kn : Known call ds V HH TT W S) {φ : Phi} {p i : Nat} {listed : Array Bool} {a : Act} {w : World} (h : Inv B gl G nt ops ds V HH φ0 a0 w0 φ p listed a w) (hT : TR φ0 nt (TT 0) a0)
    (hi : i < ds.length) (hun : listed.getD i false = false) (haft : ∀ e ∈ dAft ops.toList i, listed.getD e false = true) {t : Nat} (ht : t ∈ dTs ds i) {v : Value} (hv : (TT i).get t = some v) :
    ∃ v', a.tmps[t]? = some v' ∧ VR φ v v' := by
  have hpre := predL okd h.down i hi haft
  have hln : ∀ j, listed.getD j false = true → j < ds.length := fun j hj => by
    rw [← h.size]
    rcases Nat.lt_or_ge j listed.size with h' | h'
    · exact h'
    · simp [Array.getElem?_eq_none h'] at hj
  have plt : ∀ x y, x < ds.length → y ∈ dPr pr x → y < x := by
    intro x
    induction x using Nat.strongRecOn with
    | _ x ih =>
      intro y hx hy
      obtain ⟨e, he, hc⟩ := okd.pre x hx y hy
      have := okd.back x hx e he
      rcases hc with rfl | hc
      · exact this
      · exact Nat.lt_trans (ih e this y (by omega) hc) this
  by_cases hw : ∃ j, j < i ∧ dDst ds j = some t
  · obtain ⟨j, hj, hd⟩ := hw
    have hjn : j < ds.length := by omega
    have h1 := kn.tmp1 okd hd hjn i (by omega) hj
    rw [h1] at hv
    cases hv
    rcases (okd.two i j hi hjn (by omega) t hd).1 ht with h2 | h2
    · exact h.vals j (hpre j h2) t hd
    · have := plt j i hjn h2; omega
  · have h1 := kn.tmp0 i (by omega) (fun j hj e => hw ⟨j, hj, e⟩)
    rw [h1] at hv
    obtain ⟨v', e, hr⟩ := hT.get t v hv
    refine ⟨v', ?_, hr.ext h.ext⟩
    rw [h.rest t, e]
    intro j hj hd
    have hji : j ≠ i := fun e => by rw [e, hun] at hj; cases hj
    rcases (okd.two i j hi (hln j hj) hji t hd).1 ht with h2 | h2
    · exact hw ⟨j, plt i j hi h2, hd⟩
    · have := predL okd h.down j (hln j hj) (h.down j hj) i h2
      rw [hun] at this; cases this

/-- All have come up. -/
theorem Inv.done (okd : OKD ops.toList ds pr) (kn : Known call ds V HH TT W S) {φ : Phi} {p : Nat} {listed : Array Bool} {a : Act} {w : World} (h : Inv B gl G nt ops ds V HH φ0 a0 w0 φ p listed a w) (hT : TR φ0 nt (TT 0) a0)
    (hall : ∀ i, i < ds.length → listed.getD i false = true) (hk : k (TT ds.length) (HH ds.length) = some r) (hn : Post B gl G nt φ0 a0 w0 k r (Q .normal)) : Q .normal a w := by
  have hp : HH p = HH ds.length := kn.const h.ple (Nat.le_refl _) fun e he => by
    have h1 := h.phase e he
    have h2 := dEff_lt he
    rw [hall e h2] at h1
    simp at h1
    exact ⟨fun _ => h2, fun _ => h1⟩
  have hR := h.rel
  rw [hp] at hR
  refine hn _ _ φ a w hk h.good h.ext hR ⟨h.tsize, fun t v hv => ?_⟩ h.defers h.below
  by_cases hw : ∃ j, j < ds.length ∧ dDst ds j = some t
  · obtain ⟨j, hj, hd⟩ := hw
    rw [kn.tmp1 okd hd hj _ (Nat.le_refl _) hj] at hv
    cases hv
    exact h.vals j (hall j hj) t hd
  · rw [kn.tmp0 _ (Nat.le_refl _) (fun j hj e => hw ⟨j, hj, e⟩)] at hv
    obtain ⟨v', e, hr⟩ := hT.get t v hv
    refine ⟨v', ?_, hr.ext h.ext⟩
    rw [h.rest t, e]
    intro j hj hd
    have hjn : j < ds.length := by
      rw [← h.size]
      rcases Nat.lt_or_ge j listed.size with h' | h'
      · exact h'
      · simp [Array.getElem?_eq_none h'] at hj
    exact hw ⟨j, hjn, hd⟩

variable (hcall : ∀ β, CallOK B gl P G (call β)) (hst : ∀ w w', G w → Below B w w' → G w')
include hcall hst

theorem any_sim (okd : OKD ops.toList ds pr) (kn : Known call ds V HH TT W S) (hops : ∀ (i : Nat) (o : Oper), ops[i]? = some o → ∃ d : DOp, ds[i]? = some d ∧ PrepS P gl nt ops o d.o) (hT : TR φ0 nt (TT 0) a0)
    (hk : k (TT ds.length) (HH ds.length) = some r) (hn : Post B gl G nt φ0 a0 w0 k r (Q .normal)) :
    ∀ (fuel : Nat) (listed : Array Bool) (a : Act) (w : World) (φ : Phi) (p : Nat) (U : List Nat), U.length ≤ fuel → (∀ i, i < ds.length → listed.getD i false = true ∨ i ∈ U) → Inv B gl G nt ops ds V HH φ0 a0 w0 φ p listed a w →
      wpAny P .any ops Q fuel listed a w := by
  have hlen : ops.size = ds.length := by rw [← okd.len]; simp
  have allOf : ∀ {listed : Array Bool}, listed.size = ds.length → Region.ready .any ops listed = [] → ∀ i, i < ds.length → listed.getD i false = true := by
    intro listed hs h0 i
    induction i using Nat.strongRecOn with
    | _ i ih =>
      intro hi
      have ho : ops[i]? = some (ops[i]'(by omega)) := Array.getElem?_eq_getElem (by omega)
      cases hc : listed.getD i false with
      | true => rfl
      | false =>
        have : i ∈ Region.ready .any ops listed := by
          rw [mem_ready]
          refine ⟨?_, _, ho, fun e he hb => ?_⟩
          · have : i < listed.size := by omega
            simp [this] at hc ⊢
            exact hc
          · have hm : e.on ∈ dAft ops.toList i := (mem_aft ho).2 ⟨e, he, hb, rfl⟩
            have hlt := okd.back i hi _ hm
            exact ih _ hlt (by omega)
        rw [h0] at this; cases this
  intro fuel
  induction fuel with
  | zero =>
    intro listed a w φ p U hU hcov hinv
    have hU : U = [] := List.length_eq_zero_iff.1 (by omega)
    subst hU
    have hall : ∀ i, i < ds.length → listed.getD i false = true := fun i hi => (hcov i hi).resolve_right (by simp)
    refine ⟨?_, hinv.done okd kn hT hall hk hn⟩
    cases hr : Region.ready .any ops listed with
    | nil => rfl
    | cons i l =>
      have : i ∈ Region.ready .any ops listed := by rw [hr]; exact .head _
      obtain ⟨h1, o, ho, _⟩ := mem_ready.1 this
      have hi : i < ds.length := by rw [← hlen]; exact (Array.getElem?_eq_some_iff.1 ho).1
      have h2 := hall i hi
      have : i < listed.size := by rw [hinv.size]; exact hi
      simp [this] at h1 h2
      rw [h1] at h2; cases h2
  | succ fuel ih =>
    intro listed a w φ p U hU hcov hinv
    refine ⟨fun h0 => hinv.done okd kn hT (allOf hinv.size h0) hk hn, fun i hi => ?_⟩
    obtain ⟨h1, o, ho, haft⟩ := mem_ready.1 hi
    have hin : i < ds.length := by rw [← hlen]; exact (Array.getElem?_eq_some_iff.1 ho).1
    have hil : i < listed.size := by rw [hinv.size]; exact hin
    have hun : listed.getD i false = false := by simp [hil] at h1 ⊢; exact h1
    have haft : ∀ e ∈ dAft ops.toList i, listed.getD e false = true := fun e he => by
      obtain ⟨x, hx, hb, rfl⟩ := (mem_aft ho).1 he
      exact haft x hx hb
    obtain ⟨d, hd, hs⟩ := hops i o ho
    obtain ⟨g1, g2, g3, g4⟩ := dget hd
    have hstep := kn.step i d hd
    have hiU : i ∈ U := (hcov i hin).resolve_left (by rw [hun]; simp)
    have cont : ∀ (ψ : Phi) (p' : Nat) (v' : Value) (w' : World), Ext φ ψ → p' ≤ ds.length → (∀ e, dEff ds e = true → ((e = i ∨ listed.getD e false = true) ↔ e < p')) → R B gl ψ (HH p') w' → Below B w w' → VR ψ (V i) v' →
        wpAny P .any ops Q fuel (listed.setIfInBounds i true) (a.put o.dst v') w' := by
      intro ψ p' v' w' h2 h3 h4 h5 h6 h7
      have hdst : o.dst = dDst ds i := by rw [g1, hs.dst]
      rw [hdst]
      refine ih _ _ _ ψ p' (U.erase i) (by rw [List.length_erase_of_mem hiU]; omega) ?_ (hinv.next okd hin hun haft h2 h3 h4 h5 (hst _ _ hinv.good h6) h6 h7 (by rw [g1]; exact hs.ok))
      intro j hj
      rw [getD_iff hil]
      by_cases e : j = i
      · exact .inl (.inl e)
      · rcases hcov j hj with h8 | h8
        · exact .inl (.inr h8)
        · exact .inr ((List.mem_erase_of_ne e).2 h8)
    -- where the memory stands
    have hpre := predL okd hinv.down i hin haft
    have hpe : d.eff = true → ∀ e, dEff ds e = true → (e < p ↔ e < i) := fun hE e he => by
      rw [← hinv.phase e he]
      constructor
      · intro hl
        rcases Nat.lt_trichotomy e i with h2 | h2 | h2
        · exact h2
        · rw [h2, hun] at hl; cases hl
        · have h3 := okd.effs e (dEff_lt he) he i h2 (by rw [g3]; exact hE)
          have := predL okd hinv.down e (dEff_lt he) (hinv.down e hl) i h3
          rw [hun] at this; cases this
      · intro hlt
        exact hpre e (okd.effs i hin (by rw [g3]; exact hE) e hlt he)
    have hph : ∀ p', (d.eff = true → p' = i + 1) → (d.eff = false → p' = p) → ∀ e, dEff ds e = true → ((e = i ∨ listed.getD e false = true) ↔ e < p') := by
      intro p' hy hno e he
      rw [hinv.phase e he]
      cases hE : d.eff with
      | true =>
        rw [hy hE, hpe hE e he]
        omega
      | false =>
        rw [hno hE]
        constructor
        · rintro (h2 | h2)
          · rw [h2, g3, hE] at he; cases he
          · exact h2
        · exact .inr
    have hTs : ∀ t v, t ∈ d.ts → (TT i).get t = some v → ∃ v', a.tmps[t]? = some v' ∧ VR φ v v' := fun t v ht hv => hinv.tmp okd kn hT hin hun haft (by rw [g2]; exact ht) hv
    have hkind := okd.kind d (List.mem_of_getElem? hd)
    have hwant : Region.wanted o (yielded ops a.tmps) = W i := by
      rcases hs.guard with ⟨h2, h3⟩ | ⟨g, b, og, t, h2, h3, h4, h5⟩
      · rcases hstep.guard with ⟨_, h4⟩ | ⟨t, b, gv, h4, _⟩
        · rw [h4]; simp [Region.wanted, h2]
        · rw [h3] at h4; cases h4
      · rcases hstep.guard with ⟨h6, _⟩ | ⟨t', b', gv, h6, h7, h8⟩
        · rw [h5] at h6; cases h6
        · rw [h5] at h6; cases h6
          obtain ⟨v', h9, h10⟩ := hTs t gv (okd.guard d (List.mem_of_getElem? hd) t b h5) h7
          obtain ⟨h11, h12⟩ := h10.bool_of
          have hy : yielded ops a.tmps g = yv v' := by
            simp only [yielded, h3, Option.bind_some, h4, h9]
            cases v' <;> rfl
          rw [Bool.eq_iff_iff, h8]
          simp only [Region.wanted, h2, hy]
          constructor
          · intro h13
            refine h12 b ?_
            cases v' <;> simp [yv] at h13 ⊢
            exact h13
          · intro h13
            rw [h11 b h13]
            simp [yv]
    unfold wpOp
    rw [ho]
    dsimp only
    rw [hwant]
    cases hW : W i with
    | false =>
      rw [if_neg (by simp)]
      obtain ⟨h2, h3⟩ := hstep.off hW
      cases hE : d.eff with
      | true =>
        refine cont φ (i + 1) undef w (Ext.refl _) (by omega) (hph _ (fun _ => rfl) (fun e => by rw [hE] at e; cases e)) ?_ (Below.refl _ _) (by rw [h2]; exact undefV_vr)
        rw [h3, ← kn.const hinv.ple (by omega) (hpe hE)]
        exact hinv.rel
      | false =>
        exact cont φ p undef w (Ext.refl _) hinv.ple (hph _ (fun e => by rw [hE] at e; cases e) (fun _ => rfl)) hinv.rel (Below.refl _ _) (by rw [h2]; exact undefV_vr)
    | true =>
      rw [if_pos rfl]
      refine .inl ?_
      rw [hW] at hstep
      have hTS : TR φ nt (S i) a := ⟨hinv.tsize, fun t v hv => by
        obtain ⟨h2, h3⟩ := hstep.sub t v hv
        exact hTs t v h2 h3⟩
      cases hE : d.eff with
      | true =>
        have hp1 : HH p = HH i := kn.const hinv.ple (by omega) (hpe hE)
        have := op_wps (Ap := HH p) hcall hinv.good hstep hs hkind hinv.rel hTS (by rw [if_pos hE]; exact hp1)
        rw [if_pos hE] at this
        exact this _ _ fun ψ v' w' h2 h3 h4 h5 => cont ψ (i + 1) v' w' h2 (by omega) (hph _ (fun _ => rfl) (fun e => by rw [hE] at e; cases e)) h3 h5 h4
      | false =>
        have hEd : dEff ds i = false := by rw [g3]; exact hE
        obtain ⟨q, hq, hqn, hqe⟩ := okd.pos i hin hEd p hinv.ple (fun e he hm => (hinv.phase e he).1 (hpre e hm)) (fun e he hm => by
          rcases Nat.lt_or_ge e p with h2 | h2
          · have := predL okd hinv.down e (dEff_lt he) (hinv.down e ((hinv.phase e he).2 h2)) i hm
            rw [hun] at this; cases this
          · exact h2)
        have hpq : HH p = HH q := kn.const hinv.ple hqn hqe
        have := op_wps (Ap := HH p) hcall hinv.good hstep hs hkind hinv.rel hTS (by
          rw [if_neg (by rw [hE]; simp)]
          rcases hq with rfl | hq
          · exact .inl hpq
          · rw [g4] at hq
            rw [hpq]
            exact .inr (kn.same i d hd hW q hq))
        rw [if_neg (by rw [hE]; simp)] at this
        exact this _ _ fun ψ v' w' h2 h3 h4 h5 => cont ψ p v' w' h2 hinv.ple (hph _ (fun e => by rw [hE] at e; cases e) (fun _ => rfl)) h3 h5 h4

/-- **A region that draws its order.** -/
theorem draw_sim {φ : Phi} {A : AH} {T : Tr Value} {a : Act} {w : World} (hm : P.follows .mixedOrders = true) {id : Nat} {ls : List SOp} (hp : prepSOps P gl nt ops ops.toList = some ls) (hok : okD ops.toList (mkDs pr ls) pr = true)
    (hk : drawF call (mkDs pr ls) T A k = some r) (hG : G w) (hR : R B gl φ A w) (hT : TR φ nt T a) (hn : Post B gl G nt φ a w k r (Q .normal)) : (Code.region id ops true).wp P Q a w := by
  have okd := okD_spec hok
  unfold drawF at hk
  obtain ⟨V, HH, TT, W, S, hs', rs', e1, e2, e3, e4, e5, _, e7, e8⟩ := pass1_spec _ _ _ _ _ _ _ hk
  rw [List.append_nil] at e3
  split at e3
  case h_2 => cases e3
  rename_i hp2
  have kn : Known call (mkDs pr ls) V HH TT W S := ⟨e4, fun i d hd hw q hq => by
    have hne : d.ps ≠ [] := fun e => by rw [e] at hq; cases hq
    have h1 := pass2_spec hp2 _ (e7 i d hd hw hne)
    obtain ⟨A1, h2, h3⟩ := sameAt_spec h1 q hq
    have hi : i < (mkDs pr ls).length := by
      rcases Nat.lt_or_ge i (mkDs pr ls).length with h' | h'
      · exact h'
      · rw [List.getElem?_eq_none h'] at hd; cases hd
    have hql : q ≤ (mkDs pr ls).length := by
      rcases Nat.lt_or_ge (mkDs pr ls).length q with h' | h'
      · exfalso
        have hl : hs'.reverse.length = (mkDs pr ls).length + 1 := by
          rw [List.length_reverse]; exact e8
        rw [List.getElem?_eq_none (by omega)] at h2; cases h2
      · exact h'
    rw [e5 q hql] at h2
    cases h2
    exact h3⟩
  have hlen : ops.size = (mkDs pr ls).length := by rw [← okd.len]; simp
  have hT0 : TR φ nt (TT 0) a := by rw [e1]; exact hT
  have hfin : k (TT (mkDs pr ls).length) (HH (mkDs pr ls).length) = some r := e3
  refine wp_region_any hm ?_
  refine any_sim hcall hst okd kn (fun i o ho => mkDs_get hp i o ho) hT0 hfin (w0 := w) (a0 := a) hn ops.size _ a _ φ 0 (List.range ops.size) (by simp) (fun i hi => .inr (by rw [List.mem_range]; omega)) ?_
  have hf : ∀ j, (Array.replicate ops.size false).getD j false = true → False := fun j hj => by
    by_cases h : j < ops.size
    · simp [h] at hj
    · simp [h] at hj
  refine ⟨by simp [hlen], fun i hi => (hf i hi).elim, Ext.refl _, Nat.zero_le _, fun e he => ⟨fun h => (hf e h).elim, fun h => by omega⟩, ?_, hst _ _ hG (Below.refl _ _).drew, (Below.refl _ _).drew, rfl, hT.size,
    fun j hj => (hf j hj).elim, fun t _ => rfl⟩
  rw [e2]
  exact hR.drew

end
end Go.Zh
