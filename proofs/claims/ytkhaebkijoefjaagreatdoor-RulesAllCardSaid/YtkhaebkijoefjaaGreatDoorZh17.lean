/- Zh17: regions that draw their order: any order. -/
import Derived.Test.YtkhaebkijoefjaaGreatDoorZh16
namespace Go.Zh
open Go.RowKit
set_option linter.unusedVariables false

variable {B : Nat} {gl : List Nat} {φ : Phi} {A A' : AH} {w w' : World} {P : Program} {β : Type} {nt : Nat} {T : Tr Value} {a : Act} {G : World → Prop}

/-- What the check of such a region shows. -/
structure OKD (ops : List Oper) (ds : List DOp) (pr : List (List Nat)) : Prop where
  len : ops.length = ds.length
  kind : ∀ d ∈ ds, d.eff = true ∨ reader d.o.ao = true
  guard : ∀ d ∈ ds, ∀ t b, d.o.guard = some (t, b) → t ∈ d.ts
  back : ∀ i, i < ds.length → ∀ e ∈ dAft ops i, e < i
  pre : ∀ i, i < ds.length → ∀ j ∈ dPr pr i, ∃ e ∈ dAft ops i, e = j ∨ j ∈ dPr pr e
  two : ∀ i j, i < ds.length → j < ds.length → j ≠ i → ∀ t, dDst ds j = some t → (t ∈ dTs ds i → j ∈ dPr pr i ∨ i ∈ dPr pr j) ∧ dDst ds i ≠ some t
  effs : ∀ i, i < ds.length → dEff ds i = true → ∀ e, e < i → dEff ds e = true → e ∈ dPr pr i
  pos : ∀ i, i < ds.length → dEff ds i = false → ∀ p, p ≤ ds.length → (∀ e, dEff ds e = true → e ∈ dPr pr i → e < p) → (∀ e, dEff ds e = true → i ∈ dPr pr e → p ≤ e) →
    ∃ q, (q = i ∨ q ∈ dPs ds i) ∧ q ≤ ds.length ∧ ∀ e, dEff ds e = true → (e < p ↔ e < q)

theorem dEff_lt {ds : List DOp} {e : Nat} (h : dEff ds e = true) : e < ds.length := by
  rcases Nat.lt_or_ge e ds.length with h' | h'
  · exact h'
  · simp [dEff, List.getElem?_eq_none h'] at h

theorem okD_spec {ops : List Oper} {ds : List DOp} {pr : List (List Nat)} (h : okD ops ds pr = true) : OKD ops ds pr := by
  unfold okD at h
  simp only [Bool.and_eq_true, List.all_eq_true] at h
  obtain ⟨⟨hlen, hkind⟩, hone⟩ := h
  have hlen := Nat.beq_iff hlen
  have hes : ∀ e, e ∈ (List.range ds.length).filter (dEff ds) ↔ dEff ds e = true := by
    intro e
    rw [List.mem_filter, List.mem_range]
    exact ⟨fun h => h.2, fun h => ⟨dEff_lt h, h⟩⟩
  have one : ∀ i, i < ds.length → okOne ops ds pr ds.length ((List.range ds.length).filter (dEff ds)) i = true := fun i hi => hone i (List.mem_range.2 hi)
  refine ⟨hlen, fun d hd => by have := (hkind d hd).1; simpa using this, ?_, ?_, ?_, ?_, ?_, ?_⟩
  · intro d hd t b hg
    have := (hkind d hd).2
    rw [hg] at this
    exact hasN_iff.1 this
  all_goals intro i
  · intro hi
    have h1 := one i hi
    unfold okOne at h1
    simp only [Bool.and_eq_true] at h1
    obtain ⟨⟨⟨⟨c1, c2⟩, c3⟩, c4⟩, c5⟩ := h1
    intro e he
    rw [List.all_eq_true] at c1
    simpa using c1 e he
  · intro hi
    have h1 := one i hi
    unfold okOne at h1
    simp only [Bool.and_eq_true] at h1
    obtain ⟨⟨⟨⟨c1, c2⟩, c3⟩, c4⟩, c5⟩ := h1
    intro j hj
    rw [List.all_eq_true] at c2
    have := c2 j hj
    rw [List.any_eq_true] at this
    obtain ⟨e, he, h2⟩ := this
    refine ⟨e, he, ?_⟩
    rw [Bool.or_eq_true, hasN_iff] at h2
    exact h2.imp (fun h => Nat.beq_iff h) id
  · intro j hi hj
    have h1 := one i hi
    unfold okOne at h1
    simp only [Bool.and_eq_true] at h1
    obtain ⟨⟨⟨⟨c1, c2⟩, c3⟩, c4⟩, c5⟩ := h1
    intro hne t ht
    rw [List.all_eq_true] at c3
    have := c3 j (List.mem_range.2 hj)
    rw [Bool.or_eq_true] at this
    rcases this with h2 | h2
    · exact absurd (Nat.beq_iff h2) hne
    · unfold okTwo at h2
      rw [ht] at h2
      simp only [Bool.and_eq_true, Bool.or_eq_true, Bool.not_eq_true', hasN_iff] at h2
      refine ⟨fun hm => ?_, fun e => ?_⟩
      · rcases h2.1 with (h3 | h3) | h3
        · have := hasN_iff.2 hm
          rw [h3] at this; cases this
        · exact .inl h3
        · exact .inr h3
      · have h4 := h2.2
        rw [e] at h4
        simp at h4
  · intro hi
    have h1 := one i hi
    unfold okOne at h1
    simp only [Bool.and_eq_true] at h1
    obtain ⟨⟨⟨⟨c1, c2⟩, c3⟩, c4⟩, c5⟩ := h1
    intro hE e hlt he
    rw [hE, Bool.not_true, Bool.false_or, List.all_eq_true] at c4
    have := c4 e ((hes e).2 he)
    rw [Bool.or_eq_true, hasN_iff] at this
    rcases this with h2 | h2
    · rw [show Nat.blt e i = true from by simpa using hlt] at h2; cases h2
    · exact h2
  · intro hi
    have h1 := one i hi
    unfold okOne at h1
    simp only [Bool.and_eq_true] at h1
    obtain ⟨⟨⟨⟨c1, c2⟩, c3⟩, c4⟩, c5⟩ := h1
    intro hE p hp hlo hhi
    rw [hE, Bool.false_or] at c5
    unfold okPos at c5
    rw [List.all_eq_true] at c5
    have := c5 p (List.mem_range.2 (by omega))
    simp only [Bool.or_eq_true, Bool.not_eq_true'] at this
    rcases this with (h2 | h2) | h2
    · have : (List.all ((List.range ds.length).filter (dEff ds)) fun e => !hasN (dPr pr i) e || Nat.blt e p) = true := by
        rw [List.all_eq_true]
        intro e he
        cases hc : hasN (dPr pr i) e with
        | false => rfl
        | true => simpa using hlo e ((hes e).1 he) (hasN_iff.1 hc)
      rw [this] at h2; cases h2
    · have : (List.all ((List.range ds.length).filter (dEff ds)) fun e => !hasN (dPr pr e) i || Nat.ble p e) = true := by
        rw [List.all_eq_true]
        intro e he
        cases hc : hasN (dPr pr e) i with
        | false => rfl
        | true => simpa using hhi e ((hes e).1 he) (hasN_iff.1 hc)
      rw [this] at h2; cases h2
    · rw [List.any_eq_true] at h2
      obtain ⟨q, hq, h3⟩ := h2
      rw [Bool.and_eq_true, List.all_eq_true] at h3
      refine ⟨q, by simpa using hq, Nat.ble_iff h3.1, fun e he => ?_⟩
      have := h3.2 e ((hes e).2 he)
      rw [beq_iff_eq, Bool.eq_iff_iff] at this
      simpa using this

/-! ### the program's operations and the compiled ones -/
theorem mkGo_get (es : List Nat) (pr : List (List Nat)) (n : Nat) : ∀ (l : List SOp) (i j : Nat), (mkGo es pr n i l)[j]? = (l[j]?).map (mkD es pr n (i + j))
  | [], i, j => by simp [mkGo]
  | s :: l, i, 0 => by simp [mkGo]
  | s :: l, i, j + 1 => by
    simp only [mkGo, List.getElem?_cons_succ]
    rw [mkGo_get es pr n l (i + 1) j]
    rw [show i + 1 + j = i + (j + 1) from by omega]

theorem prepSOps_get {ops : Array Oper} : ∀ {l : List Oper} {ls : List SOp}, prepSOps P gl nt ops l = some ls → ∀ (i : Nat) (o : Oper), l[i]? = some o → ∃ s, ls[i]? = some s ∧ PrepS P gl nt ops o s
  | [], ls, h, i, o, ho => by simp at ho
  | x :: l, ls, h, i, o, ho => by
    simp only [prepSOps] at h
    split at h
    case h_2 => cases h
    rename_i s hs
    split at h
    case h_2 => cases h
    rename_i r hr
    cases h
    cases i with
    | zero => simp at ho; subst ho; exact ⟨s, rfl, prepSOp_spec hs⟩
    | succ i => exact prepSOps_get hr i o (by simpa using ho)

theorem mkDs_get {ops : Array Oper} {pr : List (List Nat)} {ls : List SOp} (h : prepSOps P gl nt ops ops.toList = some ls) (i : Nat) (o : Oper) (ho : ops[i]? = some o) :
    ∃ d, (mkDs pr ls)[i]? = some d ∧ PrepS P gl nt ops o d.o := by
  obtain ⟨s, h1, h2⟩ := prepSOps_get h i o (by simpa using ho)
  refine ⟨mkD (effs 0 ls) pr ls.length (0 + i) s, ?_, h2⟩
  unfold mkDs
  rw [mkGo_get, h1]; rfl

/-! ### one operation at one place -/
/-- What one operation comes to, whatever came up ahead of it. -/
theorem op_wps {call : PolyCall} (hcall : ∀ β, CallOK B gl P G (call β)) (hG : G w) {o : Oper} {d : DOp} {T T2 : Tr Value} {A A2 Ap : AH} {v : Value} {S : Tr Value} (hd : StepD call d T A T2 A2 v true S)
    {ops : Array Oper} (hs : PrepS P gl nt ops o d.o) (hk : d.eff = true ∨ reader d.o.ao = true) (hR : R B gl φ Ap w) (hT : TR φ nt S a)
    (hp : if d.eff then Ap = A else (Ap = A ∨ aop (call Bool) S Ap d.o.ao (fun u _ => some (veq v u)) = some true)) : Wps B gl P φ w a o (if d.eff then A2 else Ap) v := by
  obtain ⟨A3, hrun, hA3⟩ := hd.run rfl
  have hop : prepOp P gl o.op = some d.o.ao := by
    rcases hs.op with h | h
    · rw [h] at hrun; cases hrun
    · exact h
  cases he : d.eff with
  | true =>
    rw [if_pos he] at hp
    subst hp
    rw [if_pos rfl]
    intro next Q hn
    refine sim (hcall _) hG hR hT hop hrun next Q fun u A' ψ v' w' h1 h2 h3 h4 h5 => ?_
    have h1 : some (u, A') = some (v, A3) := h1
    cases h1
    have := hA3 he
    subst this
    exact hn ψ v' w' h2 h3 h4 h5
  | false =>
    rw [if_neg (by rw [he]; simp)] at hp
    rw [if_neg (by simp)]
    have hrd : reader d.o.ao = true := by rcases hk with h | h; · rw [he] at h; cases h
                                          · exact h
    rcases hp with hp | hp
    · subst hp
      intro next Q hn
      have hrun2 : aop (call (Value × AH)) S Ap d.o.ao (fun u A' => open Classical in if A' = Ap then some (u, Ap) else none) = some (v, A3) := by
        rw [reader_shape hrd] at hrun ⊢
        simpa [pairK] using hrun
      refine sim (hcall _) hG hR hT hop hrun2 next Q fun u A' ψ v' w' h1 h2 h3 h4 h5 => ?_
      split at h1
      · rename_i e
        cases h1
        subst e
        exact hn ψ v' w' h2 h3 h4 h5
      · cases h1
    · intro next Q hn
      have hrun2 : aop (call Bool) S Ap d.o.ao (fun u A' => open Classical in if A' = Ap then some (veq v u) else none) = some true := by
        rw [reader_shape hrd] at hp ⊢
        simpa using hp
      refine sim (hcall _) hG hR hT hop hrun2 next Q fun u A' ψ v' w' h1 h2 h3 h4 h5 => ?_
      split at h1
      · rename_i e
        subst e
        have : v = u := veq_eq (by simpa using h1)
        subst this
        exact hn ψ v' w' h2 h3 h4 h5
      · cases h1

end Go.Zh
