/- Zh16: regions that draw their order: whatever order is drawn, the world's machine comes to what the abstract machine comes to. -/
import Derived.Test.YtkhaebkijoefjaaGreatDoorZh15
namespace Go.Zh
open Go.RowKit
set_option linter.unusedVariables false

variable {B : Nat} {gl : List Nat} {φ : Phi} {A A' : AH} {w w' : World} {P : Program} {β : Type} {nt : Nat} {T : Tr Value} {a : Act} {G : World → Prop}

/-! ### equal values -/
theorem obeq_eq {a b : Option Nat} (h : obeq a b = true) : a = b := by
  cases a <;> cases b <;> simp [obeq] at h ⊢
  exact h

theorem bytes_eq {s t : ByteArray} (h : bytesEq s.data.toList t.data.toList = true) : s = t := by
  rw [bytesEq_eq] at h
  have h := eq_of_beq h
  obtain ⟨⟨s⟩⟩ := s
  obtain ⟨⟨t⟩⟩ := t
  simpa using h

theorem veq1_eq {x y : Value} (h : veq1 x y = true) : x = y := by
  unfold veq1 at h
  split at h
  · simp only [beq_iff_eq] at h; rw [h]
  · rename_i k a l b
    simp only [Bool.and_eq_true] at h
    have h1 := kindEq_eq h.1
    have h2 : a = b := by have := h.2; rw [eqI_eq] at this; exact eq_of_beq this
    rw [h1, h2]
  · rw [bytes_eq h]
  · rfl
  · rename_i p q
    simp only [Bool.and_eq_true, Nat.beq_eq] at h
    obtain ⟨b, o, s⟩ := p
    obtain ⟨b', o', s'⟩ := q
    obtain ⟨⟨h1, h2⟩, h3⟩ := h
    simp at h1 h2
    have := obeq_eq h3
    simp at this
    subst h1; subst h2; subst this; rfl
  · simp only [Bool.and_eq_true, Nat.beq_eq] at h
    rw [h.1, h.2]
  · rename_i p a b q c d
    simp only [Bool.and_eq_true, Nat.beq_eq] at h
    obtain ⟨b, o, s⟩ := p
    obtain ⟨b', o', s'⟩ := q
    obtain ⟨⟨⟨⟨h1, h2⟩, h3⟩, h4⟩, h5⟩ := h
    simp at h1 h2
    have := obeq_eq h3
    simp at this
    subst h1; subst h2; subst this; subst h4; subst h5; rfl
  · rfl
  · rw [Nat.beq_iff h]
  · cases h

theorem veqs_eq : ∀ {l m : List Value}, veqs veq1 l m = true → l = m
  | [], [], _ => rfl
  | a :: l, b :: m, h => by
    simp only [veqs, Bool.and_eq_true] at h
    rw [veq1_eq h.1, veqs_eq h.2]
  | [], _ :: _, h => by cases h
  | _ :: _, [], h => by cases h

theorem veq_eq {x y : Value} (h : veq x y = true) : x = y := by
  unfold veq at h
  split at h
  · rename_i a b
    have := veqs_eq h
    obtain ⟨a⟩ := a
    obtain ⟨b⟩ := b
    simp at this
    rw [this]
  · rename_i a b
    have := veqs_eq h
    obtain ⟨a⟩ := a
    obtain ⟨b⟩ := b
    simp at this
    rw [this]
  · exact veq1_eq h

/-! ### operations that leave memory as it is -/
theorem reader_shape {ao : AOp} (h : reader ao = true) (call : CallK β) (T : Tr Value) (A : AH) (k : Value → AH → Option β) : aop call T A ao k = aop call T A ao fun v _ => k v A := by
  cases ao <;> first | rfl | cases h

theorem hasN_iff {l : List Nat} {n : Nat} : hasN l n = true ↔ n ∈ l := by
  unfold hasN
  rw [List.any_eq_true]
  constructor
  · rintro ⟨x, hx, h⟩
    have := Nat.beq_iff h
    subst this; exact hx
  · intro h; exact ⟨n, h, by simp⟩

/-! ### the run in the order of the numbers -/
theorem wantK_static {T : Tr Value} {t : Nat} {b : Bool} {yes no : Option β} {r : β} (h : wantK T (t, b) yes no = some r) :
    ∃ v, T.get t = some v ∧ ((v = .bool b ∧ yes = some r) ∨ (v ≠ .bool b ∧ no = some r)) := by
  change T.getK t (fun v => wantB b v yes no) = some r at h
  rw [Tr.getK_eq] at h
  split at h
  case h_2 => cases h
  rename_i v hv
  refine ⟨v, hv, ?_⟩
  unfold wantB at h
  split at h
  · rename_i c
    cases b <;> cases c <;> simp at h ⊢ <;> exact h
  · rename_i hne
    exact .inr ⟨fun e => hne b e, h⟩

theorem restrictF_spec (T : Tr Value) : ∀ (l : List Nat) (S : Tr Value) (k : Tr Value → Option β) (r : β), restrictF T l S k = some r →
    ∃ S', k S' = some r ∧ ∀ t v, S'.get t = some v → (t ∈ l ∧ T.get t = some v) ∨ S.get t = some v
  | [], S, k, r, h => ⟨S, h, fun t v hv => .inr hv⟩
  | x :: l, S, k, r, h => by
    change T.getK x (fun v => S.putK x v fun S => restrictF T l S k) = some r at h
    rw [Tr.getK_eq] at h
    split at h
    case h_2 => cases h
    rename_i v hv
    rw [Tr.putK_eq] at h
    obtain ⟨S', h1, h2⟩ := restrictF_spec T l _ k r h
    refine ⟨S', h1, fun t u hu => ?_⟩
    rcases h2 t u hu with ⟨h3, h4⟩ | h3
    · exact .inl ⟨.tail _ h3, h4⟩
    · rw [Tr.get_set] at h3
      split at h3
      · rename_i e
        cases h3
        subst e
        exact .inl ⟨.head _, hv⟩
      · exact .inr h3

/-- What is known of one operation of such a run. -/
structure StepD (call : PolyCall) (d : DOp) (T : Tr Value) (A : AH) (T2 : Tr Value) (A2 : AH) (v : Value) (wd : Bool) (S : Tr Value) : Prop where
  tmp : T2 = putT T d.o.dst v
  same : d.eff = false → A2 = A
  guard : (d.o.guard = none ∧ wd = true) ∨ ∃ t b g, d.o.guard = some (t, b) ∧ T.get t = some g ∧ (wd = true ↔ g = .bool b)
  off : wd = false → v = undefV ∧ A2 = A
  sub : ∀ t u, S.get t = some u → t ∈ d.ts ∧ T.get t = some u
  run : wd = true → ∃ A3, aop (call (Value × AH)) S A d.o.ao pairK = some (v, A3) ∧ (d.eff = true → A2 = A3)

theorem drun_spec {call : PolyCall} {d : DOp} {T : Tr Value} {A : AH} {k : Tr Value → AH → Tr Value → Value → Option β} {r : β} (h : drun call d T A k = some r) :
    ∃ v A2 A3 S, k (putT T d.o.dst v) A2 S v = some r ∧ (∀ t u, S.get t = some u → t ∈ d.ts ∧ T.get t = some u) ∧ aop (call (Value × AH)) S A d.o.ao pairK = some (v, A3) ∧
      (d.eff = true → A2 = A3) ∧ (d.eff = false → A2 = A) := by
  unfold drun at h
  obtain ⟨S, h, hS⟩ := restrictF_spec T _ _ _ r h
  rw [aopF_eq] at h
  cases hq : aop (call (Value × AH)) S A d.o.ao pairK with
  | none => rw [hq] at h; cases h
  | some p =>
    obtain ⟨v, A3⟩ := p
    rw [hq] at h
    change putF T d.o.dst v (fun T => k T (@Bool.rec (fun _ => AH) A A3 d.eff) S v) = some r at h
    rw [putF_eq] at h
    refine ⟨v, _, A3, S, h, fun t u hu => ?_, hq, fun e => by rw [e], fun e => by rw [e]⟩
    rcases hS t u hu with h1 | h1
    · exact h1
    · rw [b6_get] at h1; cases h1

theorem dstep_spec {call : PolyCall} {d : DOp} {T : Tr Value} {A : AH} {rs : List Rec} {k : Tr Value → AH → List Rec → Option β} {r : β} (h : dstep call d T A rs k = some r) :
    ∃ v A2 S wd rs', k (putT T d.o.dst v) A2 rs' = some r ∧ StepD call d T A (putT T d.o.dst v) A2 v wd S ∧ (∀ x ∈ rs, x ∈ rs') ∧ (wd = true → d.ps ≠ [] → (⟨d, S, v⟩ : Rec) ∈ rs') := by
  have hit : ∀ {wd : Bool}, ((d.o.guard = none ∧ wd = true) ∨ ∃ t b g, d.o.guard = some (t, b) ∧ T.get t = some g ∧ (wd = true ↔ g = .bool b)) → wd = true →
      drun call d T A (fun T A S v => k T A (consR d.ps d S v rs)) = some r →
      ∃ v A2 S wd rs', k (putT T d.o.dst v) A2 rs' = some r ∧ StepD call d T A (putT T d.o.dst v) A2 v wd S ∧ (∀ x ∈ rs, x ∈ rs') ∧ (wd = true → d.ps ≠ [] → (⟨d, S, v⟩ : Rec) ∈ rs') := by
    intro wd hg hw h
    obtain ⟨v, A2, A3, S, h1, h2, h3, h4, h5⟩ := drun_spec h
    refine ⟨v, A2, S, wd, _, h1, ⟨rfl, h5, hg, (fun e => by rw [hw] at e; cases e), h2, fun _ => ⟨A3, h3, h4⟩⟩, ?_, ?_⟩
    · intro x hx
      unfold consR
      split
      · exact hx
      · exact .tail _ hx
    · intro _ hne
      unfold consR
      split
      · rename_i e; exact absurd e hne
      · exact .head _
  unfold dstep at h
  cases hg : d.o.guard with
  | none =>
    rw [hg] at h
    exact hit (wd := true) (.inl ⟨hg, rfl⟩) rfl h
  | some g =>
    obtain ⟨t, b⟩ := g
    rw [hg] at h
    obtain ⟨gv, h1, h2⟩ := wantK_static h
    rcases h2 with ⟨h3, h4⟩ | ⟨h3, h4⟩
    · exact hit (wd := true) (.inr ⟨t, b, gv, hg, h1, by simp [h3]⟩) rfl h4
    · rw [putF_eq] at h4
      exact ⟨undefV, A, .nil, false, rs, h4, ⟨rfl, fun _ => rfl, .inr ⟨t, b, gv, hg, h1, by simp [h3]⟩, fun _ => ⟨rfl, rfl⟩, fun t u hu => by simp at hu, fun e => by cases e⟩, fun x hx => hx, fun e => by cases e⟩

/-- What is known of the whole of such a run. -/
theorem pass1_spec {call : PolyCall} : ∀ (l : List DOp) (T : Tr Value) (A : AH) (hs : List AH) (rs : List Rec) (k : Tr Value → AH → List AH → List Rec → Option β) (r : β), pass1 call l T A hs rs k = some r →
    ∃ (V : Nat → Value) (HH : Nat → AH) (TT : Nat → Tr Value) (W : Nat → Bool) (S : Nat → Tr Value) (hs' : List AH) (rs' : List Rec), TT 0 = T ∧ HH 0 = A ∧ k (TT l.length) (HH l.length) (hs' ++ hs) rs' = some r ∧
      (∀ i d, l[i]? = some d → StepD call d (TT i) (HH i) (TT (i + 1)) (HH (i + 1)) (V i) (W i) (S i)) ∧ (∀ p, p ≤ l.length → hs'.reverse[p]? = some (HH p)) ∧ (∀ x ∈ rs, x ∈ rs') ∧
      (∀ i d, l[i]? = some d → W i = true → d.ps ≠ [] → (⟨d, S i, V i⟩ : Rec) ∈ rs') ∧ hs'.length = l.length + 1 := by
  intro l
  induction l with
  | nil =>
    intro T A hs rs k r h
    refine ⟨fun _ => undefV, fun _ => A, fun _ => T, fun _ => false, fun _ => .nil, [A], rs, rfl, rfl, h, fun i d hi => by simp at hi, fun p hp => ?_, fun x hx => hx, fun i d hi => by simp at hi, rfl⟩
    have : p = 0 := by simpa using hp
    subst this; rfl
  | cons d l ih =>
    intro T A hs rs k r h
    change dstep call d T A rs (fun T A' rs => pass1 call l T A' (A :: hs) rs k) = some r at h
    obtain ⟨v, A2, S0, wd, rs1, h1, h2, h3, h4⟩ := dstep_spec h
    obtain ⟨V, HH, TT, W, S, hs', rs', e1, e2, e3, e4, e5, e6, e7, e8⟩ := ih _ _ _ _ _ _ h1
    refine ⟨fun i => match i with | 0 => v | i + 1 => V i, fun i => match i with | 0 => A | i + 1 => HH i, fun i => match i with | 0 => T | i + 1 => TT i, fun i => match i with | 0 => wd | i + 1 => W i,
      fun i => match i with | 0 => S0 | i + 1 => S i, hs' ++ [A], rs', rfl, rfl, ?_, ?_, ?_, fun x hx => e6 x (h3 x hx), ?_, by simp [e8]⟩
    · simpa using e3
    · intro i d' hi
      cases i with
      | zero =>
        simp at hi
        subst hi
        show StepD call d T A (TT 0) (HH 0) v wd S0
        rw [e1, e2]; exact h2
      | succ i => exact e4 i d' (by simpa using hi)
    · intro p hp
      rw [List.reverse_append]
      cases p with
      | zero => rfl
      | succ p => simpa using e5 p (by simpa using hp)
    · intro i d' hi hw hne
      cases i with
      | zero =>
        simp at hi
        subst hi
        exact e6 _ (h4 hw hne)
      | succ i => exact e7 i d' (by simpa using hi) hw hne

theorem sameAt_spec {call : PolyCall} {hs : List AH} {x : Rec} : ∀ {ps : List Nat}, sameAt call hs x ps = true → ∀ p ∈ ps, ∃ A, hs[p]? = some A ∧ aop (call Bool) x.S A x.d.o.ao (fun v _ => some (veq x.v v)) = some true
  | [], _, p, hp => by cases hp
  | q :: ps, h, p, hp => by
    simp only [sameAt] at h
    split at h
    case h_2 => cases h
    rename_i hq
    cases hp with
    | tail _ hp => exact sameAt_spec h p hp
    | head =>
      rw [nthK_eq] at hq
      split at hq
      case h_2 => cases hq
      rename_i A hA
      rw [aopF_eq] at hq
      exact ⟨A, hA, hq⟩

theorem pass2_spec {call : PolyCall} {hs : List AH} : ∀ {rs : List Rec}, pass2 call hs rs = true → ∀ x ∈ rs, sameAt call hs x x.d.ps = true
  | [], _, x, hx => by cases hx
  | y :: rs, h, x, hx => by
    simp only [pass2] at h
    split at h
    case h_2 => cases h
    rename_i hq
    cases hx with
    | head => exact hq
    | tail _ hx => exact pass2_spec h x hx

end Go.Zh
