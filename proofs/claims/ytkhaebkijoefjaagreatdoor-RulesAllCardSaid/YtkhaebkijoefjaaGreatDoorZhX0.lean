/- ZhX0: summaries of calls at two tables, each laid in one go, as sumP_ok serves them. -/
import Derived.Test.YtkhaebkijoefjaaGreatDoorZh23
namespace Go.Zh
open Go.RowKit
set_option linter.unusedVariables false

def seqN : Nat → Nat → List Nat
  | 0, _ => []
  | n + 1, b => b :: seqN n (b + 1)

theorem seqN_get : ∀ (m a j : Nat), (seqN m a)[j]? = if j < m then some (a + j) else none
  | 0, a, j => by simp [seqN]
  | m + 1, a, 0 => by simp [seqN]
  | m + 1, a, j + 1 => by
    simp only [seqN, List.getElem?_cons_succ]
    rw [seqN_get m (a + 1) j]
    by_cases h : j < m
    · rw [if_pos h, if_pos (by omega)]; congr 1; omega
    · rw [if_neg h, if_neg (by omega)]

theorem seqN_len : ∀ (m a : Nat), (seqN m a).length = m
  | 0, a => rfl
  | m + 1, a => by simp [seqN, seqN_len m]

theorem seqN_mem : ∀ {m a x : Nat}, x ∈ seqN m a → a ≤ x ∧ x < a + m
  | 0, a, x, h => by simp [seqN] at h
  | m + 1, a, x, h => by
    simp only [seqN, List.mem_cons] at h
    rcases h with rfl | h
    · omega
    · have := seqN_mem h; omega

theorem distinct_of : ∀ {l : List Nat}, l.Nodup → distinct l = true
  | [], _ => rfl
  | x :: l, h => by
    rw [List.nodup_cons] at h
    simp only [distinct, Bool.and_eq_true, Bool.not_eq_true']
    refine ⟨?_, distinct_of h.2⟩
    cases hh : hasN l x with
    | false => rfl
    | true => exact absurd (hasN_iff.1 hh) h.1

theorem seqN_nodup : ∀ (m a : Nat), (seqN m a).Nodup
  | 0, a => List.nodup_nil
  | m + 1, a => by
    simp only [seqN, List.nodup_cons]
    exact ⟨fun h => by have := seqN_mem h; omega, seqN_nodup m (a + 1)⟩

/-- Row j of two tables: the one begins at 'a' and has 'm' rows, the other at 'b'. -/
def two (m n a b : Nat) (x j : Nat) : Bool :=
  match Nat.ble m j with
  | false => Nat.beq x (Nat.add a j)
  | true => match Nat.ble (Nat.add m n) j with
    | true => false
    | false => Nat.beq x (Nat.add b (Nat.sub j m))

theorem two_ok {m n a b x j : Nat} (h : two m n a b x j = true) : eqA (seqN m a ++ seqN n b) x j = true := by
  unfold two at h
  have key : (seqN m a ++ seqN n b)[j]? = some x := by
    split at h
    · rename_i hm
      have hj : j < m := by
        rcases Nat.lt_or_ge j m with h' | h'
        · exact h'
        · rw [Nat.ble_eq_true_of_le h'] at hm; cases hm
      rw [List.getElem?_append_left (by rw [seqN_len]; exact hj), seqN_get, if_pos hj, Nat.beq_iff h]; rfl
    · rename_i hm
      have hm := Nat.ble_iff hm
      split at h
      · cases h
      · rename_i hn
        have hj : j < m + n := by
          rcases Nat.lt_or_ge j (m + n) with h' | h'
          · exact h'
          · have : Nat.ble (Nat.add m n) j = true := Nat.ble_eq_true_of_le h'
            rw [this] at hn; cases hn
        rw [List.getElem?_append_right (by rw [seqN_len]; exact hm), seqN_len, seqN_get, if_pos (by omega), Nat.beq_iff h]; rfl
  unfold eqA
  rw [key]
  simp

/-! the comparisons by such a rule -/
section
variable (p : Nat → Nat → Bool)
def eq1P (u t : Value) : Bool :=
  match u, t with
  | .bool a, .bool b => a == b
  | .int k a, .int l b => kindEq k l && eqI a b
  | .string a, .string b => bytesEq a.data.toList b.data.toList
  | .pointer none, .pointer none => true
  | .pointer (some ⟨b, o, s⟩), .pointer (some ⟨j, o', s'⟩) => p b j && Nat.beq o o' && obeq s s'
  | .slice none 0 0, .slice none 0 0 => true
  | .slice (some ⟨b, o, s⟩) l c, .slice (some ⟨j, o', s'⟩) l' c' => p b j && Nat.beq o o' && obeq s s' && Nat.beq l l' && Nat.beq c c'
  | _, _ => false
def eqBP (q t : Blk) : Bool := q.own && veqs (eq1P p) q.c t.c && Nat.beq q.e t.e && obeq q.g t.g && Nat.beq q.m t.m && Nat.beq q.p t.p
def eqBsP (A : AH) : Nat → List Blk → Bool
  | _, [] => true
  | k, t :: ts => match A.blk k with
    | some q => match eqBP p q t with
      | true => eqBsP A (Nat.succ k) ts
      | false => false
    | none => false
end

section
variable {p : Nat → Nat → Bool} {K : List Nat} (hp : ∀ x j, p x j = true → eqA K x j = true)
include hp

theorem eq1P_ok {u t : Value} (h : eq1P p u t = true) : eq1 K u t = true := by
  unfold eq1P at h
  split at h
  · exact h
  · exact h
  · exact h
  · rfl
  · simp only [Bool.and_eq_true] at h
    simp only [eq1, Bool.and_eq_true]
    exact ⟨⟨hp _ _ h.1.1, h.1.2⟩, h.2⟩
  · rfl
  · simp only [Bool.and_eq_true] at h
    simp only [eq1, Bool.and_eq_true]
    exact ⟨⟨⟨⟨hp _ _ h.1.1.1.1, h.1.1.1.2⟩, h.1.1.2⟩, h.1.2⟩, h.2⟩
  · cases h

theorem eq1sP_ok : ∀ {us ts : List Value}, veqs (eq1P p) us ts = true → veqs (eq1 K) us ts = true
  | [], [], _ => rfl
  | u :: us, t :: ts, h => by
    simp only [veqs, Bool.and_eq_true] at h ⊢
    exact ⟨eq1P_ok hp h.1, eq1sP_ok h.2⟩
  | [], _ :: _, h => by cases h
  | _ :: _, [], h => by cases h

theorem eqBP_ok {q t : Blk} (h : eqBP p q t = true) : eqB K q t = true := by
  unfold eqBP at h
  unfold eqB
  simp only [Bool.and_eq_true] at h ⊢
  exact ⟨⟨⟨⟨⟨h.1.1.1.1.1, eq1sP_ok hp h.1.1.1.1.2⟩, h.1.1.1.2⟩, h.1.1.2⟩, h.1.2⟩, h.2⟩

theorem eqBsP_ok {A : AH} : ∀ {ts : List Blk} {k : Nat}, eqBsP p A k ts = true → eqBs K A (seqN ts.length k) ts = true
  | [], k, _ => rfl
  | t :: ts, k, h => by
    simp only [eqBsP] at h
    split at h
    case h_2 => cases h
    rename_i q hq
    split at h
    case h_2 => cases h
    rename_i hb
    simp only [seqN, List.length_cons, eqBs, hq, Bool.and_eq_true]
    exact ⟨eqBP_ok hp hb, eqBsP_ok h⟩
end

theorem eqBs_append {K : List Nat} {A : AH} : ∀ {k1 : List Nat} {t1 : List Blk} {k2 : List Nat} {t2 : List Blk}, eqBs K A k1 t1 = true → eqBs K A k2 t2 = true → eqBs K A (k1 ++ k2) (t1 ++ t2) = true
  | [], [], _, _, _, h => h
  | k :: ks, t :: ts, _, _, h1, h2 => by
    simp only [eqBs, Bool.and_eq_true, List.cons_append] at h1 ⊢
    exact ⟨h1.1, eqBs_append h1.2 h2⟩
  | [], _ :: _, _, _, h, _ => by cases h
  | _ :: _, [], _, _, h, _ => by cases h

/-- A call at two tables. -/
structure Sum2 where
  f : Nat
  len : Nat
  p1 : List Blk
  m : Nat
  p2 : List Blk
  n : Nat
  a1 : Value
  a2 : Value
  v : Value

def Sum2.toP (S : Sum2) : SumP := ⟨S.f, [S.a1, S.a2], S.p1 ++ S.p2, S.v⟩

def Sum2.fits (S : Sum2) (a b : Nat) (u1 u2 : Value) (A : AH) : Bool :=
  (Nat.ble (Nat.add a S.m) b || Nat.ble (Nat.add b S.n) a) && eq1P (two S.m S.n a b) u1 S.a1 && eq1P (two S.m S.n a b) u2 S.a2 && eqBsP (two S.m S.n a b) A a S.p1 && eqBsP (two S.m S.n a b) A b S.p2

theorem eq1_eqV {K : List Nat} {u t : Value} (h : eq1 K u t = true) : eqV K u t = true := by
  unfold eqV
  split
  · simp [eq1] at h
  · simp [eq1] at h
  · exact h

theorem Sum2.fits_ok {S : Sum2} {a b : Nat} {u1 u2 : Value} {A : AH} (h1 : S.p1.length = S.m) (h2 : S.p2.length = S.n) (h : S.fits a b u1 u2 A = true) : S.toP.fits (seqN S.m a ++ seqN S.n b) A [u1, u2] = true := by
  unfold Sum2.fits at h
  simp only [Bool.and_eq_true] at h
  obtain ⟨⟨⟨⟨g1, g2⟩, g3⟩, g4⟩, g5⟩ := h
  have hp : ∀ x j, two S.m S.n a b x j = true → eqA (seqN S.m a ++ seqN S.n b) x j = true := fun x j h => two_ok h
  unfold SumP.fits Sum2.toP
  simp only [Bool.and_eq_true]
  refine ⟨⟨?_, ?_⟩, ?_⟩
  · simp only [veqs, Bool.and_eq_true]
    exact ⟨eq1_eqV (eq1P_ok hp g2), eq1_eqV (eq1P_ok hp g3), trivial⟩
  · have e1 := eqBsP_ok hp g4
    have e2 := eqBsP_ok hp g5
    rw [h1] at e1
    rw [h2] at e2
    exact eqBs_append e1 e2
  · refine distinct_of ?_
    rw [List.nodup_append]
    refine ⟨seqN_nodup _ _, seqN_nodup _ _, fun x hx y hy e => ?_⟩
    subst e
    have hx := seqN_mem hx
    have hy := seqN_mem hy
    rw [Bool.or_eq_true] at g1
    rcases g1 with g | g
    · have := Nat.ble_iff g
      have : a + S.m ≤ b := this
      omega
    · have := Nat.ble_iff g
      have : b + S.n ≤ a := this
      omega

/-- What is asked of such a summary. -/
def Sum2OK (B0 : Nat) (gl : List Nat) (Ag : AH) (P : Program) (S : Sum2) : Prop :=
  ∀ B, B0 ≤ B → ∀ (β : Type) (A : AH) (k : Value → AH → Option β) (r : β) (φ : Phi) (w : World) (args vargs : List Value) (K : List Nat), S.toP.fits K A args = true → k S.v A = some r → Glob B0 gl Ag w → R B gl φ A w → VRs φ args vargs →
    Enters P S.f ∧ Calls P S.f vargs.toArray w fun e w' => ∃ v A' v' ψ, k v A' = some r ∧ e = .returned v' ∧ Ext φ ψ ∧ R B gl ψ A' w' ∧ VR ψ v v' ∧ Below B w w'

theorem sum2OK_of {B0 : Nat} {gl : List Nat} {Ag : AH} {P : Program} (hn : noOwn Ag) {inner : PolyCall} (hin : ∀ B', B0 ≤ B' → ∀ β, CallOK B' gl P (Glob B0 gl Ag) (inner β)) {S : Sum2} (hpl : plainV S.v = true)
    (hrun : inner Bool S.f (S.toP.args.map (sh Ag.next)) (S.toP.heap Ag) (fun v A1 => match veq v S.v with | true => some true | false => none) = some true) : Sum2OK B0 gl Ag P S :=
  fun B hB β A k r φ w args vargs K hf hk hG hR hv => sumP_ok hB hn hin (S := S.toP) hpl hrun hf hk hG hR hv

noncomputable def sum2Call (S : Sum2) (rest : PolyCall) : PolyCall := fun β f args A k =>
  match Nat.beq f S.f with
  | true => match args with
    | [.slice (some a) l c, .slice (some b) l' c'] => match S.fits a.block b.block (.slice (some a) l c) (.slice (some b) l' c') A with
      | true => k S.v A
      | false => rest β f args A k
    | _ => rest β f args A k
  | false => rest β f args A k

theorem sum2Call_ok {B0 : Nat} {gl : List Nat} {Ag : AH} {P : Program} {S : Sum2} (hS : Sum2OK B0 gl Ag P S) (h1 : S.p1.length = S.m) (h2 : S.p2.length = S.n) {rest : PolyCall}
    (hrest : ∀ B, B0 ≤ B → ∀ β, CallOK B gl P (Glob B0 gl Ag) (rest β)) : ∀ B, B0 ≤ B → ∀ β, CallOK B gl P (Glob B0 gl Ag) (sum2Call S rest β) := by
  intro B hB β f args A k r hk φ w vargs hG hR hv
  unfold sum2Call at hk
  split at hk
  · rename_i hf
    have hf := Nat.beq_iff hf
    subst hf
    split at hk
    · split at hk
      · rename_i hfit
        exact hS B hB β A k r φ w _ vargs _ (Sum2.fits_ok h1 h2 hfit) hk hG hR hv
      · exact hrest B hB β _ _ A k r hk φ w vargs hG hR hv
    · exact hrest B hB β _ _ A k r hk φ w vargs hG hR hv
  · exact hrest B hB β f args A k r hk φ w vargs hG hR hv

end Go.Zh
