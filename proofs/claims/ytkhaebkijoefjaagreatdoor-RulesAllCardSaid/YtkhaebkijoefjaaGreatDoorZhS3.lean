/- ZhS3: calls into Go's library at texts, for the abstract machine; a table of summaries. -/
import Derived.Test.YtkhaebkijoefjaaGreatDoorZhS2
namespace Go.Zh
open Go.RowKit Go.Proofs
set_option linter.unusedVariables false

/-! ### searches -/
def fi (c : Nat) : List UInt8 → Nat → Option Nat
  | [], _ => none
  | x :: l, i => match Nat.beq x.toNat c with
    | true => some i
    | false => fi c l (Nat.succ i)
def fc (c : Nat) : List UInt8 → Nat → Nat
  | [], n => n
  | x :: l, n => match Nat.beq x.toNat c with
    | true => fc c l (Nat.succ n)
    | false => fc c l n

theorem byte_beq (x c : UInt8) : Nat.beq x.toNat c.toNat = (x == c) := by
  rw [Bool.eq_iff_iff]
  simp only [Nat.beq_eq, beq_iff_eq]
  exact ⟨fun h => UInt8.toNat.inj h, fun h => by rw [h]⟩

theorem fc_eq (c : UInt8) : ∀ (l : List UInt8) (n : Nat), fc c.toNat l n = n + l.count c
  | [], n => rfl
  | x :: l, n => by
    simp only [fc, byte_beq]
    rw [List.count_cons]
    cases h : (x == c) with
    | true => simp only [fc_eq c l]; simp; omega
    | false => simp only [fc_eq c l]; simp

theorem fi_eq (c : UInt8) : ∀ (l : List UInt8) (i : Nat), (match fi c.toNat l i with | some j => i ≤ j ∧ Lib.indexByte l c = Int.ofNat (j - i) | none => Lib.indexByte l c = -1)
  | [], i => rfl
  | x :: l, i => by
    simp only [fi, byte_beq, Lib.indexByte]
    cases h : (x == c) with
    | true => simp
    | false =>
      have ih := fi_eq c l (i + 1)
      simp only [Nat.succ_eq_add_one]
      cases hf : fi c.toNat l (i + 1) with
      | none => rw [hf] at ih; simp [ih]
      | some j =>
        rw [hf] at ih
        obtain ⟨h1, h2⟩ := ih
        refine ⟨by omega, ?_⟩
        simp [h2]
        omega

noncomputable def bStr : PolyCall := fun β f args A k =>
  match Nat.beq f 154 with
  | true => match args with
    | [.string s, .string ⟨⟨[c]⟩⟩] => natK (fc c.toNat s.data.toList 0) fun i => k (.int .i64 (.ofNat i)) A
    | _ => none
  | false => match Nat.beq f 168 with
    | true => match args with
      | [.string s, .int .u8 (.ofNat c)] => match Nat.ble 256 c with
        | true => none
        | false => match fi c s.data.toList 0 with
          | some i => natK i fun i => k (.int .i64 (.ofNat i)) A
          | none => k (.int .i64 (.negSucc 0)) A
      | _ => none
    | false => none

theorem bStr_ok {B : Nat} {gl : List Nat} {G : World → Prop} (β : Type) : CallOK B gl Tryz.prog G (bStr β) := by
  intro f args A k r hk φ w vargs hG hR hv
  unfold bStr at hk
  split at hk
  · rename_i hf
    have hf := Nat.beq_iff hf
    subst hf
    split at hk
    case h_2 => cases hk
    rename_i s c
    rw [natK_eq] at hk
    have hva : vargs = [.string s, .string ⟨⟨[c]⟩⟩] := plainVs_eq (by rfl) hv
    subst hva
    refine ⟨⟨_, Tryz.func154, by kernel_rfl, rfl⟩, (Tryz.zCount s c w).mono ?_⟩
    rintro e w' ⟨rfl, rfl⟩
    refine ⟨_, A, _, φ, hk, rfl, Ext.refl _, hR, ?_, Below.refl _ _⟩
    rw [fc_eq, Nat.zero_add]
    exact .int _ _
  · split at hk
    case h_2 => cases hk
    rename_i hf
    have hf := Nat.beq_iff hf
    subst hf
    split at hk
    case h_2 => cases hk
    rename_i s c
    split at hk
    · cases hk
    · rename_i hc
      have hc : c < 256 := by
        rcases Nat.lt_or_ge c 256 with h | h
        · exact h
        · rw [Nat.ble_eq_true_of_le h] at hc; cases hc
      have hva : vargs = [.string s, .int .u8 (.ofNat c)] := plainVs_eq (by rfl) hv
      subst hva
      refine ⟨⟨_, Tryz.func168, by kernel_rfl, rfl⟩, (Tryz.zIndexByte s (.ofNat c) w).mono ?_⟩
      rintro e w' ⟨rfl, rfl⟩
      have h1 := fi_eq c.toUInt8 s.data.toList 0
      have h2 : (c.toUInt8).toNat = c := by simp; omega
      have h3 : (Int.ofNat c).toNat.toUInt8 = c.toUInt8 := rfl
      rw [h3]
      rw [h2] at h1
      split at hk
      · rename_i i hi
        rw [hi] at h1
        rw [natK_eq] at hk
        refine ⟨_, A, _, φ, hk, rfl, Ext.refl _, hR, ?_, Below.refl _ _⟩
        rw [h1.2]
        exact .int _ _
      · rename_i hi
        rw [hi] at h1
        refine ⟨_, A, _, φ, hk, rfl, Ext.refl _, hR, ?_, Below.refl _ _⟩
        rw [h1]
        exact .int _ _

/-! ### a table of summaries -/
def SumOK (B0 : Nat) (gl : List Nat) (Ag : AH) (P : Program) (S : Sum) : Prop :=
  ∀ B, B0 ≤ B → ∀ (β : Type) (A : AH) (k : Value → AH → Option β) (r : β) (φ : Phi) (w : World) (vargs : List Value), S.lay A k = some r → Glob B0 gl Ag w → R B gl φ A w → VRs φ S.args vargs →
    Enters P S.f ∧ Calls P S.f vargs.toArray w fun e w' => ∃ v A' v' ψ, k v A' = some r ∧ e = .returned v' ∧ Ext φ ψ ∧ R B gl ψ A' w' ∧ VR ψ v v' ∧ Below B w w'

noncomputable def findS (l : List Sum) : List Value → Option Sum :=
  @List.rec Sum (fun _ => List Value → Option Sum) (fun _ => none) (fun S _ ih args => match veqs veq S.args args with
    | true => some S
    | false => ih args) l

theorem veqs_veq : ∀ {l m : List Value}, veqs veq l m = true → l = m
  | [], [], _ => rfl
  | a :: l, b :: m, h => by
    simp only [veqs, Bool.and_eq_true] at h
    rw [veq_eq h.1, veqs_veq h.2]
  | [], _ :: _, h => by cases h
  | _ :: _, [], h => by cases h

theorem findS_spec : ∀ {l : List Sum} {args : List Value} {S : Sum}, findS l args = some S → S ∈ l ∧ S.args = args
  | [], args, S, h => by cases h
  | T :: l, args, S, h => by
    change (match veqs veq T.args args with | true => some T | false => findS l args) = some S at h
    split at h
    · rename_i hq
      cases h
      exact ⟨.head _, veqs_veq hq⟩
    · obtain ⟨h1, h2⟩ := findS_spec h
      exact ⟨.tail _ h1, h2⟩

noncomputable def sumCall (tab : Tr (List Sum)) (rest : PolyCall) : PolyCall := fun β f args A k =>
  match tab.get f with
  | some l => match findS l args with
    | some S => S.lay A k
    | none => rest β f args A k
  | none => rest β f args A k

theorem sumCall_ok {B0 : Nat} {gl : List Nat} {Ag : AH} {P : Program} {tab : Tr (List Sum)} (htab : ∀ (f : Nat) (l : List Sum), tab.get f = some l → ∀ S ∈ l, S.f = f ∧ SumOK B0 gl Ag P S) {rest : PolyCall}
    (hrest : ∀ B, B0 ≤ B → ∀ β, CallOK B gl P (Glob B0 gl Ag) (rest β)) : ∀ B, B0 ≤ B → ∀ β, CallOK B gl P (Glob B0 gl Ag) (sumCall tab rest β) := by
  intro B hB β f args A k r hk φ w vargs hG hR hv
  unfold sumCall at hk
  split at hk
  · rename_i l hl
    split at hk
    · rename_i S hS
      obtain ⟨h1, h2⟩ := findS_spec hS
      obtain ⟨h3, h4⟩ := htab f l hl S h1
      subst h2
      subst h3
      exact h4 B hB β A k r φ w vargs hk hG hR hv
    · exact hrest B hB β f args A k r hk φ w vargs hG hR hv
  · exact hrest B hB β f args A k r hk φ w vargs hG hR hv

theorem sumOK_of {B0 : Nat} {gl : List Nat} {Ag : AH} {P : Program} (hn : noOwn Ag) {inner : PolyCall} (hin : ∀ B', B0 ≤ B' → ∀ β, CallOK B' gl P (Glob B0 gl Ag) (inner β)) {S : Sum} (K : List Nat) (hpl : S.args.all plainV = true)
    (hrun : inner Bool S.f S.args Ag (fun v A1 => match S.check K v A1 with | true => some true | false => none) = some true) : SumOK B0 gl Ag P S :=
  fun B hB β A k r φ w vargs hk hG hR hv => sum_ok hB hn hin hpl hrun hk hG hR hv

end Go.Zh
