/- Zh15: regions in their order: what the abstract machine makes of them, the world's machine makes. -/
import Derived.Test.YtkhaebkijoefjaaGreatDoorZh14
import Derived.Tactics
namespace Go.Zh
open Go.RowKit
set_option linter.unusedVariables false

variable {B : Nat} {gl : List Nat} {φ : Phi} {A A' : AH} {w w' : World} {P : Program} {β : Type} {nt : Nat} {T : Tr Value} {a : Act} {G : World → Prop}

/-! ### temporaries -/
def dstOK (nt : Nat) (d : Option Nat) : Bool :=
  match d with
  | some d => Nat.blt d nt
  | none => true

theorem TR.putT (h : TR φ nt T a) {d : Option Nat} (hd : dstOK nt d = true) {v v' : Value} (hv : VR φ v v') : TR φ nt (Zh.putT T d v) (a.put d v') := by
  cases d with
  | none => exact h
  | some d => exact h.put (by simpa [dstOK] using hd) hv

theorem put_defers (a : Act) (d : Option Nat) (v : Value) : (a.put d v).defers = a.defers := by cases d <;> rfl

theorem b1_get (n : Nat) : b1.get n = none := by
  unfold b1; cases n with
  | zero => rfl
  | succ m => simp only [Tr.get]; cases Nat.beq (m % 2) 0 <;> simp
theorem nd_get {t : Tr Value} (h : ∀ n, t.get n = none) (n : Nat) : (Tr.nd t none t).get n = none := by
  cases n with
  | zero => rfl
  | succ m => simp only [Tr.get]; cases Nat.beq (m % 2) 0 <;> simp [h]
theorem b6_get (n : Nat) : b6.get n = none := nd_get (nd_get (nd_get (nd_get (nd_get b1_get)))) n
theorem blank_get (k n : Nat) : (blank k).get n = none := by
  have h4 : ∀ n, b4.get n = none := nd_get (nd_get (nd_get b1_get))
  unfold blank
  split
  · exact h4 n
  · split
    · exact nd_get h4 n
    · split
      · exact b6_get n
      · exact nd_get b6_get n

/-! ### guards -/
theorem VR.bool_of {v v' : Value} (h : VR φ v v') : (∀ c, v = .bool c → v' = .bool c) ∧ (∀ c, v' = .bool c → v = .bool c) := by
  cases h <;> constructor <;> intro c e <;> first | exact e | cases e

theorem wantK_spec {t : Nat} {b : Bool} {yes no : Option β} {r : β} (h : wantK T (t, b) yes no = some r) (hT : TR φ nt T a) :
    ∃ v', a.tmps[t]? = some v' ∧ ((v' = .bool b ∧ yes = some r) ∨ (v' ≠ .bool b ∧ no = some r)) := by
  change T.getK t (fun v => wantB b v yes no) = some r at h
  rw [Tr.getK_eq] at h
  split at h
  case h_2 => cases h
  rename_i v hv
  obtain ⟨v', e, hr⟩ := hT.get t v hv
  refine ⟨v', e, ?_⟩
  unfold wantB at h
  obtain ⟨h1, h2⟩ := hr.bool_of
  split at h
  · rename_i c
    have := h1 c rfl
    subst this
    cases b <;> cases c <;> simp at h ⊢ <;> exact h
  · rename_i hne
    exact .inr ⟨fun e => hne b (h2 b e), h⟩

/-- How a compiled operation stands to the program's. -/
structure PrepS (P : Program) (gl : List Nat) (nt : Nat) (ops : Array Oper) (o : Oper) (s : SOp) : Prop where
  op : s.ao = .bad ∨ prepOp P gl o.op = some s.ao
  dst : s.dst = o.dst
  ok : dstOK nt s.dst = true
  guard : (o.guard = none ∧ s.guard = none) ∨ ∃ g b og t, o.guard = some (g, b) ∧ ops[g]? = some og ∧ og.dst = some t ∧ s.guard = some (t, b)

theorem prepSOp_spec {ops : Array Oper} {o : Oper} {s : SOp} (h : prepSOp P gl nt ops o = some s) : PrepS P gl nt ops o s := by
  unfold prepSOp at h
  have key : ∀ ao, (ao = .bad ∨ prepOp P gl o.op = some ao) → (bif (match o.dst with | some d => Nat.blt d nt | none => true) then
      match o.guard with
      | none => some (⟨ao, o.dst, none⟩ : SOp)
      | some (g, b) => match ops[g]? with
        | some og => match og.dst with
          | some t => some ⟨ao, o.dst, some (t, b)⟩
          | none => none
        | none => none
      else none) = some s → PrepS P gl nt ops o s := by
    intro ao hao h
    cases hd : (match o.dst with | some d => Nat.blt d nt | none => true) with
    | false => rw [hd] at h; cases h
    | true =>
      rw [hd, cond_true] at h
      have hok : dstOK nt o.dst = true := by
        unfold dstOK
        cases ho : o.dst with
        | none => rfl
        | some d => rw [ho] at hd; exact hd
      split at h
      · rename_i hg
        cases h
        exact ⟨hao, rfl, hok, .inl ⟨hg, rfl⟩⟩
      · rename_i g b hg
        split at h
        case h_2 => cases h
        rename_i og hog
        split at h
        case h_2 => cases h
        rename_i t ht
        cases h
        exact ⟨hao, rfl, hok, .inr ⟨g, b, og, t, hg, hog, ht, rfl⟩⟩
  cases hp : prepOp P gl o.op with
  | none => rw [hp] at h; exact key _ (.inl rfl) h
  | some ao => rw [hp] at h; exact key _ (.inr hp) h

def yv : Value → Option Bool
  | .bool b => some b
  | _ => none

/-- The guard, seen from the world. -/
theorem PrepS.wanted {ops : Array Oper} {o : Oper} {s : SOp} (hs : PrepS P gl nt ops o s) (hT : TR φ nt T a) {yes no : Option β} {r : β}
    (h : @Option.rec (Nat × Bool) (fun _ => Option β) yes (fun g => wantK T g yes no) s.guard = some r) :
    (Region.wanted o (yielded ops a.tmps) = true ∧ yes = some r) ∨ (Region.wanted o (yielded ops a.tmps) = false ∧ no = some r) := by
  rcases hs.guard with ⟨h1, h2⟩ | ⟨g, b, og, t, h1, h2, h3, h4⟩
  · rw [h2] at h
    exact .inl ⟨by simp [Region.wanted, h1], h⟩
  · rw [h4] at h
    obtain ⟨v', e, hc⟩ := wantK_spec h hT
    have hy : yielded ops a.tmps g = yv v' := by
      simp only [yielded, h2, Option.bind_some, h3, e]
      cases v' <;> rfl
    rcases hc with ⟨rfl, hy1⟩ | ⟨hne, hn1⟩
    · exact .inl ⟨by simp [Region.wanted, h1, hy, yv], hy1⟩
    · refine .inr ⟨?_, hn1⟩
      simp only [Region.wanted, h1, hy]
      cases v' <;> try rfl
      rename_i c
      cases b <;> cases c <;> first | rfl | exact absurd rfl hne

/-- What may be asked once a run has come to its end there. -/
def Post (B : Nat) (gl : List Nat) (G : World → Prop) (nt : Nat) (φ : Phi) (a : Act) (w : World) (k : Tr Value → AH → Option β) (r : β) (Q : Act → World → Prop) : Prop :=
  ∀ T' A' ψ a' w', k T' A' = some r → G w' → Ext φ ψ → R B gl ψ A' w' → TR ψ nt T' a' → a'.defers = a.defers → Below B w w' → Q a' w'

variable {call : PolyCall} (hcall : ∀ β, CallOK B gl P G (call β)) (hst : ∀ w w', G w → Below B w w' → G w')
include hcall hst

/-- One operation, wanted. -/
theorem run_sim (hG : G w) (hR : R B gl φ A w) (hT : TR φ nt T a) {ops : Array Oper} {o : Oper} {s : SOp} (hs : PrepS P gl nt ops o s) {k : Tr Value → AH → Option β} {r : β}
    (hk : runF call s.ao s.dst T A k = some r) {next : Act → World → Prop} {Q : Exit → Act → World → Prop} (hn : Post B gl G nt φ a w k r next) : o.wp P a w next Q := by
  unfold runF at hk
  rw [aopF_eq] at hk
  rcases hs.op with hb | hp
  · rw [hb] at hk; cases hk
  · refine sim (hcall β) hG hR hT hp hk next Q fun v A' ψ v' w' h1 h2 h3 h4 h5 => ?_
    rw [putF_eq] at h1
    have := (hT.ext h2).putT hs.ok h4
    rw [hs.dst] at this h1
    exact hn _ _ ψ _ w' h1 (hst _ _ hG h5) h2 h3 this (put_defers _ _ _) h5

theorem ops_sim {ops : Array Oper} {Q : Exit → Act → World → Prop} {r : β} : ∀ (l : List Oper) (ls : List SOp), prepSOps P gl nt ops l = some ls →
    ∀ {T : Tr Value} {A : AH} {k : Tr Value → AH → Option β} {φ : Phi} {a : Act} {w : World}, opsF call ls T A k = some r → G w → R B gl φ A w → TR φ nt T a → Post B gl G nt φ a w k r (Q .normal) → wpList P ops Q l a w := by
  intro l
  induction l with
  | nil =>
    intro ls hp T A k φ a w hk hG hR hT hn
    cases hp
    exact wpList_nil (hn T A φ a w hk hG (Ext.refl _) hR hT rfl (Below.refl _ _))
  | cons o l ih =>
    intro ls hp T A k φ a w hk hG hR hT hn
    simp only [prepSOps] at hp
    split at hp
    case h_2 => cases hp
    rename_i s hs
    split at hp
    case h_2 => cases hp
    rename_i ls' hls
    cases hp
    have hs := prepSOp_spec hs
    change @Option.rec (Nat × Bool) (fun _ => Option β) (runF call s.ao s.dst T A fun T A => opsF call ls' T A k)
      (fun g => wantK T g (runF call s.ao s.dst T A fun T A => opsF call ls' T A k) (putF T s.dst undefV fun T => opsF call ls' T A k)) s.guard = some r at hk
    unfold wpList
    rcases hs.wanted hT hk with ⟨hw, h⟩ | ⟨hw, h⟩
    · rw [if_pos hw]
      refine .inl (run_sim hcall hst hG hR hT hs h ?_)
      intro T' A' ψ a' w' h1 h2 h3 h4 h5 h6 h7
      exact ih _ hls h1 h2 h4 h5 fun T'' A'' χ a'' w'' g1 g2 g3 g4 g5 g6 g7 => hn T'' A'' χ a'' w'' g1 g2 (h3.trans g3) g4 g5 (g6.trans h6) (h7.trans g7)
    · rw [if_neg (by rw [hw]; simp)]
      rw [putF_eq] at h
      have hT' := hT.putT hs.ok (undefV_vr (φ := φ))
      rw [hs.dst] at hT' h
      exact ih _ hls h hG hR hT' fun T'' A'' χ a'' w'' g1 g2 g3 g4 g5 g6 g7 => hn T'' A'' χ a'' w'' g1 g2 g3 g4 g5 (g6.trans (put_defers _ _ _)) g7

theorem region_sim {id : Nat} {ops : Array Oper} {Q : Exit → Act → World → Prop} {r : β} {ls : List SOp} (hp : prepSOps P gl nt ops ops.toList = some ls) {k : Tr Value → AH → Option β}
    (hk : opsF call ls T A k = some r) (hG : G w) (hR : R B gl φ A w) (hT : TR φ nt T a) (hn : Post B gl G nt φ a w k r (Q .normal)) : (Code.region id ops false).wp P Q a w :=
  wp_region_list (ops_sim hcall hst _ _ hp hk hG hR hT hn)

end Go.Zh
