/- Zh1: the base of an own abstract machine over the loaded program's code: tries, abstract heaps, and how they stand for a world. -/
import Derived.Calls
import Derived.LoopN
import Derived.Orders
import Derived.Below
import Derived.Laws.Append
import Derived.KernelRfl
namespace Go.Zh
open Go.RowKit

/-! ### tries -/
inductive Tr (α : Type) where
  | nil
  | nd (l : Tr α) (v : Option α) (r : Tr α)

namespace Tr
variable {α β : Type}
def get : Tr α → Nat → Option α
  | .nil, _ => none
  | .nd l v r, n => match n with
    | 0 => v
    | m + 1 => bif Nat.beq (m % 2) 0 then l.get (m / 2) else r.get (m / 2)

def setF : Nat → Tr α → Nat → α → Tr α
  | 0, t, _, _ => t
  | f + 1, .nil, n, v => match n with
    | 0 => .nd .nil (some v) .nil
    | m + 1 => bif Nat.beq (m % 2) 0 then .nd (setF f .nil (m / 2) v) none .nil else .nd .nil none (setF f .nil (m / 2) v)
  | f + 1, .nd l x r, n, v => match n with
    | 0 => .nd l (some v) r
    | m + 1 => bif Nat.beq (m % 2) 0 then .nd (setF f l (m / 2) v) x r else .nd l x (setF f r (m / 2) v)

/-- The same, handed on: what is handed on is written out. -/
def setK : Nat → Tr α → Nat → α → (Tr α → β) → β
  | 0, t, _, _, k => k t
  | f + 1, .nil, n, v, k => match n with
    | 0 => k (.nd .nil (some v) .nil)
    | m + 1 => bif Nat.beq (m % 2) 0 then setK f .nil (m / 2) v fun l => k (.nd l none .nil) else setK f .nil (m / 2) v fun r => k (.nd .nil none r)
  | f + 1, .nd l x r, n, v, k => match n with
    | 0 => k (.nd l (some v) r)
    | m + 1 => bif Nat.beq (m % 2) 0 then setK f l (m / 2) v fun l => k (.nd l x r) else setK f r (m / 2) v fun r => k (.nd l x r)

def set (t : Tr α) (n : Nat) (v : α) : Tr α := setF (n + 1) t n v

theorem setK_eq : ∀ (f : Nat) (t : Tr α) (n : Nat) (v : α) (k : Tr α → β), setK f t n v k = k (setF f t n v)
  | 0, t, n, v, k => by cases t <;> rfl
  | f + 1, .nil, 0, v, k => rfl
  | f + 1, .nil, m + 1, v, k => by
    simp only [setK, setF]
    cases Nat.beq (m % 2) 0 <;> simp [setK_eq f]
  | f + 1, .nd l x r, 0, v, k => rfl
  | f + 1, .nd l x r, m + 1, v, k => by
    simp only [setK, setF]
    cases Nat.beq (m % 2) 0 <;> simp [setK_eq f]

@[simp] theorem get_nil (n : Nat) : (Tr.nil : Tr α).get n = none := by cases n <;> rfl

theorem half_inj {a b : Nat} (h : a / 2 = b / 2) (hm : Nat.beq (a % 2) 0 = Nat.beq (b % 2) 0) : a = b := by
  have ha : a % 2 < 2 := Nat.mod_lt _ (by omega)
  have hb : b % 2 < 2 := Nat.mod_lt _ (by omega)
  have : a % 2 = b % 2 := by
    rcases (by omega : a % 2 = 0 ∨ a % 2 = 1) with h1 | h1 <;> rcases (by omega : b % 2 = 0 ∨ b % 2 = 1) with h2 | h2 <;> simp [h1, h2] at hm ⊢
  omega

theorem get_setF : ∀ (f : Nat) (t : Tr α) (n : Nat) (v : α) (i : Nat), n < f → (setF f t n v).get i = if i = n then some v else t.get i := by
  intro f
  induction f with
  | zero => intro t n v i h; omega
  | succ f ih =>
    intro t n v i h
    cases n with
    | zero =>
      cases t with
      | nil => cases i <;> simp [setF, get]
      | nd l x r => cases i <;> simp [setF, get]
    | succ m =>
      have hm : m / 2 < f := by omega
      cases t with
      | nil =>
        simp only [setF]
        cases hb : Nat.beq (m % 2) 0 <;> simp only [cond_true, cond_false]
        all_goals
          cases i with
          | zero => simp [get]
          | succ j =>
            simp only [get]
            cases hj : Nat.beq (j % 2) 0 <;> simp only [cond_true, cond_false]
            all_goals first
              | (rw [ih _ _ _ _ hm]
                 by_cases e : j / 2 = m / 2
                 · have : j = m := half_inj e (by rw [hj, hb]); simp [this]
                 · have : ¬ j = m := fun h => e (by rw [h]); simp [e, this])
              | (have : ¬ j = m := fun h => by rw [h, hb] at hj; cases hj
                 simp [this])
      | nd l x r =>
        simp only [setF]
        cases hb : Nat.beq (m % 2) 0 <;> simp only [cond_true, cond_false]
        all_goals
          cases i with
          | zero => simp [get]
          | succ j =>
            simp only [get]
            cases hj : Nat.beq (j % 2) 0 <;> simp only [cond_true, cond_false]
            all_goals first
              | (rw [ih _ _ _ _ hm]
                 by_cases e : j / 2 = m / 2
                 · have : j = m := half_inj e (by rw [hj, hb]); simp [this]
                 · have : ¬ j = m := fun h => e (by rw [h]); simp [e, this])
              | (have : ¬ j = m := fun h => by rw [h, hb] at hj; cases hj
                 simp [this])

theorem get_set (t : Tr α) (n : Nat) (v : α) (i : Nat) : (t.set n v).get i = if i = n then some v else t.get i := get_setF _ _ _ _ _ (by omega)
theorem setK_set (t : Tr α) (n : Nat) (v : α) (k : Tr α → β) : setK (n + 1) t n v k = k (t.set n v) := setK_eq _ _ _ _ _
end Tr

section
variable {β : Type}
noncomputable def Tr.getK {α : Type} (t : Tr α) : Nat → (α → Option β) → Option β :=
  @Tr.rec α (fun _ => Nat → (α → Option β) → Option β) (fun _ _ => none)
    (fun _ v _ l r n k => @Nat.rec (fun _ => Option β) (@Option.rec α (fun _ => Option β) none k v)
      (fun m _ => @Bool.rec (fun _ => Option β) (r (Nat.div m 2) k) (l (Nat.div m 2) k) (Nat.beq (Nat.mod m 2) 0)) n) t

theorem Tr.getK_eq {α : Type} (t : Tr α) : ∀ (n : Nat) (k : α → Option β), t.getK n k = (match t.get n with | some v => k v | none => none) := by
  induction t with
  | nil => intro n k; cases n <;> rfl
  | nd l v r ihl ihr =>
    intro n k
    cases n with
    | zero => cases v <;> rfl
    | succ m =>
      show @Bool.rec (fun _ => Option β) (r.getK (Nat.div m 2) k) (l.getK (Nat.div m 2) k) (Nat.beq (Nat.mod m 2) 0) = _
      rw [ihl, ihr]
      simp only [Tr.get]
      show _ = (match bif Nat.beq (Nat.mod m 2) 0 then l.get (Nat.div m 2) else r.get (Nat.div m 2) with | some v => k v | none => none)
      cases Nat.beq (Nat.mod m 2) 0 <;> rfl

theorem Tr.setF_fuel {α : Type} (v : α) : ∀ (f f' : Nat) (t : Tr α) (n : Nat), n < f → n < f' → Tr.setF f t n v = Tr.setF f' t n v := by
  intro f
  induction f with
  | zero => intro f' t n h; omega
  | succ f ih =>
    intro f' t n h h'
    cases f' with
    | zero => omega
    | succ f' =>
      cases n with
      | zero => cases t <;> rfl
      | succ m =>
        have h1 : m / 2 < f := by omega
        have h2 : m / 2 < f' := by omega
        cases t <;> simp only [Tr.setF, ih f' _ _ h1 h2]

noncomputable def Tr.newK {α : Type} (f : Nat) : Nat → α → (Tr α → β) → β :=
  @Nat.rec (fun _ => Nat → α → (Tr α → β) → β) (fun _ _ k => k .nil)
    (fun _ ih n v k => @Nat.rec (fun _ => β) (k (.nd .nil (some v) .nil))
      (fun m _ => @Bool.rec (fun _ => β) (ih (Nat.div m 2) v fun r => k (.nd .nil none r)) (ih (Nat.div m 2) v fun l => k (.nd l none .nil)) (Nat.beq (Nat.mod m 2) 0)) n) f

theorem Tr.newK_eqF {α : Type} (v : α) : ∀ (f n : Nat) (k : Tr α → β), Tr.newK f n v k = k (Tr.setF f .nil n v) := by
  intro f
  induction f with
  | zero => intro n k; rfl
  | succ f ih =>
    intro n k
    cases n with
    | zero => rfl
    | succ m =>
      show @Bool.rec (fun _ => β) (Tr.newK f (Nat.div m 2) v fun r => k (.nd .nil none r)) (Tr.newK f (Nat.div m 2) v fun l => k (.nd l none .nil)) (Nat.beq (Nat.mod m 2) 0) = _
      rw [ih, ih]
      show @Bool.rec (fun _ => β) _ _ (Nat.beq (Nat.mod m 2) 0) = k (bif Nat.beq (Nat.mod m 2) 0 then _ else _)
      cases Nat.beq (Nat.mod m 2) 0 <;> rfl

theorem Tr.newK_eq {α : Type} (n : Nat) (v : α) (k : Tr α → β) : Tr.newK (Nat.succ n) n v k = k (Tr.set .nil n v) := Tr.newK_eqF v _ n k

noncomputable def Tr.putK {α : Type} (t : Tr α) : Nat → α → (Tr α → β) → β :=
  @Tr.rec α (fun _ => Nat → α → (Tr α → β) → β) (fun n v k => Tr.newK (Nat.succ n) n v k)
    (fun l x r ihl ihr n v k => @Nat.rec (fun _ => β) (k (.nd l (some v) r))
      (fun m _ => @Bool.rec (fun _ => β) (ihr (Nat.div m 2) v fun r => k (.nd l x r)) (ihl (Nat.div m 2) v fun l => k (.nd l x r)) (Nat.beq (Nat.mod m 2) 0)) n) t

theorem Tr.putK_eq {α : Type} (t : Tr α) : ∀ (n : Nat) (v : α) (k : Tr α → β), t.putK n v k = k (t.set n v) := by
  induction t with
  | nil => intro n v k; exact Tr.newK_eq n v k
  | nd l x r ihl ihr =>
    intro n v k
    cases n with
    | zero => rfl
    | succ m =>
      show @Bool.rec (fun _ => β) (r.putK (Nat.div m 2) v fun r => k (.nd l x r)) (l.putK (Nat.div m 2) v fun l => k (.nd l x r)) (Nat.beq (Nat.mod m 2) 0) = _
      rw [ihl, ihr]
      simp only [Tr.set, Tr.setF]
      have e : ∀ t : Tr α, Tr.setF (m + 1) t (m / 2) v = Tr.setF (m / 2 + 1) t (m / 2) v := fun t => Tr.setF_fuel v _ _ _ _ (by omega) (by omega)
      rw [e, e]
      show @Bool.rec (fun _ => β) _ _ (Nat.beq (Nat.mod m 2) 0) = k (bif Nat.beq (Nat.mod m 2) 0 then _ else _)
      cases Nat.beq (Nat.mod m 2) 0 <;> rfl

noncomputable def nthK {α : Type} (l : List α) : Nat → (α → Option β) → Option β :=
  @List.rec α (fun _ => Nat → (α → Option β) → Option β) (fun _ _ => none) (fun x _ ih n k => @Nat.rec (fun _ => Option β) (k x) (fun m _ => ih m k) n) l
theorem nthK_eq {α : Type} (l : List α) : ∀ (n : Nat) (k : α → Option β), nthK l n k = (match l[n]? with | some v => k v | none => none) := by
  induction l with
  | nil => intro n k; rfl
  | cons x l ih =>
    intro n k
    cases n with
    | zero => rfl
    | succ m => show nthK l m k = _; rw [ih]; simp

end

/-! ### abstract heaps -/
/-- A row of cells: 'e' cells an element; 'g': none: its capacity is known, it is never grown; some G: it may have been grown G times, and slices of elder times may lead to elder blocks; those from time m on still read the first p cells as they are; 'own': the run may write it. -/
structure Blk where
  c : List Value
  e : Nat
  g : Option Nat
  m : Nat
  p : Nat
  own : Bool

inductive AObj where
  | cells (b : Blk)
  | map (es : List (Value × Value))
  | iter (s : ByteArray) (pos : Nat)

def AObj.own : AObj → Bool
  | .cells b => b.own
  | _ => true

structure AH where
  t : Tr AObj
  next : Nat

/-- How many cells may be read through an address of this time. -/
def Blk.lim (k : Blk) (s : Option Nat) : Option Nat :=
  match s, k.g with
  | none, none => some k.c.length
  | some γ, some G => bif Nat.beq γ G then some k.c.length else bif Nat.ble k.m γ && Nat.ble γ G then some k.p else none
  | _, _ => none

/-! ### how an abstract heap stands for a world -/
structure PB where
  r : Nat
  n : Nat
  e : Nat

abbrev Phi := Nat → Option Nat → Option PB

/-- What a slice's abstract capacity says of the true one: behind an address with a time: 2 * L: at least L; 2 * k + 1: just k. -/
def capOK (s : Option Nat) (cap cap' : Nat) : Prop :=
  match s with
  | none => cap' = cap
  | some _ => if cap % 2 = 0 then cap / 2 ≤ cap' else cap / 2 = cap'

inductive VR (φ : Phi) : Value → Value → Prop where
  | bool (b : Bool) : VR φ (.bool b) (.bool b)
  | int (k : IntKind) (n : Int) : VR φ (.int k n) (.int k n)
  | float (k : FloatKind) (n : Nat) : VR φ (.float k n) (.float k n)
  | string (s : ByteArray) : VR φ (.string s) (.string s)
  | ptrNil : VR φ (.pointer none) (.pointer none)
  | ptr {b o : Nat} {s : Option Nat} {pb : PB} (h : φ b s = some pb) : VR φ (.pointer (some ⟨b, o, s⟩)) (.pointer (some ⟨pb.r, o, none⟩))
  | sliceNil : VR φ (.slice none 0 0) (.slice none 0 0)
  | slice {b o : Nat} {s : Option Nat} {pb : PB} {o' len cap cap' : Nat} (h : φ b s = some pb) (ho : o' = o ∨ (s ≠ none ∧ len = 0 ∧ cap' = 0))
      (hc : capOK s cap cap') (hl : s ≠ none → len ≤ cap' ∧ o' + cap' * pb.e ≤ pb.n) :
      VR φ (.slice (some ⟨b, o, s⟩) len cap) (.slice (some ⟨pb.r, o', none⟩) len cap')
  | mapNil : VR φ (.map none) (.map none)
  | map {b : Nat} {pb : PB} (h : φ b none = some pb) : VR φ (.map (some b)) (.map (some pb.r))
  | func {fn : Fn} {f f' c c' : Array Value} (hf : f.toList.length = f'.toList.length) (hf' : ∀ (i : Nat) (v v' : Value), f.toList[i]? = some v → f'.toList[i]? = some v' → VR φ v v')
      (hc : c.toList.length = c'.toList.length) (hc' : ∀ (i : Nat) (v v' : Value), c.toList[i]? = some v → c'.toList[i]? = some v' → VR φ v v') : VR φ (.func fn f c) (.func fn f' c')
  | nilFunc : VR φ .nilFunc .nilFunc
  | nilIface : VR φ .nilIface .nilIface
  | iface {t : TypeId} {v v' : Value} (h : VR φ v v') : VR φ (.iface t v) (.iface t v')
  | agg {c c' : Array Value} (hc : c.toList.length = c'.toList.length) (hc' : ∀ (i : Nat) (v v' : Value), c.toList[i]? = some v → c'.toList[i]? = some v' → VR φ v v') : VR φ (.agg c) (.agg c')
  | tuple {c c' : Array Value} (hc : c.toList.length = c'.toList.length) (hc' : ∀ (i : Nat) (v v' : Value), c.toList[i]? = some v → c'.toList[i]? = some v' → VR φ v v') : VR φ (.tuple c) (.tuple c')

def VRs (φ : Phi) (l l' : List Value) : Prop := l.length = l'.length ∧ ∀ (i : Nat) (v v' : Value), l[i]? = some v → l'[i]? = some v' → VR φ v v'

def Ext (φ ψ : Phi) : Prop := ∀ b s pb, φ b s = some pb → ψ b s = some pb
theorem Ext.refl (φ : Phi) : Ext φ φ := fun _ _ _ h => h
theorem Ext.trans {φ ψ χ : Phi} (h : Ext φ ψ) (k : Ext ψ χ) : Ext φ χ := fun _ _ _ e => k _ _ _ (h _ _ _ e)

theorem VR.ext {φ ψ : Phi} (h : Ext φ ψ) {v v' : Value} (r : VR φ v v') : VR ψ v v' := by
  induction r with
  | bool b => exact .bool b
  | int k n => exact .int k n
  | float k n => exact .float k n
  | string s => exact .string s
  | ptrNil => exact .ptrNil
  | ptr hb => exact .ptr (h _ _ _ hb)
  | sliceNil => exact .sliceNil
  | slice hb ho hc hl => exact .slice (h _ _ _ hb) ho hc hl
  | mapNil => exact .mapNil
  | map hb => exact .map (h _ _ _ hb)
  | func hf _ hc _ ih1 ih2 => exact .func hf ih1 hc ih2
  | nilFunc => exact .nilFunc
  | nilIface => exact .nilIface
  | iface _ ih => exact .iface ih
  | agg hc _ ih => exact .agg hc ih
  | tuple hc _ ih => exact .tuple hc ih

theorem VRs.ext {φ ψ : Phi} (h : Ext φ ψ) {l l' : List Value} (r : VRs φ l l') : VRs ψ l l' := ⟨r.1, fun i v v' a b => (r.2 i v v' a b).ext h⟩
theorem VRs.nil (φ : Phi) : VRs φ [] [] := ⟨rfl, fun i v v' h => by simp at h⟩
theorem VRs.cons {φ : Phi} {v v' : Value} {l l' : List Value} (h : VR φ v v') (r : VRs φ l l') : VRs φ (v :: l) (v' :: l') :=
  ⟨by simp [r.1], fun i a b ha hb => by
    cases i with
    | zero => simp at ha hb; subst ha; subst hb; exact h
    | succ i => simp at ha hb; exact r.2 i a b ha hb⟩
theorem VRs.get {φ : Phi} {l l' : List Value} (r : VRs φ l l') {i : Nat} {v : Value} (h : l[i]? = some v) : ∃ v', l'[i]? = some v' ∧ VR φ v v' := by
  have hi : i < l.length := by
    rcases Nat.lt_or_ge i l.length with h' | h'
    · exact h'
    · rw [List.getElem?_eq_none h'] at h; cases h
  have hi' : i < l'.length := r.1 ▸ hi
  exact ⟨l'[i], List.getElem?_eq_getElem hi', r.2 i _ _ h (List.getElem?_eq_getElem hi')⟩
theorem VRs.get' {φ : Phi} {l l' : List Value} (r : VRs φ l l') {i : Nat} {v' : Value} (h : l'[i]? = some v') : ∃ v, l[i]? = some v ∧ VR φ v v' := by
  have hi : i < l'.length := by
    rcases Nat.lt_or_ge i l'.length with h' | h'
    · exact h'
    · rw [List.getElem?_eq_none h'] at h; cases h
  have hi' : i < l.length := r.1 ▸ hi
  exact ⟨l[i], List.getElem?_eq_getElem hi', r.2 i _ _ (List.getElem?_eq_getElem hi') h⟩
theorem VRs.append {φ : Phi} {a a' b b' : List Value} (h : VRs φ a a') (k : VRs φ b b') : VRs φ (a ++ b) (a' ++ b') := by
  refine ⟨by simp [h.1, k.1], fun i v v' hv hv' => ?_⟩
  by_cases hi : i < a.length
  · rw [List.getElem?_append_left hi] at hv
    rw [List.getElem?_append_left (h.1 ▸ hi)] at hv'
    exact h.2 i v v' hv hv'
  · rw [List.getElem?_append_right (by omega)] at hv
    rw [List.getElem?_append_right (by have := h.1; omega)] at hv'
    rw [← h.1] at hv'
    exact k.2 _ v v' hv hv'
theorem VRs.take {φ : Phi} {a a' : List Value} (h : VRs φ a a') (n : Nat) : VRs φ (a.take n) (a'.take n) := by
  refine ⟨by simp [h.1], fun i v v' hv hv' => ?_⟩
  rw [List.getElem?_take] at hv hv'
  split at hv
  · rw [if_pos (by assumption)] at hv'; exact h.2 i v v' hv hv'
  · cases hv
theorem VRs.drop {φ : Phi} {a a' : List Value} (h : VRs φ a a') (n : Nat) : VRs φ (a.drop n) (a'.drop n) := by
  refine ⟨by simp [h.1], fun i v v' hv hv' => ?_⟩
  rw [List.getElem?_drop] at hv hv'
  exact h.2 _ v v' hv hv'
theorem VRs.set {φ : Phi} {a a' : List Value} (h : VRs φ a a') {v v' : Value} (hv : VR φ v v') (n : Nat) : VRs φ (a.set n v) (a'.set n v') := by
  refine ⟨by simp [h.1], fun i u u' hu hu' => ?_⟩
  rw [List.getElem?_set] at hu hu'
  rw [← h.1] at hu'
  by_cases e : n = i
  · subst e
    simp only [if_true] at hu hu'
    split at hu
    · rename_i hl; rw [if_pos hl] at hu'; cases hu; cases hu'; exact hv
    · cases hu
  · rw [if_neg e] at hu hu'; exact h.2 i u u' hu hu'

/-- An object of an abstract heap, in a world. -/
def OR (φ : Phi) (w : World) (b : Nat) : AObj → Prop
  | .cells k => match k.g with
    | none => ∃ pb c' T fz, φ b none = some pb ∧ w.heap[pb.r]? = some (.cells c' T fz) ∧ VRs φ k.c c'.toList ∧ pb.n = c'.size ∧ pb.e = k.e ∧ (k.own = true → fz = (0, 0))
    | some G => k.m ≤ G ∧ k.p ≤ k.c.length ∧ ∀ γ, k.m ≤ γ → γ ≤ G → ∃ pb c' T, φ b (some γ) = some pb ∧ w.heap[pb.r]? = some (.cells c' T (0, 0)) ∧ pb.n = c'.size ∧ pb.e = k.e ∧
        (∀ (i : Nat) (v : Value), (if γ = G then i < k.c.length else i < k.p) → k.c[i]? = some v → ∃ v', c'[i]? = some v' ∧ VR φ v v')
  | .map es => ∃ pb en cl, φ b none = some pb ∧ w.heap[pb.r]? = some (.map en cl) ∧ VRs φ (es.map (·.1)) (en.toList.map (·.key)) ∧ VRs φ (es.map (·.2)) (en.toList.map (·.val))
  | .iter s pos => ∃ pb, φ b none = some pb ∧ w.heap[pb.r]? = some (.stringIter s pos)

structure R (B : Nat) (gl : List Nat) (φ : Phi) (A : AH) (w : World) : Prop where
  obj : ∀ b o, A.t.get b = some o → OR φ w b o
  inj : ∀ b s pb b' s' pb', φ b s = some pb → φ b' s' = some pb' → pb.r = pb'.r → b = b'
  dom : ∀ b s pb, φ b s = some pb → b < A.next ∧ pb.r < w.heap.size
  own : ∀ b o s pb, A.t.get b = some o → o.own = true → φ b s = some pb → B ≤ pb.r
  base : B ≤ w.heap.size
  glob : ∀ g, g ∈ gl → ∃ pb, φ g none = some pb ∧ pb.r = g
  fresh : ∀ b o, A.t.get b = some o → b < A.next
  elem : ∀ (b : Nat) (q : Blk) (s : Option Nat) (pb : PB), A.t.get b = some (.cells q) → φ b s = some pb → pb.e = q.e
  gens : ∀ (b : Nat) (q : Blk) (G γ : Nat), A.t.get b = some (.cells q) → q.g = some G → G < γ → φ b (some γ) = none

end Go.Zh
