/- Zh20: summaries: a closed run on the package-level variables alone serves at every call, whatever memory holds. -/
import Derived.Test.YtkhaebkijoefjaaGreatDoorZh19
namespace Go.Zh
open Go.RowKit
set_option linter.unusedVariables false

/-! ### the package-level variables -/
section
variable (B0 : Nat) (gl : List Nat) (Ag : AH)

/-- The package-level variables hold what they held. -/
def Glob (w : World) : Prop := ∃ φ, R B0 gl φ Ag w ∧ ∀ b s pb, φ b s = some pb → pb.r < B0

variable {B0 gl Ag}
theorem Glob.keep {w w' : World} (h : Glob B0 gl Ag w) (hb : Below B0 w w') : Glob B0 gl Ag w' := by
  obtain ⟨φ, hR, hr⟩ := h
  refine ⟨φ, ⟨fun b o hb' => (hR.obj b o hb').keep (Ext.refl _) (fun s pb hp => hb.block _ (hr _ _ _ hp)), hR.inj, fun b s pb hp => ⟨(hR.dom _ _ _ hp).1, Nat.lt_of_lt_of_le (hR.dom _ _ _ hp).2 hb.size⟩, hR.own,
    Nat.le_trans hR.base hb.size, hR.glob, hR.fresh, hR.elem, hR.gens⟩, hr⟩

theorem Glob.keep' {B : Nat} (hB : B0 ≤ B) (w w' : World) (h : Glob B0 gl Ag w) (hb : Below B w w') : Glob B0 gl Ag w' := h.keep (hb.mono hB)

def noOwn (Ag : AH) : Prop := ∀ b o, Ag.t.get b = some o → o.own = false

theorem Glob.at {w : World} (h : Glob B0 gl Ag w) (hn : noOwn Ag) : ∃ φ, R w.heap.size gl φ Ag w := by
  obtain ⟨φ, hR, hr⟩ := h
  exact ⟨φ, hR.obj, hR.inj, hR.dom, (fun b o s pb hb ho => by rw [hn b o hb] at ho; cases ho), Nat.le_refl _, hR.glob, hR.fresh, hR.elem, hR.gens⟩
end

/-! ### plain arguments -/
def plainV : Value → Bool
  | .bool _ | .int _ _ | .string _ => true
  | .agg c => c.toList.all fun
    | .bool _ | .int _ _ | .string _ => true
    | _ => false
  | _ => false

theorem plainV_eq {φ : Phi} {v v' : Value} (hp : plainV v = true) (h : VR φ v v') : v' = v := by
  cases h with
  | bool b => rfl
  | int k n => rfl
  | string s => rfl
  | agg hc hc' =>
    rename_i c c'
    simp only [plainV, List.all_eq_true] at hp
    congr 1
    apply Array.ext'
    apply List.ext_getElem?
    intro i
    cases h1 : c.toList[i]? with
    | none =>
      rw [List.getElem?_eq_none]
      rw [← hc]
      rcases Nat.lt_or_ge i c.toList.length with h2 | h2
      · rw [List.getElem?_eq_getElem h2] at h1; cases h1
      · exact h2
    | some u =>
      have hi : i < c'.toList.length := by
        rw [← hc]
        rcases Nat.lt_or_ge i c.toList.length with h2 | h2
        · exact h2
        · rw [List.getElem?_eq_none h2] at h1; cases h1
      have hr := hc' i u _ h1 (List.getElem?_eq_getElem hi)
      have hu := hp u (List.mem_of_getElem? h1)
      rw [List.getElem?_eq_getElem hi]
      generalize c'.toList[i] = u' at hr
      cases hr <;> first | rfl | cases hu
  | _ => cases hp

theorem plainVs_eq {φ : Phi} {l l' : List Value} (hp : l.all plainV = true) (h : VRs φ l l') : l' = l := by
  rw [List.all_eq_true] at hp
  apply List.ext_getElem?
  intro i
  cases h1 : l[i]? with
  | none =>
    rw [List.getElem?_eq_none]
    rw [← h.1]
    rcases Nat.lt_or_ge i l.length with h2 | h2
    · rw [List.getElem?_eq_getElem h2] at h1; cases h1
    · exact h2
  | some u =>
    obtain ⟨u', e, hr⟩ := h.get h1
    rw [e, plainV_eq (hp u (List.mem_of_getElem? h1)) hr]

theorem plainV_refl {φ : Phi} {v : Value} (hp : plainV v = true) : VR φ v v := by
  cases v with
  | bool b => exact .bool b
  | int k n => exact .int k n
  | string s => exact .string s
  | agg c =>
    simp only [plainV, List.all_eq_true] at hp
    refine .agg rfl fun i u u' h1 h2 => ?_
    rw [h1] at h2
    cases h2
    have hu := hp u (List.mem_of_getElem? h1)
    cases u <;> first | exact .bool _ | exact .int _ _ | exact .string _ | cases hu
  | _ => cases hp

theorem plainVs_refl {φ : Phi} {l : List Value} (hp : l.all plainV = true) : VRs φ l l := by
  rw [List.all_eq_true] at hp
  refine ⟨rfl, fun i u u' h1 h2 => ?_⟩
  rw [h1] at h2
  cases h2
  exact plainV_refl (hp u (List.mem_of_getElem? h1))

/-! ### what a summary says -/
/-- The rows that the answer leads to, numbered from 0; 'v': the answer. -/
structure Sum where
  f : Nat
  args : List Value
  v : Value
  blks : List Blk

def sh1 (n : Nat) : Value → Value
  | .pointer (some ⟨b, o, s⟩) => .pointer (some ⟨Nat.add n b, o, s⟩)
  | .slice (some ⟨b, o, s⟩) len cap => .slice (some ⟨Nat.add n b, o, s⟩) len cap
  | v => v
def sh (n : Nat) : Value → Value
  | .agg c => .agg ⟨c.toList.map (sh1 n)⟩
  | .tuple c => .tuple ⟨c.toList.map fun | .agg c => .agg ⟨c.toList.map (sh1 n)⟩ | v => sh1 n v⟩
  | v => sh1 n v
def shB (n : Nat) (q : Blk) : Blk := ⟨q.c.map (sh1 n), q.e, q.g, q.m, q.p, true⟩

/-- One value as another, the rows of the one being numbered by the other ('K': the rows' own numbers). -/
def eqA (K : List Nat) (b j : Nat) : Bool := match K[j]? with | some b' => Nat.beq b b' | none => false
def eq1 (K : List Nat) (u t : Value) : Bool :=
  match u, t with
  | .bool a, .bool b => a == b
  | .int k a, .int l b => kindEq k l && eqI a b
  | .string a, .string b => bytesEq a.data.toList b.data.toList
  | .pointer none, .pointer none => true
  | .pointer (some ⟨b, o, s⟩), .pointer (some ⟨j, o', s'⟩) => eqA K b j && Nat.beq o o' && obeq s s'
  | .slice none 0 0, .slice none 0 0 => true
  | .slice (some ⟨b, o, s⟩) l c, .slice (some ⟨j, o', s'⟩) l' c' => eqA K b j && Nat.beq o o' && obeq s s' && Nat.beq l l' && Nat.beq c c'
  | _, _ => false
def eqG (K : List Nat) (u t : Value) : Bool :=
  match u, t with
  | .agg a, .agg b => veqs (eq1 K) a.toList b.toList
  | u, t => eq1 K u t
def eqV (K : List Nat) (u t : Value) : Bool :=
  match u, t with
  | .agg a, .agg b => veqs (eq1 K) a.toList b.toList
  | .tuple a, .tuple b => veqs (eqG K) a.toList b.toList
  | u, t => eq1 K u t
def eqB (K : List Nat) (q t : Blk) : Bool := q.own && veqs (eq1 K) q.c t.c && Nat.beq q.e t.e && obeq q.g t.g && Nat.beq q.m t.m && Nat.beq q.p t.p
def eqBs (K : List Nat) (A : AH) : List Nat → List Blk → Bool
  | [], [] => true
  | k :: ks, t :: ts => (match A.blk k with | some q => eqB K q t | none => false) && eqBs K A ks ts
  | _, _ => false
def distinct : List Nat → Bool
  | [] => true
  | k :: ks => !(hasN ks k) && distinct ks
def Sum.check (S : Sum) (K : List Nat) (v : Value) (A : AH) : Bool := eqV K v S.v && eqBs K A K S.blks && distinct K

/-! ### laying the rows -/
variable {β : Type}
noncomputable def mapK (n : Nat) (l : List Value) : (List Value → Option β) → Option β :=
  @List.rec Value (fun _ => (List Value → Option β) → Option β) (fun k => k []) (fun x _ ih k => ih fun l => k (sh1 n x :: l)) l
theorem mapK_eq (n : Nat) : ∀ (l : List Value) (k : List Value → Option β), mapK n l k = k (l.map (sh1 n))
  | [], k => rfl
  | x :: l, k => by
    show mapK n l (fun l => k (sh1 n x :: l)) = _
    rw [mapK_eq n l]; rfl
noncomputable def instK (n : Nat) (l : List Blk) : Tr AObj → Nat → (Tr AObj → Nat → Option β) → Option β :=
  @List.rec Blk (fun _ => Tr AObj → Nat → (Tr AObj → Nat → Option β) → Option β) (fun t i k => k t i)
    (fun q _ ih t i k => @Blk.rec (fun _ => Option β) (fun c e g m p _ => mapK n c fun c => t.putK i (.cells ⟨c, e, g, m, p, true⟩) fun t => natK (Nat.succ i) fun i => ih t i k) q) l
def instT (n : Nat) : List Blk → Tr AObj → Nat → Tr AObj
  | [], t, i => t
  | q :: l, t, i => instT n l (t.set i (.cells (shB n q))) (i + 1)
theorem instK_eq (n : Nat) : ∀ (l : List Blk) (t : Tr AObj) (i : Nat) (k : Tr AObj → Nat → Option β), instK n l t i k = k (instT n l t i) (i + l.length)
  | [], t, i, k => rfl
  | q :: l, t, i, k => by
    obtain ⟨c, e, g, m, p, own⟩ := q
    show mapK n c (fun c => t.putK i (.cells ⟨c, e, g, m, p, true⟩) fun t => natK (Nat.succ i) fun i => instK n l t i k) = _
    rw [mapK_eq, Tr.putK_eq, natK_eq, instK_eq n l]
    show _ = k (instT n l (t.set i (.cells (shB n ⟨c, e, g, m, p, own⟩))) (i + 1)) _
    simp only [List.length_cons, Nat.succ_eq_add_one]
    rw [show i + 1 + l.length = i + (l.length + 1) from by omega]
    rfl
theorem instT_get (n : Nat) : ∀ (l : List Blk) (t : Tr AObj) (i b : Nat), (instT n l t i).get b = if i ≤ b then (match l[b - i]? with | some q => some (.cells (shB n q)) | none => t.get b) else t.get b
  | [], t, i, b => by simp [instT]
  | q :: l, t, i, b => by
    simp only [instT]
    rw [instT_get n l]
    by_cases h1 : i + 1 ≤ b
    · rw [if_pos h1, if_pos (by omega)]
      have : b - i = (b - (i + 1)) + 1 := by omega
      rw [this, List.getElem?_cons_succ]
      cases l[b - (i + 1)]? with
      | some q => rfl
      | none =>
        dsimp only
        rw [Tr.get_set, if_neg (by omega)]
    · rw [if_neg h1, Tr.get_set]
      by_cases h2 : b = i
      · subst h2; simp
      · rw [if_neg h2, if_neg (by omega)]

noncomputable def Sum.lay (S : Sum) (A : AH) (k : Value → AH → Option β) : Option β :=
  natK A.next fun n => instK n S.blks A.t n fun t i => k (sh n S.v) ⟨t, i⟩
theorem Sum.lay_eq (S : Sum) (A : AH) (k : Value → AH → Option β) : S.lay A k = k (sh A.next S.v) ⟨instT A.next S.blks A.t A.next, A.next + S.blks.length⟩ := by
  unfold Sum.lay
  rw [natK_eq, instK_eq]

end Go.Zh
