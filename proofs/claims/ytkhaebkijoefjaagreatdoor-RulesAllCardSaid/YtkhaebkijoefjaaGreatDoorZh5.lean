/- Zh5: the operations of the abstract machine, one by one, and that the world's follow. -/
import Derived.Test.YtkhaebkijoefjaaGreatDoorZh4
import Derived.Lib.Strings
import Derived.Laws.StructEq
namespace Go.Zh
open Go.RowKit
set_option linter.unusedVariables false

variable {B : Nat} {gl : List Nat} {φ : Phi} {A : AH} {w w' : World} {P : Program} {β : Type}

/-! ### operands -/
inductive Opd where
  | t (n : Nat)
  | c (v : Value)

def opd (T : Tr Value) : Opd → Option Value
  | .t n => T.get n
  | .c v => some v

def opds (T : Tr Value) : List Opd → Option (List Value)
  | [] => some []
  | x :: l => match opd T x with
    | some v => match opds T l with
      | some vs => some (v :: vs)
      | none => none
    | none => none

def plainConst : Value → Bool
  | .bool _ | .int _ _ | .float _ _ | .string _ | .pointer none | .slice none 0 0 | .map none | .nilFunc | .nilIface => true
  | .func _ first captured => first.toList.isEmpty && captured.toList.isEmpty
  | _ => false
def constOK : Value → Bool
  | .agg cs => cs.toList.all plainConst
  | .tuple cs => cs.toList.all plainConst
  | v => plainConst v

theorem plainConst_vr {v : Value} (h : plainConst v = true) : VR φ v v := by
  unfold plainConst at h
  split at h
  all_goals first
    | (simp only [Bool.and_eq_true, List.isEmpty_iff] at h
       exact .func rfl (fun i v v' hv => by rw [h.1] at hv; simp at hv) rfl (fun i v v' hv => by rw [h.2] at hv; simp at hv))
    | constructor
    | cases h

theorem plainConsts_vrs {l : List Value} (h : l.all plainConst = true) : VRs φ l l :=
  ⟨rfl, fun i v v' hv hv' => by
    rw [hv] at hv'; cases hv'
    exact plainConst_vr (List.all_eq_true.1 h _ (List.mem_iff_getElem?.2 ⟨i, hv⟩))⟩

theorem constOK_vr {v : Value} (h : constOK v = true) : VR φ v v := by
  unfold constOK at h
  split at h
  · have := plainConsts_vrs (φ := φ) h; exact .agg this.1 this.2
  · have := plainConsts_vrs (φ := φ) h; exact .tuple this.1 this.2
  · exact plainConst_vr h

def prepOpd (gl : List Nat) : Operand → Option Opd
  | .tmp t => some (.t t)
  | .const v => bif constOK v then some (.c v) else none
  | .global g => bif gl.contains g then some (.c (.pointer (some ⟨g, 0, none⟩))) else none
  | .func f => some (.c (.func (.func f) #[] #[]))

/-- The temporaries. -/
structure TR (φ : Phi) (nt : Nat) (T : Tr Value) (a : Act) : Prop where
  size : a.tmps.size = nt
  get : ∀ (n : Nat) (v : Value), T.get n = some v → ∃ v', a.tmps[n]? = some v' ∧ VR φ v v'

variable {nt : Nat} {T : Tr Value} {a : Act}

theorem TR.ext {ψ : Phi} (h : TR φ nt T a) (hx : Ext φ ψ) : TR ψ nt T a := ⟨h.size, fun n v hv => let ⟨v', e, r⟩ := h.get n v hv; ⟨v', e, r.ext hx⟩⟩

theorem TR.put (h : TR φ nt T a) {d : Nat} (hd : d < nt) {v v' : Value} (hv : VR φ v v') : TR φ nt (T.set d v) (a.put (some d) v') := by
  refine ⟨by simp [Act.put, h.size], fun n u hu => ?_⟩
  rw [Tr.get_set] at hu
  simp only [Act.put]
  split at hu
  · rename_i e
    cases hu
    subst e
    exact ⟨v', by rw [Array.getElem?_setIfInBounds, if_pos rfl, if_pos (by rw [h.size]; exact hd)], hv⟩
  · rename_i e
    obtain ⟨u', h1, h2⟩ := h.get n u hu
    exact ⟨u', by rw [Array.getElem?_setIfInBounds, if_neg (fun e' => e e'.symm)]; exact h1, h2⟩

theorem TR.opd (h : TR φ nt T a) (hR : R B gl φ A w) {x : Operand} {y : Opd} (hp : prepOpd gl x = some y) {v : Value} (hv : Zh.opd T y = some v) : VR φ v (a.eval x) := by
  cases x with
  | tmp t =>
    cases hp
    obtain ⟨v', e, r⟩ := h.get t v hv
    have : a.eval (.tmp t) = v' := by simp [Act.eval, e]
    rw [this]; exact r
  | const c =>
    simp only [prepOpd] at hp
    cases hc : constOK c with
    | false => rw [hc] at hp; cases hp
    | true => rw [hc] at hp; cases hp; cases hv; exact constOK_vr hc
  | global g =>
    simp only [prepOpd] at hp
    cases hc : gl.contains g with
    | false => rw [hc] at hp; cases hp
    | true =>
      rw [hc] at hp; cases hp; cases hv
      obtain ⟨pb, h1, h2⟩ := hR.glob g (by simpa using hc)
      have := VR.ptr (o := 0) h1
      rw [h2] at this
      exact this
  | func f =>
    cases hp; cases hv
    exact plainConst_vr rfl

def prepOpds (gl : List Nat) : List Operand → Option (List Opd)
  | [] => some []
  | x :: l => match prepOpd gl x with
    | some y => match prepOpds gl l with
      | some ys => some (y :: ys)
      | none => none
    | none => none

theorem TR.opds (h : TR φ nt T a) (hR : R B gl φ A w) : ∀ {xs : List Operand} {ys : List Opd}, prepOpds gl xs = some ys → ∀ {vs : List Value}, Zh.opds T ys = some vs → VRs φ vs (xs.map a.eval)
  | [], ys, hp, vs, hv => by cases hp; cases hv; exact VRs.nil _
  | x :: xs, ys, hp, vs, hv => by
    simp only [prepOpds] at hp
    split at hp
    case h_2 => cases hp
    rename_i y hy
    split at hp
    case h_2 => cases hp
    rename_i ys' hys
    cases hp
    simp only [Zh.opds] at hv
    split at hv
    case h_2 => cases hv
    rename_i v hv1
    split at hv
    case h_2 => cases hv
    rename_i vs' hvs
    cases hv
    exact VRs.cons (h.opd hR hy hv1) (TR.opds h hR hys hvs)

/-! ### numbers, texts, truth -/
def i64 (n : Int) : Value := .int .i64 n

def aint (op : BinOp) (k : IntKind) (x y : Int) (g : Value → Option β) : Option β :=
  match op with
  | .add => intK (k.wrap (x + y)) fun n => g (.int k n)
  | .sub => intK (k.wrap (x - y)) fun n => g (.int k n)
  | .mul => intK (k.wrap (x * y)) fun n => g (.int k n)
  | .quo => match decide (y = 0) with
    | true => none
    | false => intK (k.wrap (x.tdiv y)) fun n => g (.int k n)
  | .rem => match decide (y = 0) with
    | true => none
    | false => intK (x.tmod y) fun n => g (.int k n)
  | .and => intK (k.wrap (BitVec.ofInt k.bits x &&& BitVec.ofInt k.bits y).toNat) fun n => g (.int k n)
  | .or => intK (k.wrap (BitVec.ofInt k.bits x ||| BitVec.ofInt k.bits y).toNat) fun n => g (.int k n)
  | .xor => intK (k.wrap (BitVec.ofInt k.bits x ^^^ BitVec.ofInt k.bits y).toNat) fun n => g (.int k n)
  | .andNot => intK (k.wrap (BitVec.ofInt k.bits x &&& ~~~(BitVec.ofInt k.bits y)).toNat) fun n => g (.int k n)
  | .eql => g (.bool (x == y))
  | .neq => g (.bool (x != y))
  | .lss => g (.bool (x < y))
  | .leq => g (.bool (x ≤ y))
  | .gtr => g (.bool (x > y))
  | .geq => g (.bool (x ≥ y))
  | _ => none

def ashift (op : BinOp) (k : IntKind) (x y : Int) (g : Value → Option β) : Option β :=
  match decide (y < 0) with
  | true => none
  | false => match op with
    | .shl => intK (k.wrap (x * 2 ^ (min y.toNat k.bits))) fun n => g (.int k n)
    | .shr => intK (x.fdiv (2 ^ (min y.toNat k.bits))) fun n => g (.int k n)
    | _ => none

def kindEq : IntKind → IntKind → Bool
  | .i8, .i8 | .i16, .i16 | .i32, .i32 | .i64, .i64 | .u8, .u8 | .u16, .u16 | .u32, .u32 | .u64, .u64 => true
  | _, _ => false
theorem kindEq_eq {a b : IntKind} (h : kindEq a b = true) : a = b := by cases a <;> cases b <;> first | rfl | cases h

def bytesEq : List UInt8 → List UInt8 → Bool
  | [], [] => true
  | a :: x, b :: y => bif Nat.beq a.toNat b.toNat then bytesEq x y else false
  | _, _ => false
theorem bytesEq_eq : ∀ (x y : List UInt8), bytesEq x y = (x == y)
  | [], [] => rfl
  | [], _ :: _ => rfl
  | _ :: _, [] => rfl
  | a :: x, b :: y => by
    simp only [bytesEq, bytesEq_eq x y]
    by_cases h : a = b
    · subst h; simp
    · have h1 : ¬ a.toNat = b.toNat := fun e => h (UInt8.toNat.inj e)
      have : Nat.beq a.toNat b.toNat = false := by
        cases e : Nat.beq a.toNat b.toNat with
        | false => rfl
        | true => exact absurd (Nat.eq_of_beq_eq_true e) h1
      rw [this]
      simp [h]

def strK (l : List UInt8) (g : Value → Option β) : Option β := listK l fun l => g (.string ⟨⟨l⟩⟩)

def astr (op : BinOp) (x y : ByteArray) (g : Value → Option β) : Option β :=
  match op with
  | .add => bif Nat.ble (x.data.toList.length + y.data.toList.length) 9223372036854775807 then appK x.data.toList y.data.toList fun l => g (.string ⟨⟨l⟩⟩) else none
  | .eql => g (.bool (bytesEq x.data.toList y.data.toList))
  | .neq => g (.bool !(bytesEq x.data.toList y.data.toList))
  | _ => none

def abool (op : BinOp) (x y : Bool) (g : Value → Option β) : Option β :=
  match op with
  | .eql => g (.bool (x == y))
  | .neq => g (.bool (!(x == y)))
  | _ => none

def isNilSlice : Value → Option Bool
  | .slice none _ _ => some true
  | .slice (some _) _ _ => some false
  | _ => none

/-- Two operands, one of them the literal nil of a slice. -/
def anil (op : BinOp) (x : Value) (g : Value → Option β) : Option β :=
  match op, isNilSlice x with
  | .eql, some b => g (.bool b)
  | .neq, some b => g (.bool !b)
  | _, _ => none

def abin (op : BinOp) (x y : Value) (g : Value → Option β) : Option β :=
  match x, y with
  | .int k a, .int k' b => match op with
    | .shl | .shr => ashift op k a b g
    | _ => bif kindEq k k' then aint op k a b g else none
  | .string a, .string b => astr op a b g
  | .bool a, .bool b => abool op a b g
  | _, _ => none

/-- What the world's two-place operation comes to. -/
def Bin (P : Program) (op : BinOp) (t : TypeId) (xo yo : Operand) (x y v : Value) : Prop :=
  ∀ w, ((do eqGuard op t xo yo x y; binOp op t x y : Sem Value)).run P w = .ok v w

theorem eqGuard_plain {op : BinOp} {t : TypeId} {xo yo : Operand} {x y : Value} (hx : ∀ c, x ≠ .agg c) (hn : x ≠ .nilIface) : (eqGuard op t xo yo x y).run P w = .ok () w := by
  unfold eqGuard
  cases op <;> simp only [Bool.not_true, Bool.not_false, if_true, if_false, Bool.false_eq_true, Sem.run_pure]
  all_goals
    cases x <;> first
      | exact absurd rfl hn
      | exact absurd rfl (hx _)
      | rfl

theorem abin_int {op : BinOp} {k : IntKind} {x y : Int} {t : TypeId} {xo yo : Operand} {g : Value → Option β} {r : β} (hop : op ≠ .shl ∧ op ≠ .shr) (h : aint op k x y g = some r) :
    ∃ v, g v = some r ∧ Bin P op t xo yo (.int k x) (.int k y) v ∧ ∀ φ, VR φ v v := by
  have hg := fun w => eqGuard_plain (P := P) (w := w) (op := op) (t := t) (xo := xo) (yo := yo) (x := .int k x) (y := .int k y) (by simp) (by simp)
  unfold aint at h
  split at h
  all_goals first
    | (rw [intK_eq] at h
       refine ⟨_, h, fun w => ?_, fun φ => .int _ _⟩
       simp [hg, binOp, Op.intArith, Op.intBits])
    | (refine ⟨_, h, fun w => ?_, fun φ => .bool _⟩
       simp [hg, binOp, Op.intCmp])
    | (split at h
       · cases h
       · rename_i hy
         have hy : ¬ y = 0 := by simpa using hy
         rw [intK_eq] at h
         refine ⟨_, h, fun w => ?_, fun φ => .int _ _⟩
         simp [hg, binOp, Op.intDiv, hy])
    | cases h

theorem abin_shift {op : BinOp} {k k' : IntKind} {x y : Int} {t : TypeId} {xo yo : Operand} {g : Value → Option β} {r : β} (hop : op = .shl ∨ op = .shr) (h : ashift op k x y g = some r) :
    ∃ v, g v = some r ∧ Bin P op t xo yo (.int k x) (.int k' y) v ∧ ∀ φ, VR φ v v := by
  have hg := fun w => eqGuard_plain (P := P) (w := w) (op := op) (t := t) (xo := xo) (yo := yo) (x := .int k x) (y := .int k' y) (by simp) (by simp)
  unfold ashift at h
  split at h
  · cases h
  · rename_i hy
    have hy : ¬ y < 0 := by simpa using hy
    rcases hop with rfl | rfl
    · simp only [intK_eq] at h
      refine ⟨_, h, fun w => ?_, fun φ => .int _ _⟩
      simp [hg, binOp, Op.shift, hy]
    · simp only [intK_eq] at h
      refine ⟨_, h, fun w => ?_, fun φ => .int _ _⟩
      simp [hg, binOp, Op.shift, hy]

theorem abin_str {op : BinOp} {x y : ByteArray} {t : TypeId} {xo yo : Operand} {g : Value → Option β} {r : β} (h : astr op x y g = some r) :
    ∃ v, g v = some r ∧ Bin P op t xo yo (.string x) (.string y) v ∧ ∀ φ, VR φ v v := by
  have hg := fun w => eqGuard_plain (P := P) (w := w) (op := op) (t := t) (xo := xo) (yo := yo) (x := .string x) (y := .string y) (by simp) (by simp)
  unfold astr at h
  split at h
  · cases hc : Nat.ble (x.data.toList.length + y.data.toList.length) 9223372036854775807 with
    | false => rw [hc] at h; cases h
    | true =>
      rw [hc, cond_true, appK_eq] at h
      have hc := Nat.ble_iff hc
      refine ⟨_, h, fun w => ?_, fun φ => .string _⟩
      have hsz : ¬ (IntKind.i64.max < ((x.size + y.size : Nat) : Int)) := by
        rw [Lib.size_eq, Lib.size_eq]
        show ¬ ((9223372036854775807 : Int) < _)
        omega
      have hcat : x ++ y = ⟨⟨x.data.toList ++ y.data.toList⟩⟩ := by
        apply ByteArray.ext
        apply Array.ext'
        simp [ByteArray.data_append]
      simp only [Sem.run_bind, hg, Result.andThen_ok, binOp, Op.stringOp, gt_iff_lt, if_neg hsz, Sem.run_pure, hcat]
  · refine ⟨_, h, fun w => ?_, fun φ => .bool _⟩
    simp [hg, binOp, Op.stringOp, bytesEq_eq, ByteArray.toList_eq]
  · refine ⟨_, h, fun w => ?_, fun φ => .bool _⟩
    simp [hg, binOp, Op.stringOp, bytesEq_eq, ByteArray.toList_eq]
  · cases h

theorem abin_bool {op : BinOp} {x y : Bool} {t : TypeId} {xo yo : Operand} {g : Value → Option β} {r : β} (ht : P.underlying t = some .bool) (h : abool op x y g = some r) :
    ∃ v, g v = some r ∧ Bin P op t xo yo (.bool x) (.bool y) v ∧ ∀ φ, VR φ v v := by
  have hg := fun w => eqGuard_plain (P := P) (w := w) (op := op) (t := t) (xo := xo) (yo := yo) (x := .bool x) (y := .bool y) (by simp) (by simp)
  have he : ∀ w, (Op.equal t (.bool x) (.bool y)).run P w = .ok (x == y) w := fun w => run_equalIn_bool w 9999 t x y ht
  unfold abool at h
  split at h
  · refine ⟨_, h, fun w => ?_, fun φ => .bool _⟩
    simp only [Sem.run_bind, hg, Result.andThen_ok, binOp, he, Sem.run_pure]
  · refine ⟨_, h, fun w => ?_, fun φ => .bool _⟩
    simp only [Sem.run_bind, hg, Result.andThen_ok, binOp, he, Sem.run_pure]
  · cases h

/-- Two-place operations on numbers, texts and Bools; 'bt': the operands' type is a Bool's. -/
theorem abin_sim {op : BinOp} {x y x' y' : Value} {t : TypeId} {xo yo : Operand} {g : Value → Option β} {r : β} (hx : VR φ x x') (hy : VR φ y y')
    (ht : (∀ b, x ≠ .bool b) ∨ P.underlying t = some .bool) (h : abin op x y g = some r) :
    ∃ v, g v = some r ∧ Bin P op t xo yo x' y' v ∧ ∀ φ, VR φ v v := by
  unfold abin at h
  split at h
  · rename_i k a k' b
    cases hx; cases hy
    split at h
    · exact abin_shift (.inl rfl) h
    · exact abin_shift (.inr rfl) h
    · rename_i h1 h2
      cases hk : kindEq k k' with
      | false => rw [hk] at h; cases h
      | true =>
        rw [hk, cond_true] at h
        have hk := kindEq_eq hk
        subst hk
        exact abin_int ⟨h1, h2⟩ h
  · cases hx; cases hy
    exact abin_str h
  · rename_i a b
    cases hx; cases hy
    rcases ht with ht | ht
    · exact absurd rfl (ht a)
    · exact abin_bool ht h
  · cases h

theorem equalIn_slice_nil (d : Nat) {t e : TypeId} (ht : P.underlying t = some (.slice e)) (a : Option Addr) (n c : Nat) (w : World) :
    (Op.equalIn (d + 1) t (.slice a n c) (.slice none 0 0)).run P w = .ok a.isNone w := by
  cases a <;> simp [Op.equalIn, run_underlying ht]

/-- A slice against nil. -/
theorem anil_sim {op : BinOp} {x x' : Value} {t e : TypeId} {xo yo : Operand} {g : Value → Option β} {r : β} (ht : P.underlying t = some (.slice e)) (hx : VR φ x x') (h : anil op x g = some r) :
    ∃ v, g v = some r ∧ Bin P op t xo yo x' (.slice none 0 0) v ∧ ∀ φ, VR φ v v := by
  unfold anil at h
  have hb : ∀ b, isNilSlice x = some b → ∀ w, (Op.equal t x' (.slice none 0 0)).run P w = .ok b w := by
    intro b hb w
    cases hx <;> simp [isNilSlice] at hb <;> subst hb <;> exact equalIn_slice_nil 9999 ht _ _ _ _
  have hg := fun (hq : isNilSlice x ≠ none) (w : World) => eqGuard_plain (P := P) (w := w) (op := op) (t := t) (xo := xo) (yo := yo) (x := x') (y := .slice none 0 0)
    (by cases hx <;> simp [isNilSlice] at hq ⊢) (by cases hx <;> simp [isNilSlice] at hq ⊢)
  have hs : ∀ b, isNilSlice x = some b → (∃ a n c, x' = .slice a n c) := by
    clear hb hg h
    intro b hb
    cases hx <;> simp [isNilSlice] at hb <;> exact ⟨_, _, _, rfl⟩
  split at h
  · rename_i b hq
    refine ⟨_, h, fun w => ?_, fun φ => .bool _⟩
    obtain ⟨a, n, c, e⟩ := hs _ hq
    have h1 := hb _ hq w
    have h2 := hg (by rw [hq]; simp) w
    rw [e] at h1 h2 ⊢
    simp only [Sem.run_bind, h2, Result.andThen_ok, binOp, h1, Sem.run_pure]
  · rename_i b hq
    refine ⟨_, h, fun w => ?_, fun φ => .bool _⟩
    obtain ⟨a, n, c, e⟩ := hs _ hq
    have h1 := hb _ hq w
    have h2 := hg (by rw [hq]; simp) w
    rw [e] at h1 h2 ⊢
    simp only [Sem.run_bind, h2, Result.andThen_ok, binOp, h1, Sem.run_pure]
  · cases h

/-! ### one-place -/
def aun (op : UnOp) (x : Value) (g : Value → Option β) : Option β :=
  match op, x with
  | .neg, .int k n => intK (k.wrap (0 - n)) fun n => g (.int k n)
  | .xor, .int k n => intK (k.wrap (BitVec.ofInt k.bits (if k.signed then -1 else k.max) ^^^ BitVec.ofInt k.bits n).toNat) fun n => g (.int k n)
  | .not, .bool b => g (.bool !b)
  | _, _ => none

theorem aun_sim {op : UnOp} {x x' : Value} {g : Value → Option β} {r : β} (hx : VR φ x x') (h : aun op x g = some r) :
    ∃ v, g v = some r ∧ (∀ w, (Op.unary op x').run P w = .ok v w) ∧ ∀ φ, VR φ v v := by
  unfold aun at h
  split at h
  · cases hx
    rw [intK_eq] at h
    exact ⟨_, h, fun w => by simp [Op.unary, Op.intArith], fun φ => .int _ _⟩
  · cases hx
    rw [intK_eq] at h
    exact ⟨_, h, fun w => by simp [Op.unary, Op.intBits], fun φ => .int _ _⟩
  · cases hx
    exact ⟨_, h, fun w => by simp [Op.unary], fun φ => .bool _⟩
  · cases h

end Go.Zh
