/- Zh13: the operations once more, in a form that the kernel works out quickly (small bodies, recursors), and that they are the same. -/
import Derived.Test.YtkhaebkijoefjaaGreatDoorZh12
namespace Go.Zh
open Go.RowKit
set_option linter.unusedVariables false

variable {β : Type}

/-! ### operands -/
noncomputable def opdK (T : Tr Value) (x : Opd) (k : Value → Option β) : Option β :=
  @Opd.rec (fun _ => Option β) (fun n => T.getK n k) (fun v => k v) x

theorem opdK_eq (T : Tr Value) (x : Opd) (k : Value → Option β) : opdK T x k = opt1 (opd T x) k := by
  cases x with
  | t n => exact T.getK_eq n k
  | c v => rfl

noncomputable def opdsK (T : Tr Value) (l : List Opd) : (List Value → Option β) → Option β :=
  @List.rec Opd (fun _ => (List Value → Option β) → Option β) (fun k => k []) (fun x _ ih k => opdK T x fun v => ih fun vs => k (v :: vs)) l

theorem opdsK_eq (T : Tr Value) : ∀ (l : List Opd) (k : List Value → Option β), opdsK T l k = opt1 (opds T l) k
  | [], k => rfl
  | x :: l, k => by
    show opdK T x (fun v => opdsK T l fun vs => k (v :: vs)) = _
    rw [opdK_eq]
    simp only [opds]
    cases opd T x with
    | none => rfl
    | some v =>
      show opdsK T l _ = _
      rw [opdsK_eq T l]
      cases opds T l <;> rfl

/-! ### looking into values -/
def asBoolK (v : Value) (k : Bool → Option β) : Option β := match v with | .bool b => k b | _ => none
def asPtrK (v : Value) (k : Nat → Nat → Option Nat → Option β) : Option β := match v with | .pointer (some ⟨b, o, s⟩) => k b o s | _ => none
def asSliceK (v : Value) (k : Nat → Nat → Option Nat → Nat → Option β) : Option β := match v with | .slice (some ⟨b, o, s⟩) len _ => k b o s len | _ => none
def asNatK (v : Value) (k : Nat → Option β) : Option β := match v with | .int _ (.ofNat n) => k n | _ => none
def asStrK (v : Value) (k : ByteArray → Option β) : Option β := match v with | .string s => k s | _ => none
def asTupK (v : Value) (k : Array Value → Option β) : Option β := match v with | .tuple s => k s | _ => none

/-! ### load -/
noncomputable def cut1K (q : Blk) (s : Option Nat) (o : Nat) (k : Value → Option β) : Option β :=
  @Option.rec Nat (fun _ => Option β) (@Option.rec Nat (fun _ => Option β) (nthK q.c o k) (fun _ => none) q.g) (fun γ => match q.cut (some γ) o 1 with | some [u] => k u | _ => none) s
noncomputable def loadK (A : AH) (n : Option Nat) (p : Value) (k : Value → Option β) : Option β :=
  asPtrK p fun b o s => @Option.rec Nat (fun _ => Option β)
    (A.t.getK b fun x => @AObj.rec (fun _ => Option β) (fun q => cut1K q s o k) (fun _ => none) (fun _ _ => none) x)
    (fun m => match ald A b o s m with | some l => listK l fun l => k (.agg ⟨l⟩) | none => none) n

theorem cut1K_eq (q : Blk) (s : Option Nat) (o : Nat) (k : Value → Option β) : cut1K q s o k = (match q.cut s o 1 with | some [u] => k u | _ => none) := by
  cases s with
  | some γ => rfl
  | none =>
    obtain ⟨c, e, g, m, p, own⟩ := q
    cases g with
    | some G => rfl
    | none =>
      show nthK c o k = (match (bif Nat.ble (o + 1) c.length then some ((c.drop o).take 1) else none) with | some [u] => k u | _ => none)
      rw [nthK_eq]
      cases hb : Nat.ble (o + 1) c.length with
      | false =>
        have : ¬ o + 1 ≤ c.length := fun h => by rw [Nat.ble_eq_true_of_le h] at hb; cases hb
        rw [List.getElem?_eq_none (by omega)]
        rfl
      | true =>
        have h := Nat.ble_iff hb
        have e : (c.drop o).take 1 = [c[o]] := by
          rw [List.drop_eq_getElem_cons (by omega)]; rfl
        rw [List.getElem?_eq_getElem (by omega), e]
        rfl

theorem loadK_eq (A : AH) (n : Option Nat) (p : Value) (k : Value → Option β) : loadK A n p k = aload A n p k := by
  cases p with
  | pointer a =>
    cases a with
    | none => rfl
    | some a =>
      obtain ⟨b, o, s⟩ := a
      cases n with
      | some m => rfl
      | none =>
        show A.t.getK b _ = (match (match (match A.t.get b with | some (.cells k) => some k | _ => none) with | some k => k.cut s o 1 | none => none) with | some [u] => k u | _ => none)
        rw [Tr.getK_eq]
        cases A.t.get b with
        | none => rfl
        | some x =>
          cases x with
          | map es => rfl
          | iter s p => rfl
          | cells q => exact cut1K_eq q s o k
  | _ => rfl

/-! ### two-place operations -/
def kindEqF (k l : IntKind) : Bool := Nat.beq k.ctorIdx l.ctorIdx
theorem kindEqF_eq (k l : IntKind) : kindEqF k l = kindEq k l := by cases k <;> cases l <;> rfl

def slowBin (op : BinOp) (bt : Bool) (x y : Value) (g : Value → Option β) : Option β :=
  match bt, x with
  | false, .bool _ => none
  | _, _ => abin op x y g

/-- Both numbers of one kind; both texts; else. -/
def bothK (x y : Value) (ki : IntKind → Int → Int → Option β) (ks : ByteArray → ByteArray → Option β) (slow : Option β) : Option β :=
  match x with
  | .int k a => match y with
    | .int l b => match kindEqF k l with
      | true => ki k a b
      | false => slow
    | _ => slow
  | .string s => match y with
    | .string t => ks s t
    | _ => slow
  | _ => slow

def smallK : IntKind → Nat
  | .i8 => 127 | .i16 => 32767 | .i32 => 2147483647 | .i64 => 9223372036854775807 | .u8 => 255 | .u16 => 65535 | .u32 => 4294967295 | .u64 => 18446744073709551615
theorem wrap_small (k : IntKind) (n : Nat) (h : n ≤ smallK k) : k.wrap (Int.ofNat n) = Int.ofNat n := by
  cases k <;> simp only [smallK] at h <;> simp [IntKind.wrap, IntKind.bits, IntKind.signed] <;> omega

def addN (k : IntKind) (a b : Nat) (slow : Option β) (g : Value → Option β) : Option β :=
  match Nat.ble (Nat.add a b) (smallK k) with
  | true => natK (Nat.add a b) fun s => g (.int k (.ofNat s))
  | false => slow
def addI (k : IntKind) (x y : Int) (slow : Option β) (g : Value → Option β) : Option β :=
  match x with
  | .ofNat a => match y with
    | .ofNat b => addN k a b slow g
    | .negSucc _ => slow
  | .negSucc _ => slow
def subN (k : IntKind) (a b : Nat) (slow : Option β) (g : Value → Option β) : Option β :=
  match Nat.ble b a with
  | true => match Nat.ble a (smallK k) with
    | true => natK (Nat.sub a b) fun s => g (.int k (.ofNat s))
    | false => slow
  | false => slow
def subI (k : IntKind) (x y : Int) (slow : Option β) (g : Value → Option β) : Option β :=
  match x with
  | .ofNat a => match y with
    | .ofNat b => subN k a b slow g
    | .negSucc _ => slow
  | .negSucc _ => slow

theorem addI_eq (k : IntKind) (x y : Int) (g : Value → Option β) : addI k x y (aint .add k x y g) g = aint .add k x y g := by
  cases x with
  | negSucc a => rfl
  | ofNat a =>
    cases y with
    | negSucc b => rfl
    | ofNat b =>
      show addN k a b _ g = _
      unfold addN
      split
      · rename_i h
        have h := Nat.ble_iff h
        show _ = intK (k.wrap (Int.ofNat a + Int.ofNat b)) _
        rw [intK_eq, natK_eq]
        rw [show Int.ofNat a + Int.ofNat b = Int.ofNat (Nat.add a b) from rfl, wrap_small k _ h]
      · rfl

theorem subI_eq (k : IntKind) (x y : Int) (g : Value → Option β) : subI k x y (aint .sub k x y g) g = aint .sub k x y g := by
  cases x with
  | negSucc a => rfl
  | ofNat a =>
    cases y with
    | negSucc b => rfl
    | ofNat b =>
      show subN k a b _ g = _
      unfold subN
      split
      · rename_i h
        have h := Nat.ble_iff h
        split
        · rename_i h2
          have h2 := Nat.ble_iff h2
          show _ = intK (k.wrap (Int.ofNat a - Int.ofNat b)) _
          rw [intK_eq, natK_eq]
          rw [show Int.ofNat a - Int.ofNat b = Int.ofNat (Nat.sub a b) from (Int.ofNat_sub h).symm, wrap_small k (Nat.sub a b) (Nat.le_trans (Nat.sub_le a b) h2)]
        · rfl
      · rfl

def eqI (x y : Int) : Bool :=
  match x with
  | .ofNat a => match y with
    | .ofNat b => Nat.beq a b
    | .negSucc _ => false
  | .negSucc a => match y with
    | .ofNat _ => false
    | .negSucc b => Nat.beq a b
theorem eqI_eq (x y : Int) : eqI x y = (x == y) := by
  have hb : ∀ a b : Nat, Nat.beq a b = decide (a = b) := fun a b => by
    rw [Bool.eq_iff_iff]; simp
  cases x <;> cases y <;> simp only [eqI, hb] <;> rw [Bool.eq_iff_iff] <;> simp <;> omega
def ltI (x y : Int) : Bool :=
  match x with
  | .ofNat a => match y with
    | .ofNat b => Nat.ble (Nat.succ a) b
    | .negSucc _ => false
  | .negSucc a => match y with
    | .ofNat _ => true
    | .negSucc b => Nat.ble (Nat.succ b) a
theorem ltI_eq (x y : Int) : ltI x y = decide (x < y) := by
  have hb : ∀ a b : Nat, Nat.ble a b = decide (a ≤ b) := fun a b => by
    rw [Bool.eq_iff_iff]; simp
  cases x <;> cases y <;> simp only [ltI, hb] <;> rw [Bool.eq_iff_iff] <;> simp <;> omega

def bAdd (bt : Bool) (x y : Value) (g : Value → Option β) : Option β := bothK x y (fun k a b => addI k a b (aint .add k a b g) g) (fun s t => astr .add s t g) (slowBin .add bt x y g)
def bSub (bt : Bool) (x y : Value) (g : Value → Option β) : Option β := bothK x y (fun k a b => subI k a b (aint .sub k a b g) g) (fun s t => none) (slowBin .sub bt x y g)
def bEql (bt : Bool) (x y : Value) (g : Value → Option β) : Option β := bothK x y (fun k a b => g (.bool (eqI a b))) (fun s t => g (.bool (bytesEq s.data.toList t.data.toList))) (slowBin .eql bt x y g)
def bNeq (bt : Bool) (x y : Value) (g : Value → Option β) : Option β := bothK x y (fun k a b => g (.bool (!eqI a b))) (fun s t => g (.bool (!bytesEq s.data.toList t.data.toList))) (slowBin .neq bt x y g)
def bLss (bt : Bool) (x y : Value) (g : Value → Option β) : Option β := bothK x y (fun k a b => g (.bool (ltI a b))) (fun s t => none) (slowBin .lss bt x y g)
def bGtr (bt : Bool) (x y : Value) (g : Value → Option β) : Option β := bothK x y (fun k a b => g (.bool (ltI b a))) (fun s t => none) (slowBin .gtr bt x y g)
def bLeq (bt : Bool) (x y : Value) (g : Value → Option β) : Option β := bothK x y (fun k a b => g (.bool (!ltI b a))) (fun s t => none) (slowBin .leq bt x y g)
def bGeq (bt : Bool) (x y : Value) (g : Value → Option β) : Option β := bothK x y (fun k a b => g (.bool (!ltI a b))) (fun s t => none) (slowBin .geq bt x y g)

theorem bothK_eq {op : BinOp} {bt : Bool} {x y : Value} {g : Value → Option β} {ki : IntKind → Int → Int → Option β} {ks : ByteArray → ByteArray → Option β} (hop : op ≠ .shl ∧ op ≠ .shr)
    (h1 : ∀ k a b, ki k a b = aint op k a b g) (h2 : ∀ s t, ks s t = astr op s t g) : bothK x y ki ks (slowBin op bt x y g) = slowBin op bt x y g := by
  cases x with
  | int k a =>
    cases y with
    | int l b =>
      show (match kindEqF k l with | true => ki k a b | false => _) = _
      cases h : kindEqF k l with
      | false => rfl
      | true =>
        rw [kindEqF_eq] at h
        rw [h1]
        have : abin op (.int k a) (.int l b) g = aint op k a b g := by
          unfold abin
          dsimp only
          split
          · exact absurd rfl hop.1
          · exact absurd rfl hop.2
          · rw [h]; rfl
        show _ = (match bt, Value.int k a with | false, .bool _ => none | _, _ => abin op (.int k a) (.int l b) g)
        rw [this]
        cases bt <;> rfl
    | _ => rfl
  | string s =>
    cases y with
    | string t =>
      show ks s t = _
      rw [h2]
      cases bt <;> rfl
    | _ => rfl
  | _ => rfl

noncomputable def fbin (op : BinOp) : Bool → Value → Value → (Value → Option β) → Option β :=
  match op with
  | .add => bAdd
  | .sub => bSub
  | .eql => bEql
  | .neq => bNeq
  | .lss => bLss
  | .gtr => bGtr
  | .leq => bLeq
  | .geq => bGeq
  | op => slowBin op

theorem fbin_eq (op : BinOp) (bt : Bool) (x y : Value) (g : Value → Option β) : fbin op bt x y g = slowBin op bt x y g := by
  cases op with
  | add => exact bothK_eq (by simp) (fun k a b => addI_eq k a b g) (fun s t => rfl)
  | sub => exact bothK_eq (by simp) (fun k a b => subI_eq k a b g) (fun s t => rfl)
  | eql => exact bothK_eq (by simp) (fun k a b => by rw [eqI_eq]; rfl) (fun s t => rfl)
  | neq => exact bothK_eq (by simp) (fun k a b => by rw [eqI_eq]; rfl) (fun s t => rfl)
  | lss => exact bothK_eq (by simp) (fun k a b => by rw [ltI_eq]; rfl) (fun s t => rfl)
  | gtr => exact bothK_eq (by simp) (fun k a b => by rw [ltI_eq]; rfl) (fun s t => rfl)
  | leq =>
    refine bothK_eq (by simp) (fun k a b => ?_) (fun s t => rfl)
    rw [ltI_eq]
    show _ = g (.bool (decide (a ≤ b)))
    congr 2
    rw [Bool.eq_iff_iff]; simp
  | geq =>
    refine bothK_eq (by simp) (fun k a b => ?_) (fun s t => rfl)
    rw [ltI_eq]
    show _ = g (.bool (decide (a ≥ b)))
    congr 2
    rw [Bool.eq_iff_iff]; simp
  | _ => rfl

/-! ### the next character of a text -/
noncomputable def nthE {α : Type} (l : List α) : Nat → Option β → (α → Option β) → Option β :=
  @List.rec α (fun _ => Nat → Option β → (α → Option β) → Option β) (fun _ e _ => e) (fun x _ ih n e k => @Nat.rec (fun _ => Option β) (k x) (fun m _ => ih m e k) n) l
theorem nthE_eq {α : Type} (l : List α) : ∀ (n : Nat) (e : Option β) (k : α → Option β), nthE l n e k = (match l.drop n with | [] => e | c :: _ => k c) := by
  induction l with
  | nil => intro n e k; cases n <;> rfl
  | cons x l ih =>
    intro n e k
    cases n with
    | zero => rfl
    | succ m => show nthE l m e k = _; rw [ih]; simp

noncomputable def nextB (A : AH) (b : Nat) (s : ByteArray) (pos : Nat) (k : Value → AH → Option β) : Option β :=
  nthE s.data.toList pos (k (.tuple ⟨[.bool false]⟩) A) fun c => natK c.toNat fun r => match Nat.ble 128 r with
    | true => natK (Utf8.decode s pos).1 fun r => natK (Nat.add pos (Utf8.decode s pos).2) fun pos' => Tr.putK A.t b (.iter s pos') fun t =>
        k (.tuple ⟨[.bool true, .int .i64 (.ofNat pos), .int .i32 (.ofNat r)]⟩) ⟨t, A.next⟩
    | false => natK (Nat.succ pos) fun pos' => Tr.putK A.t b (.iter s pos') fun t =>
        k (.tuple ⟨[.bool true, .int .i64 (.ofNat pos), .int .i32 (.ofNat r)]⟩) ⟨t, A.next⟩

noncomputable def nextF (A : AH) (x : Value) (k : Value → AH → Option β) : Option β :=
  match x with
  | .pointer (some ⟨b, 0, none⟩) => A.t.getK b fun o => @AObj.rec (fun _ => Option β) (fun _ => none) (fun _ => none) (fun s pos => nextB A b s pos k) o
  | _ => none

theorem nextF_eq (A : AH) (x : Value) (k : Value → AH → Option β) : nextF A x k = anextS A x k := by
  cases x with
  | pointer a =>
    cases a with
    | none => rfl
    | some a =>
      obtain ⟨b, o, s⟩ := a
      cases o with
      | zero =>
        cases s with
        | none =>
          simp only [nextF, anextS, Tr.getK_eq]
          cases A.t.get b with
          | none => rfl
          | some o =>
            cases o with
            | cells q => rfl
            | map es => rfl
            | iter s pos =>
              show nextB A b s pos k = _
              unfold nextB
              rw [nthE_eq]
              dsimp only
              cases s.data.toList.drop pos with
              | nil => rfl
              | cons c l =>
                dsimp only
                rw [natK_eq]
                cases Nat.ble 128 c.toNat with
                | true => rfl
                | false => simp only [cond_false, natK_eq]; rfl
        | some s => rfl
      | succ o => rfl
  | _ => rfl

/-! ### all operations -/
abbrev OpK (β : Type) := CallK β → Tr Value → AH → (Value → AH → Option β) → Option β

noncomputable def fMov (x : Opd) : OpK β := fun _ T A k => opdK T x fun v => k v A
noncomputable def fPick (c a b : Opd) : OpK β := fun _ T A k => opdK T c fun c => asBoolK c fun c => @Bool.rec (fun _ => Option β) (opdK T b fun v => k v A) (opdK T a fun v => k v A) c
noncomputable def fVar (c : List Value) : OpK β := fun _ _ A k => avar A c k
noncomputable def fBox (x : Opd) : OpK β := fun _ T A k => opdK T x fun v => avar A (vcells v) k
noncomputable def fBuild (z : List Value) (ps : List (Nat × Nat × Opd)) : OpK β := fun _ T A k => opt1 (opdps T ps) fun ps => abuild z ps fun v => k v A
noncomputable def fBslice (e len : Nat) (z : List Value) (ps : List (Nat × Nat × Opd)) : OpK β := fun _ T A k => opt1 (opdps T ps) fun ps => abslice A e len z ps k
noncomputable def fLoad (n : Option Nat) (p : Opd) : OpK β := fun _ T A k => opdK T p fun p => loadK A n p fun v => k v A
noncomputable def fStore (n : Nat) (p v : Opd) : OpK β := fun _ T A k => opdK T p fun p => opdK T v fun v => astore A n p v fun A => k undefV A
noncomputable def fNilck (x : Opd) : OpK β := fun _ T A k => opdK T x fun v => asPtrK v fun _ _ _ => k v A
noncomputable def fBin (op : BinOp) (bt : Bool) (x y : Opd) : OpK β := fun _ T A k => opdK T x fun x => opdK T y fun y => fbin op bt x y fun v => k v A
noncomputable def fNil (op : BinOp) (x : Opd) : OpK β := fun _ T A k => opdK T x fun x => anil op x fun v => k v A
noncomputable def fEqs (neg : Bool) (l : List (Nat × TypeDesc)) (x y : Opd) : OpK β := fun _ T A k => opdK T x fun x => opdK T y fun y => aeqs neg l x y fun v => k v A
noncomputable def fUn (op : UnOp) (x : Opd) : OpK β := fun _ T A k => opdK T x fun x => aun op x fun v => k v A
noncomputable def fCint (kd : IntKind) (x : Opd) : OpK β := fun _ T A k => opdK T x fun x => acint kd x fun v => k v A
noncomputable def fCstr (x : Opd) : OpK β := fun _ T A k => opdK T x fun x => acstr x fun v => k v A
noncomputable def fMkfn (f : Fn) (a b : List Opd) : OpK β := fun _ T A k => opdsK T a fun a => opdsK T b fun b => k (.func f ⟨a⟩ ⟨b⟩) A
noncomputable def fMkmap : OpK β := fun _ _ A k => aobj A (.map []) fun b A => k (.map (some b)) A
noncomputable def fMake (e bytes : Nat) (z : List Value) (l c : Opd) : OpK β := fun _ T A k => opdK T l fun l => opdK T c fun c => amake A e bytes z l c k
noncomputable def fSliceT (x : Opd) (lo hi : Option Opd) : OpK β := fun _ T A k => opdK T x fun x => opt1 (opdo T lo) fun lo => opt1 (opdo T hi) fun hi => asliceT x lo hi fun v => k v A
noncomputable def fSliceS (e : Nat) (x : Opd) (lo hi mx : Option Opd) : OpK β := fun _ T A k => opdK T x fun x => opt1 (opdo T lo) fun lo => opt1 (opdo T hi) fun hi => opt1 (opdo T mx) fun mx => asliceS A e x lo hi mx fun v => k v A
noncomputable def fFaddr (off : Nat) (x : Opd) : OpK β := fun _ T A k => opdK T x fun x => asPtrK x fun b o s => natK (Nat.add o off) fun o => k (.pointer (some ⟨b, o, s⟩)) A
noncomputable def fPart (off : Nat) (n : Option Nat) (x : Opd) : OpK β := fun _ T A k => opdK T x fun x => apart off n x fun v => k v A
noncomputable def fIdxS (e : Nat) (x i : Opd) : OpK β := fun _ T A k => opdK T x fun x => opdK T i fun i => asSliceK x fun b o s len => asNatK i fun m =>
  @Bool.rec (fun _ => Option β) none (natK (Nat.add o (Nat.mul m e)) fun o => k (.pointer (some ⟨b, o, s⟩)) A) (Nat.ble (Nat.succ m) len)
noncomputable def fIdxA (e len : Nat) (x i : Opd) : OpK β := fun _ T A k => opdK T x fun x => opdK T i fun i => aidxA e len x i fun v => k v A
noncomputable def fIdxT (x i : Opd) : OpK β := fun _ T A k => opdK T x fun x => opdK T i fun i => asStrK x fun s => asNatK i fun m => nthK s.data.toList m fun b => natK b.toNat fun b => k (.int .u8 (.ofNat b)) A
noncomputable def fIdxV (e len : Nat) (n : Option Nat) (x i : Opd) : OpK β := fun _ T A k => opdK T x fun x => opdK T i fun i => aidxV e len n x i fun v => k v A
noncomputable def fMm (mx : Bool) (x y : Opd) : OpK β := fun _ T A k => opdK T x fun x => opdK T y fun y => amm mx x y fun v => k v A
noncomputable def fLookup (d : TypeDesc) (z : Value) (m x : Opd) (ok : Bool) : OpK β := fun _ T A k => opdK T m fun m => opdK T x fun x => alookup A d z m x ok fun v => k v A
noncomputable def fMapset (d : TypeDesc) (m x v : Opd) : OpK β := fun _ T A k => opdK T m fun m => opdK T x fun x => opdK T v fun v => amapset A d m x v fun A => k undefV A
noncomputable def fRangeS (x : Opd) : OpK β := fun _ T A k => opdK T x fun x => arangeS A x k
noncomputable def fNextS (x : Opd) : OpK β := fun _ T A k => opdK T x fun x => nextF A x k
noncomputable def fExt (x : Opd) (i : Nat) : OpK β := fun _ T A k => opdK T x fun x => asTupK x fun c => nthK c.toList i fun v => k v A
noncomputable def fCall (f : Nat) (args : List Opd) : OpK β := fun call T A k => opdsK T args fun args => call f args A k
noncomputable def fCallv (f : Opd) (args : List Opd) : OpK β := fun call T A k => opdK T f fun f => opdsK T args fun args => match f with
  | .func (.func f) ⟨first⟩ ⟨cap⟩ => appK first args fun args => appK args cap fun args => call f args A k
  | _ => none
noncomputable def fLen (d : TypeDesc) (x : Opd) : OpK β := fun _ T A k => opdK T x fun x => bif lenD d x then alen A x fun v => k v A else none
noncomputable def fApp (e bytes : Nat) (s x : Opd) : OpK β := fun _ T A k => opdK T s fun s => opdK T x fun x => match anews A e x with
  | some (n, vs) => aapp A e bytes s n vs k
  | none => none
noncomputable def fBad : OpK β := fun _ _ _ _ => none

noncomputable def aopF (o : AOp) : OpK β :=
  @AOp.rec (fun _ => OpK β) fMov fPick fVar fBox fBuild fBslice fLoad fStore fNilck fBin fNil fEqs fUn fCint fCstr fMkfn fMkmap fMake fSliceT fSliceS fFaddr fPart fIdxS fIdxA fIdxT fIdxV fMm fLookup fMapset fRangeS fNextS fExt
    fCall fCallv fLen fApp fBad o

theorem aopF_eq (o : AOp) (call : CallK β) (T : Tr Value) (A : AH) (k : Value → AH → Option β) : aopF o call T A k = aop call T A o k := by
  cases o with
  | mov x => exact opdK_eq _ _ _
  | pick c a b =>
    show opdK T c _ = opt1 _ _
    rw [opdK_eq]
    congr 1; funext c
    cases c <;> try rfl
    rename_i c
    cases c
    · exact opdK_eq _ _ _
    · exact opdK_eq _ _ _
  | var c => rfl
  | box x => exact opdK_eq _ _ _
  | build z ps => rfl
  | bslice e len z ps => rfl
  | load n p =>
    show opdK T p _ = opt1 _ _
    rw [opdK_eq]
    congr 1; funext p
    exact loadK_eq _ _ _ _
  | store n p v =>
    show opdK T p _ = opt1 _ _
    rw [opdK_eq]
    congr 1; funext p
    exact opdK_eq _ _ _
  | nilck x =>
    show opdK T x _ = opt1 _ _
    rw [opdK_eq]
    congr 1; funext v
    cases v with
    | pointer a => cases a <;> rfl
    | _ => rfl
  | bin op bt x y =>
    show opdK T x _ = opt1 _ _
    rw [opdK_eq]
    congr 1; funext x
    show opdK T y _ = opt1 _ _
    rw [opdK_eq]
    congr 1; funext y
    exact fbin_eq _ _ _ _ _
  | nil op x => exact opdK_eq _ _ _
  | eqs neg l x y =>
    show opdK T x _ = opt1 _ _
    rw [opdK_eq]
    congr 1; funext x
    exact opdK_eq _ _ _
  | un op x => exact opdK_eq _ _ _
  | cint kd x => exact opdK_eq _ _ _
  | cstr x => exact opdK_eq _ _ _
  | mkfn f a b =>
    show opdsK T a _ = opt1 _ _
    rw [opdsK_eq]
    congr 1; funext a
    exact opdsK_eq _ _ _
  | mkmap => rfl
  | make e bytes z l c =>
    show opdK T l _ = opt1 _ _
    rw [opdK_eq]
    congr 1; funext l
    exact opdK_eq _ _ _
  | sliceT x lo hi => exact opdK_eq _ _ _
  | sliceS e x lo hi mx => exact opdK_eq _ _ _
  | faddr off x => exact opdK_eq _ _ _
  | part off n x => exact opdK_eq _ _ _
  | idxS e x i =>
    show opdK T x _ = opt1 _ _
    rw [opdK_eq]
    congr 1; funext x
    show opdK T i _ = opt1 _ _
    rw [opdK_eq]
    congr 1; funext i
    cases x <;> try rfl
    rename_i a len cap
    cases a <;> try rfl
    rename_i a
    cases i <;> try rfl
    rename_i kd n
    cases n <;> try rfl
    rename_i m
    show @Bool.rec (fun _ => Option β) none _ (Nat.ble (m + 1) len) = (bif Nat.ble (m + 1) len then _ else none)
    cases Nat.ble (m + 1) len <;> rfl
  | idxA e len x i =>
    show opdK T x _ = opt1 _ _
    rw [opdK_eq]
    congr 1; funext x
    exact opdK_eq _ _ _
  | idxT x i =>
    show opdK T x _ = opt1 _ _
    rw [opdK_eq]
    congr 1; funext x
    show opdK T i _ = opt1 _ _
    rw [opdK_eq]
    congr 1; funext i
    cases x <;> try rfl
    rename_i s
    cases i <;> try rfl
    rename_i kd n
    cases n <;> try rfl
    rename_i m
    show nthK s.data.toList m _ = (match s.data.toList[m]? with | some b => _ | none => none)
    rw [nthK_eq]
    cases s.data.toList[m]? <;> rfl
  | idxV e len n x i =>
    show opdK T x _ = opt1 _ _
    rw [opdK_eq]
    congr 1; funext x
    exact opdK_eq _ _ _
  | mm mx x y =>
    show opdK T x _ = opt1 _ _
    rw [opdK_eq]
    congr 1; funext x
    exact opdK_eq _ _ _
  | lookup d z m x ok =>
    show opdK T m _ = opt1 _ _
    rw [opdK_eq]
    congr 1; funext m
    exact opdK_eq _ _ _
  | mapset d m x v =>
    show opdK T m _ = opt1 _ _
    rw [opdK_eq]
    congr 1; funext m
    show opdK T x _ = opt1 _ _
    rw [opdK_eq]
    congr 1; funext x
    exact opdK_eq _ _ _
  | rangeS x => exact opdK_eq _ _ _
  | nextS x =>
    show opdK T x _ = opt1 _ _
    rw [opdK_eq]
    congr 1; funext x
    exact nextF_eq _ _ _
  | ext x i =>
    show opdK T x _ = opt1 _ _
    rw [opdK_eq]
    congr 1; funext x
    cases x <;> try rfl
    rename_i c
    show nthK c.toList i _ = (match c.toList[i]? with | some b => _ | none => none)
    rw [nthK_eq]
    cases c.toList[i]? <;> rfl
  | call f args => exact opdsK_eq _ _ _
  | callv f args =>
    show opdK T f _ = opt1 _ _
    rw [opdK_eq]
    congr 1; funext f
    exact opdsK_eq _ _ _
  | len d x => exact opdK_eq _ _ _
  | app e bytes s x =>
    show opdK T s _ = opt1 _ _
    rw [opdK_eq]
    congr 1; funext s
    exact opdK_eq _ _ _
  | bad => rfl

end Go.Zh
