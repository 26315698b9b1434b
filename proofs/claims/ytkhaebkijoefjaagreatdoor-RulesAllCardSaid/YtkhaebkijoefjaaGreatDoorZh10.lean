/- Zh10: the abstract machine's operations in one type, how they are made out of the program's, and that they stand for them. -/
import Derived.Test.YtkhaebkijoefjaaGreatDoorZh9
namespace Go.Zh
open Go.RowKit
set_option linter.unusedVariables false

inductive AOp where
  | mov (x : Opd)
  | pick (c a b : Opd)
  | var (c : List Value)
  | box (x : Opd)
  | build (z : List Value) (ps : List (Nat × Nat × Opd))
  | bslice (e len : Nat) (z : List Value) (ps : List (Nat × Nat × Opd))
  | load (n : Option Nat) (p : Opd)
  | store (n : Nat) (p v : Opd)
  | nilck (x : Opd)
  | bin (op : BinOp) (bt : Bool) (x y : Opd)
  | nil (op : BinOp) (x : Opd)
  | eqs (neg : Bool) (l : List (Nat × TypeDesc)) (x y : Opd)
  | un (op : UnOp) (x : Opd)
  | cint (k : IntKind) (x : Opd)
  | cstr (x : Opd)
  | mkfn (fn : Fn) (first cap : List Opd)
  | mkmap
  | make (e bytes : Nat) (z : List Value) (l c : Opd)
  | sliceT (x : Opd) (lo hi : Option Opd)
  | sliceS (e : Nat) (x : Opd) (lo hi mx : Option Opd)
  | faddr (off : Nat) (x : Opd)
  | part (off : Nat) (n : Option Nat) (x : Opd)
  | idxS (e : Nat) (x i : Opd)
  | idxA (e len : Nat) (x i : Opd)
  | idxT (x i : Opd)
  | idxV (e len : Nat) (n : Option Nat) (x i : Opd)
  | mm (mx : Bool) (x y : Opd)
  | lookup (d : TypeDesc) (z : Value) (m x : Opd) (ok : Bool)
  | mapset (d : TypeDesc) (m x v : Opd)
  | rangeS (x : Opd)
  | nextS (x : Opd)
  | ext (x : Opd) (i : Nat)
  | call (f : Nat) (args : List Opd)
  | callv (f : Opd) (args : List Opd)
  | len (d : TypeDesc) (x : Opd)
  | app (e bytes : Nat) (s x : Opd)
  | bad

/-! ### parts with operands -/
def opdo (T : Tr Value) : Option Opd → Option (Option Value)
  | none => some none
  | some x => match opd T x with
    | some v => some (some v)
    | none => none

def opdps (T : Tr Value) : List (Nat × Nat × Opd) → Option (List (Nat × Nat × Value))
  | [] => some []
  | (a, b, x) :: l => match opd T x with
    | some v => match opdps T l with
      | some r => some ((a, b, v) :: r)
      | none => none
    | none => none

variable {β : Type}

abbrev CallK (β : Type) := Nat → List Value → AH → (Value → AH → Option β) → Option β

def undefV : Value := .tuple ⟨[]⟩

def opt1 {α : Type} (x : Option α) (k : α → Option β) : Option β :=
  match x with
  | some v => k v
  | none => none

noncomputable def aop (call : CallK β) (T : Tr Value) (A : AH) (o : AOp) (k : Value → AH → Option β) : Option β :=
  let kv : Value → Option β := fun v => k v A
  let ku : AH → Option β := fun A => k undefV A
  match o with
  | .mov x => opt1 (opd T x) kv
  | .pick c a b => opt1 (opd T c) fun c => match c with
    | .bool true => opt1 (opd T a) kv
    | .bool false => opt1 (opd T b) kv
    | _ => none
  | .var c => avar A c k
  | .box x => opt1 (opd T x) fun v => avar A (vcells v) k
  | .build z ps => opt1 (opdps T ps) fun ps => abuild z ps kv
  | .bslice e len z ps => opt1 (opdps T ps) fun ps => abslice A e len z ps k
  | .load n p => opt1 (opd T p) fun p => aload A n p kv
  | .store n p v => opt1 (opd T p) fun p => opt1 (opd T v) fun v => astore A n p v ku
  | .nilck x => opt1 (opd T x) fun v => match v with
    | .pointer (some _) => k v A
    | _ => none
  | .bin op bt x y => opt1 (opd T x) fun x => opt1 (opd T y) fun y => match bt, x with
    | false, .bool _ => none
    | _, _ => abin op x y kv
  | .nil op x => opt1 (opd T x) fun x => anil op x kv
  | .eqs neg l x y => opt1 (opd T x) fun x => opt1 (opd T y) fun y => aeqs neg l x y kv
  | .un op x => opt1 (opd T x) fun x => aun op x kv
  | .cint kd x => opt1 (opd T x) fun x => acint kd x kv
  | .cstr x => opt1 (opd T x) fun x => acstr x kv
  | .mkfn fn first cap => opt1 (opds T first) fun first => opt1 (opds T cap) fun cap => k (.func fn ⟨first⟩ ⟨cap⟩) A
  | .mkmap => aobj A (.map []) fun b A => k (.map (some b)) A
  | .make e bytes z l c => opt1 (opd T l) fun l => opt1 (opd T c) fun c => amake A e bytes z l c k
  | .sliceT x lo hi => opt1 (opd T x) fun x => opt1 (opdo T lo) fun lo => opt1 (opdo T hi) fun hi => asliceT x lo hi kv
  | .sliceS e x lo hi mx => opt1 (opd T x) fun x => opt1 (opdo T lo) fun lo => opt1 (opdo T hi) fun hi => opt1 (opdo T mx) fun mx => asliceS A e x lo hi mx kv
  | .faddr off x => opt1 (opd T x) fun x => afaddr off x kv
  | .part off n x => opt1 (opd T x) fun x => apart off n x kv
  | .idxS e x i => opt1 (opd T x) fun x => opt1 (opd T i) fun i => aidxS e x i kv
  | .idxA e len x i => opt1 (opd T x) fun x => opt1 (opd T i) fun i => aidxA e len x i kv
  | .idxT x i => opt1 (opd T x) fun x => opt1 (opd T i) fun i => aidxT x i kv
  | .idxV e len n x i => opt1 (opd T x) fun x => opt1 (opd T i) fun i => aidxV e len n x i kv
  | .mm mx x y => opt1 (opd T x) fun x => opt1 (opd T y) fun y => amm mx x y kv
  | .lookup d z m x ok => opt1 (opd T m) fun m => opt1 (opd T x) fun x => alookup A d z m x ok kv
  | .mapset d m x v => opt1 (opd T m) fun m => opt1 (opd T x) fun x => opt1 (opd T v) fun v => amapset A d m x v ku
  | .rangeS x => opt1 (opd T x) fun x => arangeS A x k
  | .nextS x => opt1 (opd T x) fun x => anextS A x k
  | .ext x i => opt1 (opd T x) fun x => aext x i kv
  | .call f args => opt1 (opds T args) fun args => call f args A k
  | .callv f args => opt1 (opd T f) fun f => opt1 (opds T args) fun args => match f with
    | .func (.func f) ⟨first⟩ ⟨cap⟩ => appK first args fun args => appK args cap fun args => call f args A k
    | _ => none
  | .len d x => opt1 (opd T x) fun x => bif lenD d x then alen A x kv else none
  | .app e bytes s x => opt1 (opd T s) fun s => opt1 (opd T x) fun x => match anews A e x with
    | some (n, vs) => aapp A e bytes s n vs k
    | none => none
  | .bad => none

/-! ### out of the program's operations -/
def prepO (gl : List Nat) : Option Operand → Option (Option Opd)
  | none => some none
  | some x => match prepOpd gl x with
    | some y => some (some y)
    | none => none

def prepFs (gl : List Nat) (pl : List (Nat × Nat)) : List (Nat × Operand) → Option (List (Nat × Nat × Opd))
  | [] => some []
  | (i, x) :: l => match pl[i]?, prepOpd gl x with
    | some (off, size), some y => match prepFs gl pl l with
      | some r => some ((off, size, y) :: r)
      | none => none
    | _, _ => none

def prepEs (gl : List Nat) (e : Nat) : List (Nat × Operand) → Option (List (Nat × Nat × Opd))
  | [] => some []
  | (i, x) :: l => match prepOpd gl x with
    | some y => match prepEs gl e l with
      | some r => some ((i * e, e, y) :: r)
      | none => none
    | none => none

def elemInfo (P : Program) (t : TypeId) : Option (TypeId × TypeInfo) :=
  match P.underlying t with
  | some (.slice e) => match P.info? e with
    | some i => some (e, i)
    | none => none
  | _ => none

def isNilConst : Operand → Bool
  | .const (.slice none 0 0) => true
  | _ => false

def isBoolT (P : Program) (t : TypeId) : Bool :=
  match P.underlying t with
  | some .bool => true
  | _ => false

def isStrT (P : Program) (t : TypeId) : Bool :=
  match P.underlying t with
  | some .string => true
  | _ => false

def isIntD : TypeDesc → Bool
  | .int _ => true
  | _ => false

def isSome {α : Type} : Option α → Bool
  | some _ => true
  | none => false

/-- Calls that can be followed: of a function by its number, of a function value; len, append. -/
def prepCall (P : Program) (gl : List Nat) (c : Call) : Option AOp :=
  match c.callee with
  | .value (.func f) => match prepOpds gl c.args.toList with
    | some args => some (.call f args)
    | none => none
  | .value x => match prepOpd gl x, prepOpds gl c.args.toList with
    | some x, some args => some (.callv x args)
    | _, _ => none
  | .builtin .len => match c.argTypes.toList, c.args.toList with
    | [t], [x] => match P.underlying t, prepOpd gl x with
      | some d, some x => some (.len d x)
      | _, _ => none
    | _, _ => none
  | .builtin .min => match c.args.toList with
    | [x, y] => match prepOpd gl x, prepOpd gl y with
      | some x, some y => some (.mm false x y)
      | _, _ => none
    | _ => none
  | .builtin .max => match c.args.toList with
    | [x, y] => match prepOpd gl x, prepOpd gl y with
      | some x, some y => some (.mm true x y)
      | _, _ => none
    | _ => none
  | .builtin .append => match c.argTypes.toList, c.args.toList with
    | [t, xt], [s, x] => match elemInfo P t, P.underlying xt, prepOpd gl s, prepOpd gl x with
      | some (e, i), some d, some s, some x => match zeroOf P e with
        | some _ => bif isIntD d then none else some (.app i.size i.bytes s x)
        | none => none
      | _, _, _, _ => none
    | _, _ => none
  | _ => none

def prepOp (P : Program) (gl : List Nat) (o : Op) : Option AOp :=
  match o with
  | .move x | .assign x => match prepOpd gl x with
    | some x => some (.mov x)
    | none => none
  | .pick c a b => match prepOpd gl c, prepOpd gl a, prepOpd gl b with
    | some c, some a, some b => some (.pick c a b)
    | _, _, _ => none
  | .alloc t => match zeroOf P t with
    | some z => some (.var z)
    | none => none
  | .box _ x => match prepOpd gl x with
    | some x => some (.box x)
    | none => none
  | .build t ps => match P.underlying t with
    | some (.struct fs) => match places P fs, zeroOf P t with
      | some pl, some z => match prepFs gl pl ps.toList with
        | some ps => some (.build z ps)
        | none => none
      | _, _ => none
    | _ => none
  | .buildSlice t len ps => match elemInfo P t with
    | some (e, i) => match zeroOf P e, prepEs gl i.size ps.toList with
      | some z, some ps => bif Nat.ble (len * i.size) 16777216 && Nat.ble 1 i.size then some (.bslice i.size len (rep z len) ps) else none
      | _, _ => none
    | none => none
  | .load t x => match loadKind P t, prepOpd gl x with
    | some n, some x => some (.load n x)
    | _, _ => none
  | .store t x v => match P.info? t, prepOpd gl x, prepOpd gl v with
    | some i, some x, some v => some (.store i.size x v)
    | _, _, _ => none
  | .nilCheck x => match prepOpd gl x with
    | some x => some (.nilck x)
    | none => none
  | .binOp op t x y _ => match prepOpd gl x with
    | some x' => bif isNilConst y then (match P.underlying t with
        | some (.slice _) => some (.nil op x')
        | _ => none)
      else match prepOpd gl y with
        | some y' => match op, flatT P t with
          | .eql, some l => some (.eqs false l x' y')
          | .neq, some l => some (.eqs true l x' y')
          | _, _ => some (.bin op (isBoolT P t) x' y')
        | none => none
    | none => none
  | .unOp op _ x => match prepOpd gl x with
    | some x => some (.un op x)
    | none => none
  | .convert s d x => match P.underlying s, P.underlying d, prepOpd gl x with
    | some _, some (.int k), some x => some (.cint k x)
    | some _, some .string, some x => some (.cstr x)
    | _, _, _ => none
  | .makeFunc fn first cap => match prepOpds gl first.toList, prepOpds gl cap.toList with
    | some first, some cap => some (.mkfn fn first cap)
    | _, _ => none
  | .makeMap _ none => some .mkmap
  | .makeSlice t l c => match elemInfo P t, prepOpd gl l, prepOpd gl c with
    | some (e, i), some l, some c => match zeroOf P e with
      | some z => bif Nat.ble 1 i.size then some (.make i.size i.bytes z l c) else none
      | none => none
    | _, _, _ => none
  | .slice t x lo hi mx => match P.underlying t, prepOpd gl x, prepO gl lo, prepO gl hi, prepO gl mx with
    | some .string, some x, some lo, some hi, some none => some (.sliceT x lo hi)
    | some (.slice e), some x, some lo, some hi, some mx => match P.info? e with
      | some i => some (.sliceS i.size x lo hi mx)
      | none => none
    | _, _, _, _, _ => none
  | .fieldAddr s x f => match fieldOff P s f, prepOpd gl x with
    | some off, some x => some (.faddr off x)
    | _, _ => none
  | .field t x f => match P.underlying t, prepOpd gl x with
    | some (.struct fs), some x => match fs[f]? with
      | some fd => match loadKind P fd.type with
        | some n => some (.part fd.offset n x)
        | none => none
      | none => none
    | _, _ => none
  | .indexAddr t x i => match P.underlying t, prepOpd gl x, prepOpd gl i with
    | some (.slice e), some x, some i => match P.info? e with
      | some inf => some (.idxS inf.size x i)
      | none => none
    | some (.array len e), some x, some i => match P.info? e with
      | some inf => some (.idxA inf.size len x i)
      | none => none
    | _, _, _ => none
  | .index t x i => match P.underlying t, prepOpd gl x, prepOpd gl i with
    | some .string, some x, some i => some (.idxT x i)
    | some (.array len e), some x, some i => match P.info? e, loadKind P e with
      | some inf, some n => some (.idxV inf.size len n x i)
      | _, _ => none
    | _, _, _ => none
  | .lookup t m x ok => match P.underlying t, prepOpd gl m, prepOpd gl x with
    | some (.map k e), some m, some x => match P.underlying k, P.info? e with
      | some d, some i => match i.zero with
        | some z => bif constOK z then some (.lookup d z m x ok) else none
        | none => none
      | _, _ => none
    | _, _, _ => none
  | .mapUpdate t m x v | .insert t m x v => match P.underlying t, prepOpd gl m, prepOpd gl x, prepOpd gl v with
    | some (.map k _), some m, some x, some v => match P.underlying k with
      | some d => some (.mapset d m x v)
      | none => none
    | _, _, _, _ => none
  | .range t x => match prepOpd gl x with
    | some x => bif isStrT P t then some (.rangeS x) else none
    | none => none
  | .next x true => match prepOpd gl x with
    | some x => some (.nextS x)
    | none => none
  | .extract x i => match prepOpd gl x with
    | some x => some (.ext x i)
    | none => none
  | .call c => prepCall P gl c
  | _ => none

end Go.Zh
