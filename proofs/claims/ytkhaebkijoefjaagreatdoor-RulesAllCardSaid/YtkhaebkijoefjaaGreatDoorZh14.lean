/- Zh14: the abstract machine over whole functions: its code, how it runs. -/
import Derived.Test.YtkhaebkijoefjaaGreatDoorZh13
namespace Go.Zh
open Go.RowKit
set_option linter.unusedVariables false

structure SOp where
  ao : AOp
  dst : Option Nat
  guard : Option (Nat × Bool)

structure DOp where
  o : SOp
  ts : List Nat
  eff : Bool
  ps : List Nat

inductive AC where
  | skip
  | ops (l : List SOp)
  | draw (l : List DOp)
  | seq (a b : AC)
  | cond (c : Opd) (a b : AC)
  | block (id : Nat) (a : AC)
  | exit (id : Nat)
  | loop (a : AC)
  | ret

inductive Ex where
  | normal
  | exit (id : Nat)
  | ret

structure AFn where
  nt : Nat
  np : Nat
  code : AC
  res : List (Nat × Option (Option Nat))

abbrev PolyCall := (β : Type) → CallK β

variable {β : Type}

/-! ### temporaries -/
def b1 : Tr Value := .nd .nil none .nil
def b2 : Tr Value := .nd b1 none b1
def b3 : Tr Value := .nd b2 none b2
def b4 : Tr Value := .nd b3 none b3
def b5 : Tr Value := .nd b4 none b4
def b6 : Tr Value := .nd b5 none b5
def b7 : Tr Value := .nd b6 none b6
def blank (n : Nat) : Tr Value :=
  match Nat.ble n 15 with
  | true => b4
  | false => match Nat.ble n 31 with
    | true => b5
    | false => match Nat.ble n 63 with
      | true => b6
      | false => b7

noncomputable def putF (T : Tr Value) (d : Option Nat) (v : Value) (k : Tr Value → β) : β :=
  @Option.rec Nat (fun _ => β) (k T) (fun d => T.putK d v k) d

def putT (T : Tr Value) (d : Option Nat) (v : Value) : Tr Value :=
  match d with
  | none => T
  | some d => T.set d v

theorem putF_eq (T : Tr Value) (d : Option Nat) (v : Value) (k : Tr Value → β) : putF T d v k = k (putT T d v) := by
  cases d with
  | none => rfl
  | some d => exact Tr.putK_eq _ _ _ _

def wantB (b : Bool) (v : Value) (yes no : Option β) : Option β :=
  match v with
  | .bool c => match b with
    | true => match c with
      | true => yes
      | false => no
    | false => match c with
      | true => no
      | false => yes
  | _ => no
noncomputable def wantK (T : Tr Value) (g : Nat × Bool) (yes no : Option β) : Option β :=
  @Prod.rec Nat Bool (fun _ => Option β) (fun t b => T.getK t fun v => wantB b v yes no) g

/-! ### regions in their order -/
noncomputable def runF (call : PolyCall) (ao : AOp) (dst : Option Nat) (T : Tr Value) (A : AH) (k : Tr Value → AH → Option β) : Option β :=
  aopF ao (call β) T A fun v A => putF T dst v fun T => k T A
noncomputable def stepF (call : PolyCall) (o : SOp) (T : Tr Value) (A : AH) (k : Tr Value → AH → Option β) : Option β :=
  @SOp.rec (fun _ => Option β) (fun ao dst g => @Option.rec (Nat × Bool) (fun _ => Option β) (runF call ao dst T A k) (fun g => wantK T g (runF call ao dst T A k) (putF T dst undefV fun T => k T A)) g) o
noncomputable def opsF (call : PolyCall) (l : List SOp) : Tr Value → AH → (Tr Value → AH → Option β) → Option β :=
  @List.rec SOp (fun _ => Tr Value → AH → (Tr Value → AH → Option β) → Option β) (fun T A k => k T A) (fun o _ ih T A k => stepF call o T A fun T A => ih T A k) l

theorem opsF_nil (call : PolyCall) (T : Tr Value) (A : AH) (k : Tr Value → AH → Option β) : opsF call [] T A k = k T A := rfl
theorem opsF_cons (call : PolyCall) (o : SOp) (l : List SOp) (T : Tr Value) (A : AH) (k : Tr Value → AH → Option β) : opsF call (o :: l) T A k = stepF call o T A fun T A => opsF call l T A k := rfl

/-! ### regions that draw their order -/
def obeq : Option Nat → Option Nat → Bool
  | none, none => true
  | some a, some b => Nat.beq a b
  | _, _ => false

def veqs (veq : Value → Value → Bool) : List Value → List Value → Bool
  | [], [] => true
  | a :: l, b :: m => veq a b && veqs veq l m
  | _, _ => false

def veq1 : Value → Value → Bool
  | .bool a, .bool b => a == b
  | .int k a, .int l b => kindEq k l && eqI a b
  | .string a, .string b => bytesEq a.data.toList b.data.toList
  | .pointer none, .pointer none => true
  | .pointer (some p), .pointer (some q) => Nat.beq p.block q.block && Nat.beq p.off q.off && obeq p.spot q.spot
  | .slice none a b, .slice none c d => Nat.beq a c && Nat.beq b d
  | .slice (some p) a b, .slice (some q) c d => Nat.beq p.block q.block && Nat.beq p.off q.off && obeq p.spot q.spot && Nat.beq a c && Nat.beq b d
  | .map none, .map none => true
  | .map (some a), .map (some b) => Nat.beq a b
  | _, _ => false

def veq : Value → Value → Bool
  | .agg a, .agg b => veqs veq1 a.toList b.toList
  | .tuple a, .tuple b => veqs veq1 a.toList b.toList
  | a, b => veq1 a b

def pairK (v : Value) (A : AH) : Option (Value × AH) := some (v, A)

noncomputable def restrictF (T : Tr Value) (l : List Nat) : Tr Value → (Tr Value → Option β) → Option β :=
  @List.rec Nat (fun _ => Tr Value → (Tr Value → Option β) → Option β) (fun S k => k S) (fun t _ ih S k => T.getK t fun v => S.putK t v fun S => ih S k) l

structure Rec where
  d : DOp
  S : Tr Value
  v : Value

def consR (ps : List Nat) (d : DOp) (S : Tr Value) (v : Value) (rs : List Rec) : List Rec :=
  match ps with
  | [] => rs
  | _ :: _ => ⟨d, S, v⟩ :: rs

/-- One operation of such a region: on its own operands alone. -/
noncomputable def drun (call : PolyCall) (d : DOp) (T : Tr Value) (A : AH) (k : Tr Value → AH → Tr Value → Value → Option β) : Option β :=
  restrictF T d.ts b6 fun S => @Option.rec (Value × AH) (fun _ => Option β) none (fun p => @Prod.rec Value AH (fun _ => Option β) (fun v A' => putF T d.o.dst v fun T => k T (@Bool.rec (fun _ => AH) A A' d.eff) S v) p) (aopF d.o.ao (call (Value × AH)) S A pairK)

noncomputable def dstep (call : PolyCall) (d : DOp) (T : Tr Value) (A : AH) (rs : List Rec) (k : Tr Value → AH → List Rec → Option β) : Option β :=
  @Option.rec (Nat × Bool) (fun _ => Option β) (drun call d T A fun T A S v => k T A (consR d.ps d S v rs))
    (fun g => wantK T g (drun call d T A fun T A S v => k T A (consR d.ps d S v rs)) (putF T d.o.dst undefV fun T => k T A rs)) d.o.guard

noncomputable def pass1 (call : PolyCall) (l : List DOp) : Tr Value → AH → List AH → List Rec → (Tr Value → AH → List AH → List Rec → Option β) → Option β :=
  @List.rec DOp (fun _ => Tr Value → AH → List AH → List Rec → (Tr Value → AH → List AH → List Rec → Option β) → Option β) (fun T A hs rs k => k T A (A :: hs) rs)
    (fun d _ ih T A hs rs k => dstep call d T A rs fun T A' rs => ih T A' (A :: hs) rs k) l

/-- At each of the given places the operation yields the same. -/
noncomputable def sameAt (call : PolyCall) (hs : List AH) (r : Rec) : List Nat → Bool
  | [] => true
  | p :: ps => match nthK hs p fun A => aopF r.d.o.ao (call Bool) r.S A fun v _ => some (veq r.v v) with
    | some true => sameAt call hs r ps
    | _ => false

noncomputable def pass2 (call : PolyCall) (hs : List AH) : List Rec → Bool
  | [] => true
  | r :: rs => match sameAt call hs r r.d.ps with
    | true => pass2 call hs rs
    | false => false

noncomputable def drawF (call : PolyCall) (l : List DOp) (T : Tr Value) (A : AH) (k : Tr Value → AH → Option β) : Option β :=
  pass1 call l T A [] [] fun T A hs rs => match pass2 call hs.reverse rs with
    | true => k T A
    | false => none

/-! ### code -/
abbrev CodeK (β : Type) := Tr Value → AH → (Ex → Tr Value → AH → Option β) → Option β

noncomputable def thenK (e : Ex) (T : Tr Value) (A : AH) (nx : Tr Value → AH → Option β) (k : Ex → Tr Value → AH → Option β) : Option β :=
  @Ex.rec (fun _ => Option β) (nx T A) (fun id => k (.exit id) T A) (k .ret T A) e
noncomputable def blockK (id : Nat) (e : Ex) (T : Tr Value) (A : AH) (k : Ex → Tr Value → AH → Option β) : Option β :=
  @Ex.rec (fun _ => Option β) (k .normal T A) (fun i => @Bool.rec (fun _ => Option β) (k (.exit i) T A) (k .normal T A) (Nat.beq i id)) (k .ret T A) e

noncomputable def roundsF (body : CodeK β) (n : Nat) : CodeK β :=
  @Nat.rec (fun _ => CodeK β) (fun _ _ _ => none) (fun _ ih T A k => body T A fun e T A => thenK e T A (fun T A => ih T A k) k) n

noncomputable def execF (call : PolyCall) (F : Nat) (c : AC) : CodeK β :=
  @AC.rec (fun _ => CodeK β) (fun T A k => k .normal T A) (fun l T A k => opsF call l T A fun T A => k .normal T A) (fun l T A k => drawF call l T A fun T A => k .normal T A)
    (fun _ _ ia ib T A k => ia T A fun e T A => thenK e T A (fun T A => ib T A k) k)
    (fun c _ _ ia ib T A k => opdK T c fun v => asBoolK v fun b => @Bool.rec (fun _ => Option β) (ib T A k) (ia T A k) b)
    (fun id _ ia T A k => ia T A fun e T A => blockK id e T A k)
    (fun id T A k => k (.exit id) T A)
    (fun _ ia T A k => roundsF ia F T A k)
    (fun T A k => k .ret T A) c

noncomputable def resF (T : Tr Value) (A : AH) (l : List (Nat × Option (Option Nat))) : (List Value → Option β) → Option β :=
  @List.rec (Nat × Option (Option Nat)) (fun _ => (List Value → Option β) → Option β) (fun k => k [])
    (fun p _ ih k => T.getK p.1 fun v => match p.2 with
      | none => ih fun vs => k (v :: vs)
      | some n => aload A n v fun v => ih fun vs => k (v :: vs)) l

def resV (vs : List Value) : Value :=
  match vs with
  | [v] => v
  | vs => .tuple ⟨vs⟩

noncomputable def argsF (l : List Value) : Nat → Tr Value → (Tr Value → Option β) → Option β :=
  @List.rec Value (fun _ => Nat → Tr Value → (Tr Value → Option β) → Option β) (fun _ T k => k T) (fun v _ ih i T k => T.putK i v fun T => natK (Nat.succ i) fun i => ih i T k) l

/-- A function's run. -/
noncomputable def runFn (call : PolyCall) (F : Nat) (fn : AFn) (args : List Value) (A : AH) (k : Value → AH → Option β) : Option β :=
  match Nat.ble args.length fn.nt with
  | true => argsF args 0 (blank fn.nt) fun T => execF call F fn.code T A fun e T A => match e with
    | .exit _ => none
    | _ => resF T A fn.res fun vs => k (resV vs) A
  | false => none

/-- A run of a function by its number. -/
noncomputable def acall (tbl : Tr AFn) (F : Nat) (base : PolyCall) (n : Nat) : PolyCall :=
  @Nat.rec (fun _ => PolyCall) base (fun _ ih β f args A k => match tbl.get f with
    | some fn => runFn ih F fn args A k
    | none => base β f args A k) n

/-! ### out of the program's code -/
def prepSOp (P : Program) (gl : List Nat) (nt : Nat) (ops : Array Oper) (o : Oper) : Option SOp :=
  match (match prepOp P gl o.op with | some ao => some ao | none => some .bad) with
  | some ao => bif (match o.dst with | some d => Nat.blt d nt | none => true) then
      match o.guard with
      | none => some ⟨ao, o.dst, none⟩
      | some (g, b) => match ops[g]? with
        | some og => match og.dst with
          | some t => some ⟨ao, o.dst, some (t, b)⟩
          | none => none
        | none => none
      else none
  | none => none

def prepSOps (P : Program) (gl : List Nat) (nt : Nat) (ops : Array Oper) : List Oper → Option (List SOp)
  | [] => some []
  | o :: l => match prepSOp P gl nt ops o with
    | some s => match prepSOps P gl nt ops l with
      | some r => some (s :: r)
      | none => none
    | none => none

def opdTs : Opd → List Nat
  | .t n => [n]
  | .c _ => []
def opdTs' : Option Opd → List Nat
  | some x => opdTs x
  | none => []

def aoTs : AOp → List Nat
  | .mov x | .box x | .load _ x | .nilck x | .nil _ x | .un _ x | .cint _ x | .cstr x | .faddr _ x | .part _ _ x | .rangeS x | .nextS x | .ext x _ | .len _ x => opdTs x
  | .pick a b c => opdTs a ++ opdTs b ++ opdTs c
  | .var _ | .mkmap | .bad => []
  | .build _ ps | .bslice _ _ _ ps => ps.flatMap fun p => opdTs p.2.2
  | .store _ x y | .bin _ _ x y | .eqs _ _ x y | .make _ _ _ x y | .idxS _ x y | .idxA _ _ x y | .idxT x y | .idxV _ _ _ x y | .mm _ x y | .lookup _ _ x y _ | .app _ _ x y => opdTs x ++ opdTs y
  | .mkfn _ a b => a.flatMap opdTs ++ b.flatMap opdTs
  | .sliceT x a b => opdTs x ++ opdTs' a ++ opdTs' b
  | .sliceS _ x a b c => opdTs x ++ opdTs' a ++ opdTs' b ++ opdTs' c
  | .mapset _ a b c => opdTs a ++ opdTs b ++ opdTs c
  | .call _ l => l.flatMap opdTs
  | .callv f l => opdTs f ++ l.flatMap opdTs

/-- Operations that leave the abstract heap as it is. -/
def reader : AOp → Bool
  | .mov _ | .pick .. | .build .. | .load .. | .nilck _ | .bin .. | .nil .. | .eqs .. | .un .. | .cint .. | .cstr _ | .mkfn .. | .sliceT .. | .sliceS .. | .faddr .. | .part .. | .idxS .. | .idxA .. | .idxT .. | .idxV .. | .mm .. | .lookup .. | .ext .. | .len .. => true
  | _ => false

/-- The operations that must stand ahead. -/
def ahead (pr : List (List Nat)) (o : Oper) : List Nat :=
  (o.after.toList.filter (Region.binds .any)).foldl (fun acc e => if acc.contains e.on then acc else (e.on :: ((pr[e.on]?).getD [])).foldl (fun acc x => if acc.contains x then acc else x :: acc) acc) []

def aheads : List Oper → List (List Nat) → List (List Nat)
  | [], pr => pr
  | o :: l, pr => aheads l (pr ++ [ahead pr o])

def mkD (es : List Nat) (pr : List (List Nat)) (n : Nat) (i : Nat) (s : SOp) : DOp :=
  let eff := !reader s.ao
  let pri := (pr[i]?).getD []
  let lo := (es.filter pri.contains).foldl (fun a e => Nat.max a (e + 1)) 0
  let hi := (es.filter fun e => ((pr[e]?).getD []).contains i).foldl Nat.min n
  let ts := aoTs s.ao ++ (match s.guard with | some (t, _) => [t] | none => [])
  let pos := lo :: (es.filter fun e => Nat.ble lo e && Nat.blt e hi).map (· + 1)
  ⟨s, ts, eff, if eff || pos.length == 1 then [] else pos⟩

def mkGo (es : List Nat) (pr : List (List Nat)) (n : Nat) : Nat → List SOp → List DOp
  | _, [] => []
  | i, s :: l => mkD es pr n i s :: mkGo es pr n (i + 1) l

def effs : Nat → List SOp → List Nat
  | _, [] => []
  | i, s :: l => if reader s.ao then effs (i + 1) l else i :: effs (i + 1) l

def mkDs (pr : List (List Nat)) (l : List SOp) : List DOp := mkGo (effs 0 l) pr l.length 0 l

/-! what is looked at, by the number of the operation -/
section
variable (ops : List Oper) (ds : List DOp) (pr : List (List Nat))
def dAft (i : Nat) : List Nat :=
  match ops[i]? with
  | some o => (o.after.toList.filter (Region.binds .any)).map (·.on)
  | none => []
def dDst (i : Nat) : Option Nat :=
  match ds[i]? with
  | some d => d.o.dst
  | none => none
def dTs (i : Nat) : List Nat :=
  match ds[i]? with
  | some d => d.ts
  | none => []
def dEff (i : Nat) : Bool :=
  match ds[i]? with
  | some d => d.eff
  | none => false
def dPs (i : Nat) : List Nat :=
  match ds[i]? with
  | some d => d.ps
  | none => []
def dPr (i : Nat) : List Nat :=
  match pr[i]? with
  | some l => l
  | none => []
def hasN (l : List Nat) (n : Nat) : Bool := l.any fun x => Nat.beq x n
/-- The places between which operation i may come up read the same memory as one at which it is looked at. -/
def okPos (n i : Nat) (es : List Nat) : Bool :=
  (List.range (n + 1)).all fun p =>
    !(es.all fun e => !(hasN (dPr pr i) e) || Nat.blt e p) || !(es.all fun e => !(hasN (dPr pr e) i) || Nat.ble p e) ||
      (i :: dPs ds i).any fun q => Nat.ble q n && es.all fun e => Nat.blt e p == Nat.blt e q
def okTwo (i j : Nat) : Bool :=
  match dDst ds j with
  | some t => (!(hasN (dTs ds i) t) || hasN (dPr pr i) j || hasN (dPr pr j) i) && (match dDst ds i with | some u => !(Nat.beq u t) | none => true)
  | none => true
def okOne (n : Nat) (es : List Nat) (i : Nat) : Bool :=
  ((dAft ops i).all fun e => Nat.blt e i) && ((dPr pr i).all fun j => (dAft ops i).any fun e => Nat.beq e j || hasN (dPr pr e) j) &&
  ((List.range n).all fun j => Nat.beq j i || okTwo ds pr i j) && (!(dEff ds i) || es.all fun e => !(Nat.blt e i) || hasN (dPr pr i) e) && (dEff ds i || okPos ds pr n i es)
def okD : Bool :=
  let n := ds.length
  let es := (List.range n).filter (dEff ds)
  Nat.beq ops.length n && (ds.all fun d => (d.eff || reader d.o.ao) && match d.o.guard with | some (t, _) => hasN d.ts t | none => true) && (List.range n).all fun i => okOne ops ds pr n es i
end

def prepC (P : Program) (gl : List Nat) (nt : Nat) : Code → Option AC
  | .skip | .label _ => some .skip
  | .region _ ops false => match prepSOps P gl nt ops ops.toList with
    | some l => some (.ops l)
    | none => none
  | .region _ ops true => match prepSOps P gl nt ops ops.toList with
    | some l =>
      let pr := aheads ops.toList []
      let ds := mkDs pr l
      bif okD ops.toList ds pr then some (.draw ds) else none
    | none => none
  | .seq a b => match prepC P gl nt a, prepC P gl nt b with
    | some a, some b => some (.seq a b)
    | _, _ => none
  | .cond c a b => match prepOpd gl c, prepC P gl nt a, prepC P gl nt b with
    | some c, some a, some b => some (.cond c a b)
    | _, _, _ => none
  | .block id a => match prepC P gl nt a with
    | some a => some (.block id a)
    | none => none
  | .exit id => some (.exit id)
  | .loop a => match prepC P gl nt a with
    | some a => some (.loop a)
    | none => none
  | .ret => some .ret
  | _ => none

def resTs (P : Program) : List ResultVar → Option (List (Nat × Option (Option Nat)))
  | [] => some []
  | .tmp t :: l => match resTs P l with
    | some r => some ((t, none) :: r)
    | none => none
  | .cell t ty :: l => match resTs P l, loadKind P ty with
    | some r, some n => some ((t, some n) :: r)
    | _, _ => none

def prepF (P : Program) (gl : List Nat) (f : Nat) : Option AFn :=
  match P.funcs[f]? with
  | some fn => match fn.body, resTs P fn.results.toList with
    | some c, some rs => match prepC P gl fn.ntmps c with
      | some c => some ⟨fn.ntmps, fn.params.size, c, rs⟩
      | none => none
    | _, _ => none
  | none => none

end Go.Zh
